import Derived.Test.YtahlmfpllhmjoaaGreatDoorLiftR
import Derived.Test.YtahlmfpllhmjoaaGreatDoorLiftZ
import Derived.Test.YtahlmfpllhmjoaaGreatDoorLiftN
set_option linter.unusedVariables false
set_option linter.unusedSimpArgs false
namespace Lift
open Go
structure Entity_ where
  ID:Int
  Instance:Int
def Entity_.rep:Rep Entity_:=Rep.iso (λ s=>(s.ID,s.Instance,())) (Rep.prod (Rep.int .u8) (Rep.prod (Rep.int .u8) Rep.unit))
def Entity_.z:Entity_:=⟨0,0⟩
theorem Entity_.zr:Zr Entity_.rep [.int .u8 0,.int .u8 0] Entity_.z:=Zr.iso (r:=(Rep.prod (Rep.int .u8) (Rep.prod (Rep.int .u8) Rep.unit))) _ (Zr.of (Zr.prod (Zr.int .u8 0) (Zr.prod (Zr.int .u8 0) Zr.unit)) rfl)
theorem Entity_.pure:Pure Entity_.rep:=Pure.iso (Pure.prod Pure.int (Pure.prod Pure.int Pure.unit))
def Entity_.eqb (a b:Entity_):Bool:=(eqI a.ID b.ID&&(eqI a.Instance b.Instance&&true))
theorem Entity_.f0:Fld Entity_.rep 0 (Rep.int .u8) Entity_.ID (λ s y=>{ s with ID:=y }):=Fld.iso (λ s:Entity_=>(s.ID,s.Instance,())) Fld.here (λ _=>rfl) (λ _ _=>rfl)
theorem Entity_.f1:Fld Entity_.rep 1 (Rep.int .u8) Entity_.Instance (λ s y=>{ s with Instance:=y }):=Fld.iso (λ s:Entity_=>(s.ID,s.Instance,())) (Fld.there Fld.here) (λ _=>rfl) (λ _ _=>rfl)
structure Point_ where
  Raw:Int
  Value:Int
def Point_.rep:Rep Point_:=Rep.iso (λ s=>(s.Raw,s.Value,())) (Rep.prod (Rep.int .u8) (Rep.prod (Rep.int .i64) Rep.unit))
def Point_.z:Point_:=⟨0,0⟩
theorem Point_.zr:Zr Point_.rep [.int .u8 0,.int .i64 0] Point_.z:=Zr.iso (r:=(Rep.prod (Rep.int .u8) (Rep.prod (Rep.int .i64) Rep.unit))) _ (Zr.of (Zr.prod (Zr.int .u8 0) (Zr.prod (Zr.int .i64 0) Zr.unit)) rfl)
theorem Point_.pure:Pure Point_.rep:=Pure.iso (Pure.prod Pure.int (Pure.prod Pure.int Pure.unit))
theorem Point_.f0:Fld Point_.rep 0 (Rep.int .u8) Point_.Raw (λ s y=>{ s with Raw:=y }):=Fld.iso (λ s:Point_=>(s.Raw,s.Value,())) Fld.here (λ _=>rfl) (λ _ _=>rfl)
theorem Point_.f1:Fld Point_.rep 1 (Rep.int .i64) Point_.Value (λ s y=>{ s with Value:=y }):=Fld.iso (λ s:Point_=>(s.Raw,s.Value,())) (Fld.there Fld.here) (λ _=>rfl) (λ _ _=>rfl)
structure Conversion_ where
  Form:Int
  Signed:Bool
  M:Int
  B:Int
  K1:Int
  K2:Int
  Points:List Point_
def Conversion_.rep:Rep Conversion_:=Rep.iso (λ s=>(s.Form,s.Signed,s.M,s.B,s.K1,s.K2,s.Points,())) (Rep.prod (Rep.int .i64) (Rep.prod Rep.bool (Rep.prod (Rep.int .i64) (Rep.prod (Rep.int .i64) (Rep.prod (Rep.int .i64) (Rep.prod (Rep.int .i64) (Rep.prod (Rep.slice Point_.rep) Rep.unit)))))))
def Conversion_.z:Conversion_:=⟨0,false,0,0,0,0,[]⟩
theorem Conversion_.zr:Zr Conversion_.rep [.int .i64 0,.bool false,.int .i64 0,.int .i64 0,.int .i64 0,.int .i64 0,.slice none 0 0] Conversion_.z:=Zr.iso (r:=(Rep.prod (Rep.int .i64) (Rep.prod Rep.bool (Rep.prod (Rep.int .i64) (Rep.prod (Rep.int .i64) (Rep.prod (Rep.int .i64) (Rep.prod (Rep.int .i64) (Rep.prod (Rep.slice Point_.rep) Rep.unit)))))))) _ (Zr.of (Zr.prod (Zr.int .i64 0) (Zr.prod (Zr.bool false) (Zr.prod (Zr.int .i64 0) (Zr.prod (Zr.int .i64 0) (Zr.prod (Zr.int .i64 0) (Zr.prod (Zr.int .i64 0) (Zr.prod (Zr.slice Point_.rep) Zr.unit))))))) rfl)
theorem Conversion_.f0:Fld Conversion_.rep 0 (Rep.int .i64) Conversion_.Form (λ s y=>{ s with Form:=y }):=Fld.iso (λ s:Conversion_=>(s.Form,s.Signed,s.M,s.B,s.K1,s.K2,s.Points,())) Fld.here (λ _=>rfl) (λ _ _=>rfl)
theorem Conversion_.f1:Fld Conversion_.rep 1 Rep.bool Conversion_.Signed (λ s y=>{ s with Signed:=y }):=Fld.iso (λ s:Conversion_=>(s.Form,s.Signed,s.M,s.B,s.K1,s.K2,s.Points,())) (Fld.there Fld.here) (λ _=>rfl) (λ _ _=>rfl)
theorem Conversion_.f2:Fld Conversion_.rep 2 (Rep.int .i64) Conversion_.M (λ s y=>{ s with M:=y }):=Fld.iso (λ s:Conversion_=>(s.Form,s.Signed,s.M,s.B,s.K1,s.K2,s.Points,())) (Fld.there (Fld.there Fld.here)) (λ _=>rfl) (λ _ _=>rfl)
theorem Conversion_.f3:Fld Conversion_.rep 3 (Rep.int .i64) Conversion_.B (λ s y=>{ s with B:=y }):=Fld.iso (λ s:Conversion_=>(s.Form,s.Signed,s.M,s.B,s.K1,s.K2,s.Points,())) (Fld.there (Fld.there (Fld.there Fld.here))) (λ _=>rfl) (λ _ _=>rfl)
theorem Conversion_.f4:Fld Conversion_.rep 4 (Rep.int .i64) Conversion_.K1 (λ s y=>{ s with K1:=y }):=Fld.iso (λ s:Conversion_=>(s.Form,s.Signed,s.M,s.B,s.K1,s.K2,s.Points,())) (Fld.there (Fld.there (Fld.there (Fld.there Fld.here)))) (λ _=>rfl) (λ _ _=>rfl)
theorem Conversion_.f5:Fld Conversion_.rep 5 (Rep.int .i64) Conversion_.K2 (λ s y=>{ s with K2:=y }):=Fld.iso (λ s:Conversion_=>(s.Form,s.Signed,s.M,s.B,s.K1,s.K2,s.Points,())) (Fld.there (Fld.there (Fld.there (Fld.there (Fld.there Fld.here))))) (λ _=>rfl) (λ _ _=>rfl)
theorem Conversion_.f6:Fld Conversion_.rep 6 (Rep.slice Point_.rep) Conversion_.Points (λ s y=>{ s with Points:=y }):=Fld.iso (λ s:Conversion_=>(s.Form,s.Signed,s.M,s.B,s.K1,s.K2,s.Points,())) (Fld.there (Fld.there (Fld.there (Fld.there (Fld.there (Fld.there Fld.here)))))) (λ _=>rfl) (λ _ _=>rfl)
structure Thresholds_ where
  Mask:Int
  Raw:List Int
def Thresholds_.rep:Rep Thresholds_:=Rep.iso (λ s=>(s.Mask,s.Raw,())) (Rep.prod (Rep.int .u8) (Rep.prod (Rep.arr 6 (Rep.int .u8)) Rep.unit))
def Thresholds_.z:Thresholds_:=⟨0,(List.replicate 6 0)⟩
theorem Thresholds_.zr:Zr Thresholds_.rep [.int .u8 0,.int .u8 0,.int .u8 0,.int .u8 0,.int .u8 0,.int .u8 0,.int .u8 0] Thresholds_.z:=Zr.iso (r:=(Rep.prod (Rep.int .u8) (Rep.prod (Rep.arr 6 (Rep.int .u8)) Rep.unit))) _ (Zr.of (Zr.prod (Zr.int .u8 0) (Zr.prod (Zr.of (Zr.arr (Zr.int .u8 0) 6) rfl) Zr.unit)) rfl)
def Thresholds_.eqb (a b:Thresholds_):Bool:=(eqI a.Mask b.Mask&&((eqL eqI) a.Raw b.Raw&&true))
theorem Thresholds_.f0:Fld Thresholds_.rep 0 (Rep.int .u8) Thresholds_.Mask (λ s y=>{ s with Mask:=y }):=Fld.iso (λ s:Thresholds_=>(s.Mask,s.Raw,())) Fld.here (λ _=>rfl) (λ _ _=>rfl)
theorem Thresholds_.f1:Fld Thresholds_.rep 1 (Rep.arr 6 (Rep.int .u8)) Thresholds_.Raw (λ s y=>{ s with Raw:=y }):=Fld.iso (λ s:Thresholds_=>(s.Mask,s.Raw,())) (Fld.there Fld.here) (λ _=>rfl) (λ _ _=>rfl)
structure Sensor_ where
  Number:Int
  Type_:Int
  Unit:Int
  Name:List Int
  Entity:Entity_
  Discrete:Bool
  Conversion:Conversion_
  Limits:Thresholds_
  HystLower:Int
  HystUpper:Int
  States:Int
  Assert:Int
  Deassert:Int
  HostOn:Bool
  Samples:Int
def Sensor_.rep:Rep Sensor_:=Rep.iso (λ s=>(s.Number,s.Type_,s.Unit,s.Name,s.Entity,s.Discrete,s.Conversion,s.Limits,s.HystLower,s.HystUpper,s.States,s.Assert,s.Deassert,s.HostOn,s.Samples,())) (Rep.prod (Rep.int .u8) (Rep.prod (Rep.int .u8) (Rep.prod (Rep.int .u8) (Rep.prod Rep.str (Rep.prod Entity_.rep (Rep.prod Rep.bool (Rep.prod Conversion_.rep (Rep.prod Thresholds_.rep (Rep.prod (Rep.int .u8) (Rep.prod (Rep.int .u8) (Rep.prod (Rep.int .u16) (Rep.prod (Rep.int .u16) (Rep.prod (Rep.int .u16) (Rep.prod Rep.bool (Rep.prod (Rep.int .i64) Rep.unit)))))))))))))))
def Sensor_.z:Sensor_:=⟨0,0,0,[],Entity_.z,false,Conversion_.z,Thresholds_.z,0,0,0,0,0,false,0⟩
theorem Sensor_.zr:Zr Sensor_.rep [.int .u8 0,.int .u8 0,.int .u8 0,.string ⟨#[]⟩,.int .u8 0,.int .u8 0,.bool false,.int .i64 0,.bool false,.int .i64 0,.int .i64 0,.int .i64 0,.int .i64 0,.slice none 0 0,.int .u8 0,.int .u8 0,.int .u8 0,.int .u8 0,.int .u8 0,.int .u8 0,.int .u8 0,.int .u8 0,.int .u8 0,.int .u16 0,.int .u16 0,.int .u16 0,.bool false,.int .i64 0] Sensor_.z:=Zr.iso (r:=(Rep.prod (Rep.int .u8) (Rep.prod (Rep.int .u8) (Rep.prod (Rep.int .u8) (Rep.prod Rep.str (Rep.prod Entity_.rep (Rep.prod Rep.bool (Rep.prod Conversion_.rep (Rep.prod Thresholds_.rep (Rep.prod (Rep.int .u8) (Rep.prod (Rep.int .u8) (Rep.prod (Rep.int .u16) (Rep.prod (Rep.int .u16) (Rep.prod (Rep.int .u16) (Rep.prod Rep.bool (Rep.prod (Rep.int .i64) Rep.unit)))))))))))))))) _ (Zr.of (Zr.prod (Zr.int .u8 0) (Zr.prod (Zr.int .u8 0) (Zr.prod (Zr.int .u8 0) (Zr.prod Zr.str (Zr.prod Entity_.zr (Zr.prod (Zr.bool false) (Zr.prod Conversion_.zr (Zr.prod Thresholds_.zr (Zr.prod (Zr.int .u8 0) (Zr.prod (Zr.int .u8 0) (Zr.prod (Zr.int .u16 0) (Zr.prod (Zr.int .u16 0) (Zr.prod (Zr.int .u16 0) (Zr.prod (Zr.bool false) (Zr.prod (Zr.int .i64 0) Zr.unit))))))))))))))) rfl)
theorem Sensor_.f0:Fld Sensor_.rep 0 (Rep.int .u8) Sensor_.Number (λ s y=>{ s with Number:=y }):=Fld.iso (λ s:Sensor_=>(s.Number,s.Type_,s.Unit,s.Name,s.Entity,s.Discrete,s.Conversion,s.Limits,s.HystLower,s.HystUpper,s.States,s.Assert,s.Deassert,s.HostOn,s.Samples,())) Fld.here (λ _=>rfl) (λ _ _=>rfl)
theorem Sensor_.f1:Fld Sensor_.rep 1 (Rep.int .u8) Sensor_.Type_ (λ s y=>{ s with Type_:=y }):=Fld.iso (λ s:Sensor_=>(s.Number,s.Type_,s.Unit,s.Name,s.Entity,s.Discrete,s.Conversion,s.Limits,s.HystLower,s.HystUpper,s.States,s.Assert,s.Deassert,s.HostOn,s.Samples,())) (Fld.there Fld.here) (λ _=>rfl) (λ _ _=>rfl)
theorem Sensor_.f2:Fld Sensor_.rep 2 (Rep.int .u8) Sensor_.Unit (λ s y=>{ s with Unit:=y }):=Fld.iso (λ s:Sensor_=>(s.Number,s.Type_,s.Unit,s.Name,s.Entity,s.Discrete,s.Conversion,s.Limits,s.HystLower,s.HystUpper,s.States,s.Assert,s.Deassert,s.HostOn,s.Samples,())) (Fld.there (Fld.there Fld.here)) (λ _=>rfl) (λ _ _=>rfl)
theorem Sensor_.f3:Fld Sensor_.rep 3 Rep.str Sensor_.Name (λ s y=>{ s with Name:=y }):=Fld.iso (λ s:Sensor_=>(s.Number,s.Type_,s.Unit,s.Name,s.Entity,s.Discrete,s.Conversion,s.Limits,s.HystLower,s.HystUpper,s.States,s.Assert,s.Deassert,s.HostOn,s.Samples,())) (Fld.there (Fld.there (Fld.there Fld.here))) (λ _=>rfl) (λ _ _=>rfl)
theorem Sensor_.f4:Fld Sensor_.rep 4 Entity_.rep Sensor_.Entity (λ s y=>{ s with Entity:=y }):=Fld.iso (λ s:Sensor_=>(s.Number,s.Type_,s.Unit,s.Name,s.Entity,s.Discrete,s.Conversion,s.Limits,s.HystLower,s.HystUpper,s.States,s.Assert,s.Deassert,s.HostOn,s.Samples,())) (Fld.there (Fld.there (Fld.there (Fld.there Fld.here)))) (λ _=>rfl) (λ _ _=>rfl)
theorem Sensor_.f5:Fld Sensor_.rep 6 Rep.bool Sensor_.Discrete (λ s y=>{ s with Discrete:=y }):=Fld.iso (λ s:Sensor_=>(s.Number,s.Type_,s.Unit,s.Name,s.Entity,s.Discrete,s.Conversion,s.Limits,s.HystLower,s.HystUpper,s.States,s.Assert,s.Deassert,s.HostOn,s.Samples,())) (Fld.there (Fld.there (Fld.there (Fld.there (Fld.there Fld.here))))) (λ _=>rfl) (λ _ _=>rfl)
theorem Sensor_.f6:Fld Sensor_.rep 7 Conversion_.rep Sensor_.Conversion (λ s y=>{ s with Conversion:=y }):=Fld.iso (λ s:Sensor_=>(s.Number,s.Type_,s.Unit,s.Name,s.Entity,s.Discrete,s.Conversion,s.Limits,s.HystLower,s.HystUpper,s.States,s.Assert,s.Deassert,s.HostOn,s.Samples,())) (Fld.there (Fld.there (Fld.there (Fld.there (Fld.there (Fld.there Fld.here)))))) (λ _=>rfl) (λ _ _=>rfl)
theorem Sensor_.f7:Fld Sensor_.rep 14 Thresholds_.rep Sensor_.Limits (λ s y=>{ s with Limits:=y }):=Fld.iso (λ s:Sensor_=>(s.Number,s.Type_,s.Unit,s.Name,s.Entity,s.Discrete,s.Conversion,s.Limits,s.HystLower,s.HystUpper,s.States,s.Assert,s.Deassert,s.HostOn,s.Samples,())) (Fld.there (Fld.there (Fld.there (Fld.there (Fld.there (Fld.there (Fld.there Fld.here))))))) (λ _=>rfl) (λ _ _=>rfl)
theorem Sensor_.f8:Fld Sensor_.rep 21 (Rep.int .u8) Sensor_.HystLower (λ s y=>{ s with HystLower:=y }):=Fld.iso (λ s:Sensor_=>(s.Number,s.Type_,s.Unit,s.Name,s.Entity,s.Discrete,s.Conversion,s.Limits,s.HystLower,s.HystUpper,s.States,s.Assert,s.Deassert,s.HostOn,s.Samples,())) (Fld.there (Fld.there (Fld.there (Fld.there (Fld.there (Fld.there (Fld.there (Fld.there Fld.here)))))))) (λ _=>rfl) (λ _ _=>rfl)
theorem Sensor_.f9:Fld Sensor_.rep 22 (Rep.int .u8) Sensor_.HystUpper (λ s y=>{ s with HystUpper:=y }):=Fld.iso (λ s:Sensor_=>(s.Number,s.Type_,s.Unit,s.Name,s.Entity,s.Discrete,s.Conversion,s.Limits,s.HystLower,s.HystUpper,s.States,s.Assert,s.Deassert,s.HostOn,s.Samples,())) (Fld.there (Fld.there (Fld.there (Fld.there (Fld.there (Fld.there (Fld.there (Fld.there (Fld.there Fld.here))))))))) (λ _=>rfl) (λ _ _=>rfl)
theorem Sensor_.f10:Fld Sensor_.rep 23 (Rep.int .u16) Sensor_.States (λ s y=>{ s with States:=y }):=Fld.iso (λ s:Sensor_=>(s.Number,s.Type_,s.Unit,s.Name,s.Entity,s.Discrete,s.Conversion,s.Limits,s.HystLower,s.HystUpper,s.States,s.Assert,s.Deassert,s.HostOn,s.Samples,())) (Fld.there (Fld.there (Fld.there (Fld.there (Fld.there (Fld.there (Fld.there (Fld.there (Fld.there (Fld.there Fld.here)))))))))) (λ _=>rfl) (λ _ _=>rfl)
theorem Sensor_.f11:Fld Sensor_.rep 24 (Rep.int .u16) Sensor_.Assert (λ s y=>{ s with Assert:=y }):=Fld.iso (λ s:Sensor_=>(s.Number,s.Type_,s.Unit,s.Name,s.Entity,s.Discrete,s.Conversion,s.Limits,s.HystLower,s.HystUpper,s.States,s.Assert,s.Deassert,s.HostOn,s.Samples,())) (Fld.there (Fld.there (Fld.there (Fld.there (Fld.there (Fld.there (Fld.there (Fld.there (Fld.there (Fld.there (Fld.there Fld.here))))))))))) (λ _=>rfl) (λ _ _=>rfl)
theorem Sensor_.f12:Fld Sensor_.rep 25 (Rep.int .u16) Sensor_.Deassert (λ s y=>{ s with Deassert:=y }):=Fld.iso (λ s:Sensor_=>(s.Number,s.Type_,s.Unit,s.Name,s.Entity,s.Discrete,s.Conversion,s.Limits,s.HystLower,s.HystUpper,s.States,s.Assert,s.Deassert,s.HostOn,s.Samples,())) (Fld.there (Fld.there (Fld.there (Fld.there (Fld.there (Fld.there (Fld.there (Fld.there (Fld.there (Fld.there (Fld.there (Fld.there Fld.here)))))))))))) (λ _=>rfl) (λ _ _=>rfl)
theorem Sensor_.f13:Fld Sensor_.rep 26 Rep.bool Sensor_.HostOn (λ s y=>{ s with HostOn:=y }):=Fld.iso (λ s:Sensor_=>(s.Number,s.Type_,s.Unit,s.Name,s.Entity,s.Discrete,s.Conversion,s.Limits,s.HystLower,s.HystUpper,s.States,s.Assert,s.Deassert,s.HostOn,s.Samples,())) (Fld.there (Fld.there (Fld.there (Fld.there (Fld.there (Fld.there (Fld.there (Fld.there (Fld.there (Fld.there (Fld.there (Fld.there (Fld.there Fld.here))))))))))))) (λ _=>rfl) (λ _ _=>rfl)
theorem Sensor_.f14:Fld Sensor_.rep 27 (Rep.int .i64) Sensor_.Samples (λ s y=>{ s with Samples:=y }):=Fld.iso (λ s:Sensor_=>(s.Number,s.Type_,s.Unit,s.Name,s.Entity,s.Discrete,s.Conversion,s.Limits,s.HystLower,s.HystUpper,s.States,s.Assert,s.Deassert,s.HostOn,s.Samples,())) (Fld.there (Fld.there (Fld.there (Fld.there (Fld.there (Fld.there (Fld.there (Fld.there (Fld.there (Fld.there (Fld.there (Fld.there (Fld.there (Fld.there Fld.here)))))))))))))) (λ _=>rfl) (λ _ _=>rfl)
structure Association_ where
  Container:Entity_
  Contained:Entity_
def Association_.rep:Rep Association_:=Rep.iso (λ s=>(s.Container,s.Contained,())) (Rep.prod Entity_.rep (Rep.prod Entity_.rep Rep.unit))
def Association_.z:Association_:=⟨Entity_.z,Entity_.z⟩
theorem Association_.zr:Zr Association_.rep [.int .u8 0,.int .u8 0,.int .u8 0,.int .u8 0] Association_.z:=Zr.iso (r:=(Rep.prod Entity_.rep (Rep.prod Entity_.rep Rep.unit))) _ (Zr.of (Zr.prod Entity_.zr (Zr.prod Entity_.zr Zr.unit)) rfl)
theorem Association_.pure:Pure Association_.rep:=Pure.iso (Pure.prod Entity_.pure (Pure.prod Entity_.pure Pure.unit))
theorem Association_.f0:Fld Association_.rep 0 Entity_.rep Association_.Container (λ s y=>{ s with Container:=y }):=Fld.iso (λ s:Association_=>(s.Container,s.Contained,())) Fld.here (λ _=>rfl) (λ _ _=>rfl)
theorem Association_.f1:Fld Association_.rep 2 Entity_.rep Association_.Contained (λ s y=>{ s with Contained:=y }):=Fld.iso (λ s:Association_=>(s.Container,s.Contained,())) (Fld.there Fld.here) (λ _=>rfl) (λ _ _=>rfl)
structure Filter_ where
  Window:List Int
  Missing:Int
def Filter_.rep:Rep Filter_:=Rep.iso (λ s=>(s.Window,s.Missing,())) (Rep.prod (Rep.slice (Rep.int .u8)) (Rep.prod (Rep.int .i64) Rep.unit))
def Filter_.z:Filter_:=⟨[],0⟩
theorem Filter_.zr:Zr Filter_.rep [.slice none 0 0,.int .i64 0] Filter_.z:=Zr.iso (r:=(Rep.prod (Rep.slice (Rep.int .u8)) (Rep.prod (Rep.int .i64) Rep.unit))) _ (Zr.of (Zr.prod (Zr.slice (Rep.int .u8)) (Zr.prod (Zr.int .i64 0) Zr.unit)) rfl)
theorem Filter_.f0:Fld Filter_.rep 0 (Rep.slice (Rep.int .u8)) Filter_.Window (λ s y=>{ s with Window:=y }):=Fld.iso (λ s:Filter_=>(s.Window,s.Missing,())) Fld.here (λ _=>rfl) (λ _ _=>rfl)
theorem Filter_.f1:Fld Filter_.rep 1 (Rep.int .i64) Filter_.Missing (λ s y=>{ s with Missing:=y }):=Fld.iso (λ s:Filter_=>(s.Window,s.Missing,())) (Fld.there Fld.here) (λ _=>rfl) (λ _ _=>rfl)
structure monitor_Monitor where
  sensors:List Sensor_
  l:List Association_
  filters:List Filter_
  states:List Int
def monitor_Monitor.rep:Rep monitor_Monitor:=Rep.iso (λ s=>(s.sensors,s.l,s.filters,s.states,())) (Rep.prod (Rep.slice Sensor_.rep) (Rep.prod (Rep.slice Association_.rep) (Rep.prod (Rep.slice Filter_.rep) (Rep.prod (Rep.slice (Rep.int .u16)) Rep.unit))))
def monitor_Monitor.z:monitor_Monitor:=⟨[],[],[],[]⟩
theorem monitor_Monitor.zr:Zr monitor_Monitor.rep [.slice none 0 0,.slice none 0 0,.slice none 0 0,.slice none 0 0] monitor_Monitor.z:=Zr.iso (r:=(Rep.prod (Rep.slice Sensor_.rep) (Rep.prod (Rep.slice Association_.rep) (Rep.prod (Rep.slice Filter_.rep) (Rep.prod (Rep.slice (Rep.int .u16)) Rep.unit))))) _ (Zr.of (Zr.prod (Zr.slice Sensor_.rep) (Zr.prod (Zr.slice Association_.rep) (Zr.prod (Zr.slice Filter_.rep) (Zr.prod (Zr.slice (Rep.int .u16)) Zr.unit)))) rfl)
structure flash_Device where
  size:Int
  bytes:List Int
  wear:List Int
  steps:Int
  left:Int
  torn:Int
  down:Bool
def flash_Device.rep:Rep flash_Device:=Rep.iso (λ s=>(s.size,s.bytes,s.wear,s.steps,s.left,s.torn,s.down,())) (Rep.prod (Rep.int .i64) (Rep.prod (Rep.slice (Rep.int .u8)) (Rep.prod (Rep.slice (Rep.int .i64)) (Rep.prod (Rep.int .i64) (Rep.prod (Rep.int .i64) (Rep.prod (Rep.int .u8) (Rep.prod Rep.bool Rep.unit)))))))
def flash_Device.z:flash_Device:=⟨0,[],[],0,0,0,false⟩
theorem flash_Device.zr:Zr flash_Device.rep [.int .i64 0,.slice none 0 0,.slice none 0 0,.int .i64 0,.int .i64 0,.int .u8 0,.bool false] flash_Device.z:=Zr.iso (r:=(Rep.prod (Rep.int .i64) (Rep.prod (Rep.slice (Rep.int .u8)) (Rep.prod (Rep.slice (Rep.int .i64)) (Rep.prod (Rep.int .i64) (Rep.prod (Rep.int .i64) (Rep.prod (Rep.int .u8) (Rep.prod Rep.bool Rep.unit)))))))) _ (Zr.of (Zr.prod (Zr.int .i64 0) (Zr.prod (Zr.slice (Rep.int .u8)) (Zr.prod (Zr.slice (Rep.int .i64)) (Zr.prod (Zr.int .i64 0) (Zr.prod (Zr.int .i64 0) (Zr.prod (Zr.int .u8 0) (Zr.prod (Zr.bool false) Zr.unit))))))) rfl)
structure Event_ where
  ID:Int
  Time:Int
  Generator:Int
  SensorType:Int
  Sensor:Int
  Type_:Int
  Deassert:Bool
  Data:List Int
def Event_.rep:Rep Event_:=Rep.iso (λ s=>(s.ID,s.Time,s.Generator,s.SensorType,s.Sensor,s.Type_,s.Deassert,s.Data,())) (Rep.prod (Rep.int .u16) (Rep.prod (Rep.int .u32) (Rep.prod (Rep.int .u16) (Rep.prod (Rep.int .u8) (Rep.prod (Rep.int .u8) (Rep.prod (Rep.int .u8) (Rep.prod Rep.bool (Rep.prod (Rep.arr 3 (Rep.int .u8)) Rep.unit))))))))
def Event_.z:Event_:=⟨0,0,0,0,0,0,false,(List.replicate 3 0)⟩
theorem Event_.zr:Zr Event_.rep [.int .u16 0,.int .u32 0,.int .u16 0,.int .u8 0,.int .u8 0,.int .u8 0,.bool false,.int .u8 0,.int .u8 0,.int .u8 0] Event_.z:=Zr.iso (r:=(Rep.prod (Rep.int .u16) (Rep.prod (Rep.int .u32) (Rep.prod (Rep.int .u16) (Rep.prod (Rep.int .u8) (Rep.prod (Rep.int .u8) (Rep.prod (Rep.int .u8) (Rep.prod Rep.bool (Rep.prod (Rep.arr 3 (Rep.int .u8)) Rep.unit))))))))) _ (Zr.of (Zr.prod (Zr.int .u16 0) (Zr.prod (Zr.int .u32 0) (Zr.prod (Zr.int .u16 0) (Zr.prod (Zr.int .u8 0) (Zr.prod (Zr.int .u8 0) (Zr.prod (Zr.int .u8 0) (Zr.prod (Zr.bool false) (Zr.prod (Zr.of (Zr.arr (Zr.int .u8 0) 3) rfl) Zr.unit)))))))) rfl)
theorem Event_.pure:Pure Event_.rep:=Pure.iso (Pure.prod Pure.int (Pure.prod Pure.int (Pure.prod Pure.int (Pure.prod Pure.int (Pure.prod Pure.int (Pure.prod Pure.int (Pure.prod Pure.bool (Pure.prod (Pure.arr Pure.int) Pure.unit))))))))
theorem Event_.f0:Fld Event_.rep 0 (Rep.int .u16) Event_.ID (λ s y=>{ s with ID:=y }):=Fld.iso (λ s:Event_=>(s.ID,s.Time,s.Generator,s.SensorType,s.Sensor,s.Type_,s.Deassert,s.Data,())) Fld.here (λ _=>rfl) (λ _ _=>rfl)
theorem Event_.f1:Fld Event_.rep 1 (Rep.int .u32) Event_.Time (λ s y=>{ s with Time:=y }):=Fld.iso (λ s:Event_=>(s.ID,s.Time,s.Generator,s.SensorType,s.Sensor,s.Type_,s.Deassert,s.Data,())) (Fld.there Fld.here) (λ _=>rfl) (λ _ _=>rfl)
theorem Event_.f2:Fld Event_.rep 2 (Rep.int .u16) Event_.Generator (λ s y=>{ s with Generator:=y }):=Fld.iso (λ s:Event_=>(s.ID,s.Time,s.Generator,s.SensorType,s.Sensor,s.Type_,s.Deassert,s.Data,())) (Fld.there (Fld.there Fld.here)) (λ _=>rfl) (λ _ _=>rfl)
theorem Event_.f3:Fld Event_.rep 3 (Rep.int .u8) Event_.SensorType (λ s y=>{ s with SensorType:=y }):=Fld.iso (λ s:Event_=>(s.ID,s.Time,s.Generator,s.SensorType,s.Sensor,s.Type_,s.Deassert,s.Data,())) (Fld.there (Fld.there (Fld.there Fld.here))) (λ _=>rfl) (λ _ _=>rfl)
theorem Event_.f4:Fld Event_.rep 4 (Rep.int .u8) Event_.Sensor (λ s y=>{ s with Sensor:=y }):=Fld.iso (λ s:Event_=>(s.ID,s.Time,s.Generator,s.SensorType,s.Sensor,s.Type_,s.Deassert,s.Data,())) (Fld.there (Fld.there (Fld.there (Fld.there Fld.here)))) (λ _=>rfl) (λ _ _=>rfl)
theorem Event_.f5:Fld Event_.rep 5 (Rep.int .u8) Event_.Type_ (λ s y=>{ s with Type_:=y }):=Fld.iso (λ s:Event_=>(s.ID,s.Time,s.Generator,s.SensorType,s.Sensor,s.Type_,s.Deassert,s.Data,())) (Fld.there (Fld.there (Fld.there (Fld.there (Fld.there Fld.here))))) (λ _=>rfl) (λ _ _=>rfl)
theorem Event_.f6:Fld Event_.rep 6 Rep.bool Event_.Deassert (λ s y=>{ s with Deassert:=y }):=Fld.iso (λ s:Event_=>(s.ID,s.Time,s.Generator,s.SensorType,s.Sensor,s.Type_,s.Deassert,s.Data,())) (Fld.there (Fld.there (Fld.there (Fld.there (Fld.there (Fld.there Fld.here)))))) (λ _=>rfl) (λ _ _=>rfl)
theorem Event_.f7:Fld Event_.rep 7 (Rep.arr 3 (Rep.int .u8)) Event_.Data (λ s y=>{ s with Data:=y }):=Fld.iso (λ s:Event_=>(s.ID,s.Time,s.Generator,s.SensorType,s.Sensor,s.Type_,s.Deassert,s.Data,())) (Fld.there (Fld.there (Fld.there (Fld.there (Fld.there (Fld.there (Fld.there Fld.here))))))) (λ _=>rfl) (λ _ _=>rfl)
structure eventlog_record where
  sequence:Int
  event:Event_
def eventlog_record.rep:Rep eventlog_record:=Rep.iso (λ s=>(s.sequence,s.event,())) (Rep.prod (Rep.int .i64) (Rep.prod Event_.rep Rep.unit))
def eventlog_record.z:eventlog_record:=⟨0,Event_.z⟩
theorem eventlog_record.zr:Zr eventlog_record.rep [.int .i64 0,.int .u16 0,.int .u32 0,.int .u16 0,.int .u8 0,.int .u8 0,.int .u8 0,.bool false,.int .u8 0,.int .u8 0,.int .u8 0] eventlog_record.z:=Zr.iso (r:=(Rep.prod (Rep.int .i64) (Rep.prod Event_.rep Rep.unit))) _ (Zr.of (Zr.prod (Zr.int .i64 0) (Zr.prod Event_.zr Zr.unit)) rfl)
theorem eventlog_record.pure:Pure eventlog_record.rep:=Pure.iso (Pure.prod Pure.int (Pure.prod Event_.pure Pure.unit))
theorem eventlog_record.f0:Fld eventlog_record.rep 0 (Rep.int .i64) eventlog_record.sequence (λ s y=>{ s with sequence:=y }):=Fld.iso (λ s:eventlog_record=>(s.sequence,s.event,())) Fld.here (λ _=>rfl) (λ _ _=>rfl)
theorem eventlog_record.f1:Fld eventlog_record.rep 1 Event_.rep eventlog_record.event (λ s y=>{ s with event:=y }):=Fld.iso (λ s:eventlog_record=>(s.sequence,s.event,())) (Fld.there Fld.here) (λ _=>rfl) (λ _ _=>rfl)
structure eventlog_Log where
  d:Bool
  first:Int
  sectors:Int
  overwrite:Bool
  newest:Int
  tail:Int
  used:Int
  next:Int
  records:List eventlog_record
  full:Bool
  number:Int
  held:Bool
  ended:Bool
def eventlog_Log.z:eventlog_Log:=⟨false,0,0,false,0,0,0,0,[],false,0,false,false⟩
structure eventlog_head where
  sequence:Int
  tail:Int
  id:Int
def eventlog_head.rep:Rep eventlog_head:=Rep.iso (λ s=>(s.sequence,s.tail,s.id,())) (Rep.prod (Rep.int .i64) (Rep.prod (Rep.int .i64) (Rep.prod (Rep.int .u16) Rep.unit)))
def eventlog_head.z:eventlog_head:=⟨0,0,0⟩
theorem eventlog_head.zr:Zr eventlog_head.rep [.int .i64 0,.int .i64 0,.int .u16 0] eventlog_head.z:=Zr.iso (r:=(Rep.prod (Rep.int .i64) (Rep.prod (Rep.int .i64) (Rep.prod (Rep.int .u16) Rep.unit)))) _ (Zr.of (Zr.prod (Zr.int .i64 0) (Zr.prod (Zr.int .i64 0) (Zr.prod (Zr.int .u16 0) Zr.unit))) rfl)
theorem eventlog_head.f0:Fld eventlog_head.rep 0 (Rep.int .i64) eventlog_head.sequence (λ s y=>{ s with sequence:=y }):=Fld.iso (λ s:eventlog_head=>(s.sequence,s.tail,s.id,())) Fld.here (λ _=>rfl) (λ _ _=>rfl)
theorem eventlog_head.f1:Fld eventlog_head.rep 1 (Rep.int .i64) eventlog_head.tail (λ s y=>{ s with tail:=y }):=Fld.iso (λ s:eventlog_head=>(s.sequence,s.tail,s.id,())) (Fld.there Fld.here) (λ _=>rfl) (λ _ _=>rfl)
theorem eventlog_head.f2:Fld eventlog_head.rep 2 (Rep.int .u16) eventlog_head.id (λ s y=>{ s with id:=y }):=Fld.iso (λ s:eventlog_head=>(s.sequence,s.tail,s.id,())) (Fld.there (Fld.there Fld.here)) (λ _=>rfl) (λ _ _=>rfl)
structure Sample_ where
  Number:Int
  OK:Bool
  Raw:Int
  States:Int
def Sample_.rep:Rep Sample_:=Rep.iso (λ s=>(s.Number,s.OK,s.Raw,s.States,())) (Rep.prod (Rep.int .u8) (Rep.prod Rep.bool (Rep.prod (Rep.int .u8) (Rep.prod (Rep.int .u16) Rep.unit))))
def Sample_.z:Sample_:=⟨0,false,0,0⟩
theorem Sample_.zr:Zr Sample_.rep [.int .u8 0,.bool false,.int .u8 0,.int .u16 0] Sample_.z:=Zr.iso (r:=(Rep.prod (Rep.int .u8) (Rep.prod Rep.bool (Rep.prod (Rep.int .u8) (Rep.prod (Rep.int .u16) Rep.unit))))) _ (Zr.of (Zr.prod (Zr.int .u8 0) (Zr.prod (Zr.bool false) (Zr.prod (Zr.int .u8 0) (Zr.prod (Zr.int .u16 0) Zr.unit)))) rfl)
theorem Sample_.pure:Pure Sample_.rep:=Pure.iso (Pure.prod Pure.int (Pure.prod Pure.bool (Pure.prod Pure.int (Pure.prod Pure.int Pure.unit))))
theorem Sample_.f0:Fld Sample_.rep 0 (Rep.int .u8) Sample_.Number (λ s y=>{ s with Number:=y }):=Fld.iso (λ s:Sample_=>(s.Number,s.OK,s.Raw,s.States,())) Fld.here (λ _=>rfl) (λ _ _=>rfl)
theorem Sample_.f1:Fld Sample_.rep 1 Rep.bool Sample_.OK (λ s y=>{ s with OK:=y }):=Fld.iso (λ s:Sample_=>(s.Number,s.OK,s.Raw,s.States,())) (Fld.there Fld.here) (λ _=>rfl) (λ _ _=>rfl)
theorem Sample_.f2:Fld Sample_.rep 2 (Rep.int .u8) Sample_.Raw (λ s y=>{ s with Raw:=y }):=Fld.iso (λ s:Sample_=>(s.Number,s.OK,s.Raw,s.States,())) (Fld.there (Fld.there Fld.here)) (λ _=>rfl) (λ _ _=>rfl)
theorem Sample_.f3:Fld Sample_.rep 3 (Rep.int .u16) Sample_.States (λ s y=>{ s with States:=y }):=Fld.iso (λ s:Sample_=>(s.Number,s.OK,s.Raw,s.States,())) (Fld.there (Fld.there (Fld.there Fld.here))) (λ _=>rfl) (λ _ _=>rfl)
structure Change_ where
  Index:Int
  Asserted:Bool
def Change_.rep:Rep Change_:=Rep.iso (λ s=>(s.Index,s.Asserted,())) (Rep.prod (Rep.int .i64) (Rep.prod Rep.bool Rep.unit))
def Change_.z:Change_:=⟨0,false⟩
theorem Change_.zr:Zr Change_.rep [.int .i64 0,.bool false] Change_.z:=Zr.iso (r:=(Rep.prod (Rep.int .i64) (Rep.prod Rep.bool Rep.unit))) _ (Zr.of (Zr.prod (Zr.int .i64 0) (Zr.prod (Zr.bool false) Zr.unit)) rfl)
theorem Change_.pure:Pure Change_.rep:=Pure.iso (Pure.prod Pure.int (Pure.prod Pure.bool Pure.unit))
theorem Change_.f0:Fld Change_.rep 0 (Rep.int .i64) Change_.Index (λ s y=>{ s with Index:=y }):=Fld.iso (λ s:Change_=>(s.Index,s.Asserted,())) Fld.here (λ _=>rfl) (λ _ _=>rfl)
theorem Change_.f1:Fld Change_.rep 1 Rep.bool Change_.Asserted (λ s y=>{ s with Asserted:=y }):=Fld.iso (λ s:Change_=>(s.Index,s.Asserted,())) (Fld.there Fld.here) (λ _=>rfl) (λ _ _=>rfl)
structure made_Dice where
  L:List Int
  At:Int
def made_Dice.rep:Rep made_Dice:=Rep.iso (λ s=>(s.L,s.At,())) (Rep.prod (Rep.slice (Rep.int .i64)) (Rep.prod (Rep.int .i64) Rep.unit))
def made_Dice.z:made_Dice:=⟨[],0⟩
theorem made_Dice.zr:Zr made_Dice.rep [.slice none 0 0,.int .i64 0] made_Dice.z:=Zr.iso (r:=(Rep.prod (Rep.slice (Rep.int .i64)) (Rep.prod (Rep.int .i64) Rep.unit))) _ (Zr.of (Zr.prod (Zr.slice (Rep.int .i64)) (Zr.prod (Zr.int .i64 0) Zr.unit)) rfl)
theorem made_Dice.f0:Fld made_Dice.rep 0 (Rep.slice (Rep.int .i64)) made_Dice.L (λ s y=>{ s with L:=y }):=Fld.iso (λ s:made_Dice=>(s.L,s.At,())) Fld.here (λ _=>rfl) (λ _ _=>rfl)
theorem made_Dice.f1:Fld made_Dice.rep 1 (Rep.int .i64) made_Dice.At (λ s y=>{ s with At:=y }):=Fld.iso (λ s:made_Dice=>(s.L,s.At,())) (Fld.there Fld.here) (λ _=>rfl) (λ _ _=>rfl)
structure Condition_ where
  Entity:Entity_
  Severity:Int
def Condition_.rep:Rep Condition_:=Rep.iso (λ s=>(s.Entity,s.Severity,())) (Rep.prod Entity_.rep (Rep.prod (Rep.int .i64) Rep.unit))
def Condition_.z:Condition_:=⟨Entity_.z,0⟩
theorem Condition_.zr:Zr Condition_.rep [.int .u8 0,.int .u8 0,.int .i64 0] Condition_.z:=Zr.iso (r:=(Rep.prod Entity_.rep (Rep.prod (Rep.int .i64) Rep.unit))) _ (Zr.of (Zr.prod Entity_.zr (Zr.prod (Zr.int .i64 0) Zr.unit)) rfl)
theorem Condition_.pure:Pure Condition_.rep:=Pure.iso (Pure.prod Entity_.pure (Pure.prod Pure.int Pure.unit))
theorem Condition_.f0:Fld Condition_.rep 0 Entity_.rep Condition_.Entity (λ s y=>{ s with Entity:=y }):=Fld.iso (λ s:Condition_=>(s.Entity,s.Severity,())) Fld.here (λ _=>rfl) (λ _ _=>rfl)
theorem Condition_.f1:Fld Condition_.rep 2 (Rep.int .i64) Condition_.Severity (λ s y=>{ s with Severity:=y }):=Fld.iso (λ s:Condition_=>(s.Entity,s.Severity,())) (Fld.there Fld.here) (λ _=>rfl) (λ _ _=>rfl)
def Entity_.ok (s:Entity_):Prop:=(okI .u8) s.ID∧(okI .u8) s.Instance∧True
def sensor_named (fuel:Nat) (a0:List Int):Option (Bool) :=
  loopP (λ k1 (s1:Int) =>
  iteP (decide (s1<(a0.length:Int))) (
  bindP (idx a0 s1) λ x1 =>
  joinP (λ (s2:Bool) =>
  iteP s2 (
  some false) (
  k1 ((IntKind.i64.wrap (s1+1))))) λ j1 =>
  iteP (decide (x1<32)) (
  j1 (true)) (
  j1 (decide (x1>126)))) (
  iteP (decide ((a0.length:Int)≥1)) (
  letP (decide ((a0.length:Int)≤16)) λ x2 =>
  some x2) (
  some false))) fuel (0)
def sensor_discrete (fuel:Nat) (a0:Sensor_):Option (Bool) :=
  joinP (λ (s1:Bool) =>
  joinP (λ (s2:Bool) =>
  iteP s2 (
  iteP (a0.Samples==1) (
  iteP (decide (a0.States≤32767)) (
  letP ((bAndNot .u16 (bOr .u16 a0.Assert a0.Deassert) a0.States)==0) λ x1 =>
  some x1) (
  some false)) (
  some false)) (
  some false)) λ j2 =>
  iteP s1 (
  iteP (Thresholds_.eqb a0.Limits Thresholds_.z) (
  iteP (a0.HystLower==0) (
  letP (a0.HystUpper==0) λ x2 =>
  j2 (x2)) (
  j2 (false))) (
  j2 (false))) (
  j2 (false))) λ j1 =>
  iteP (a0.Conversion.Form==0) (
  iteP (!a0.Conversion.Signed) (
  iteP (a0.Conversion.M==0) (
  iteP (a0.Conversion.B==0) (
  iteP (a0.Conversion.K1==0) (
  iteP (a0.Conversion.K2==0) (
  letP ((a0.Conversion.Points.length:Int)==0) λ x3 =>
  j1 (x3)) (
  j1 (false))) (
  j1 (false))) (
  j1 (false))) (
  j1 (false))) (
  j1 (false))) (
  j1 (false))
def convert_factor (fuel:Nat) (a0:Int):Option (Bool) :=
  iteP (decide (a0≥(-512))) (
  letP (decide (a0≤511)) λ x1 =>
  some x1) (
  some false)
def convert_power (fuel:Nat) (a0:Int):Option (Bool) :=
  iteP (decide (a0≥(-3))) (
  letP (decide (a0≤3)) λ x1 =>
  some x1) (
  some false)
def micro_Clamp (fuel:Nat) (a0:Int):Option (Int) :=
  letP (max (-1000000000000) (min a0 1000000000000)) λ x1 =>
  some x1
def convert_Number (fuel:Nat) (a0:Bool) (a1:Int):Option (Int) :=
  iteP a0 (
  letP (IntKind.i64.wrap (IntKind.i8.wrap a1)) λ x1 =>
  some x1) (
  some (IntKind.i64.wrap a1))
def convert_table (fuel:Nat) (a0:Conversion_):Option (Bool) :=
  joinP (λ (s1:Bool) =>
  iteP s1 (
  some false) (
  loopP (λ k1 (s2:Int) =>
  iteP (decide (s2<(a0.Points.length:Int))) (
  bindP (idx a0.Points s2) λ x1 =>
  joinP (λ (s3:Bool) =>
  iteP s3 (
  some false) (
  k1 ((IntKind.i64.wrap (s2+1))))) λ j2 =>
  bindP (micro_Clamp fuel x1.Value) λ y1 =>
  letP (y1 != x1.Value) λ x2 =>
  iteP x2 (
  j2 (true)) (
  letP (decide (s2>0)) λ x3 =>
  iteP x3 (
  bindP (idx a0.Points (IntKind.i64.wrap (s2-1))) λ x4 =>
  bindP (convert_Number fuel a0.Signed x4.Raw) λ y2 =>
  bindP (convert_Number fuel a0.Signed x1.Raw) λ y3 =>
  j2 (decide (y2≥y3))) (
  j2 (false)))) (
  some true)) fuel (0))) λ j1 =>
  iteP (decide ((a0.Points.length:Int)<2)) (
  j1 (true)) (
  j1 (decide ((a0.Points.length:Int)>12)))
def convert_Valid (fuel:Nat) (a0:Conversion_):Option (Bool) :=
  letP (a0.Form==1) λ x1 =>
  joinP (λ (s1:Bool) =>
  iteP s1 (
  bindP (convert_factor fuel a0.M) λ y1 =>
  iteP y1 (
  bindP (convert_factor fuel a0.B) λ y2 =>
  iteP y2 (
  bindP (convert_power fuel a0.K1) λ y3 =>
  iteP y3 (
  bindP (convert_power fuel a0.K2) λ y4 =>
  iteP y4 (
  letP ((a0.Points.length:Int)==0) λ x2 =>
  some x2) (
  some false)) (
  some false)) (
  some false)) (
  some false)) (
  letP (a0.Form==5) λ x3 =>
  iteP x3 (
  iteP (a0.M==0) (
  iteP (a0.B==0) (
  iteP (a0.K1==0) (
  iteP (a0.K2==0) (
  bindP (convert_table fuel a0) λ y5 =>
  some y5) (
  some false)) (
  some false)) (
  some false)) (
  some false)) (
  some false))) λ j1 =>
  iteP x1 (
  j1 (x1)) (
  letP (a0.Form==2) λ x4 =>
  iteP x4 (
  j1 (x4)) (
  letP (a0.Form==3) λ x5 =>
  iteP x5 (
  j1 (x5)) (
  letP (a0.Form==4) λ x6 =>
  j1 (x6))))
def cmp_isNaN_int (fuel:Nat) (a0:Int):Option (Bool) :=
  letP (a0 != a0) λ x1 =>
  some x1
def cmp_Less_int (fuel:Nat) (a0:Int) (a1:Int):Option (Bool) :=
  bindP (cmp_isNaN_int fuel a0) λ y1 =>
  iteP y1 (
  bindP (cmp_isNaN_int fuel a1) λ y2 =>
  iteP (!y2) (
  some true) (
  letP (decide (a0<a1)) λ x1 =>
  some x1)) (
  letP (decide (a0<a1)) λ x2 =>
  some x2)
def slices_IsSorted_int_int (fuel:Nat) (a0:List Int):Option (Bool) :=
  letP (IntKind.i64.wrap ((a0.length:Int)-1)) λ x1 =>
  loopP (λ k1 (s1:Int) =>
  iteP (decide (s1>0)) (
  bindP (idx a0 s1) λ x2 =>
  bindP (idx a0 (IntKind.i64.wrap (s1-1))) λ x3 =>
  bindP (cmp_Less_int fuel x2 x3) λ y1 =>
  iteP y1 (
  some false) (
  letP (IntKind.i64.wrap (s1-1)) λ x4 =>
  k1 (x4))) (
  some true)) fuel (x1)
def sensor_ordered_1_2 (fuel:Nat) (a0:List Int) (a1:Sensor_):Option ((List Int)) :=
  loopP (λ k1 (s1:(Int×(List Int))) =>
  iteP (decide (s1.1<(a0.length:Int))) (
  bindP (idx a0 s1.1) λ x1 =>
  bindP (chk (decide (0≤x1))) λ _ =>
  iteP ((bAnd .u8 (bShr .u8 a1.Limits.Mask x1) 1)==1) (
  bindP (idx a1.Limits.Raw x1) λ x2 =>
  bindP (convert_Number fuel a1.Conversion.Signed x2) λ y1 =>
  bindP (app 8 s1.2 ([y1])) λ x3 =>
  k1 ((IntKind.i64.wrap (s1.1+1)),x3)) (
  k1 ((IntKind.i64.wrap (s1.1+1)),s1.2))) (
  some s1.2)) fuel (0,[])
def sensor_ordered (fuel:Nat) (a0:Sensor_):Option (Bool) :=
  bindP (sensor_ordered_1_2 fuel ([2,1,0]) a0) λ y1 =>
  bindP (sensor_ordered_1_2 fuel ([3,4,5]) a0) λ y2 =>
  joinP (λ (s1:Bool) =>
  bindP (slices_IsSorted_int_int fuel y1) λ y3 =>
  iteP y3 (
  bindP (slices_IsSorted_int_int fuel y2) λ y4 =>
  iteP y4 (
  some s1) (
  some false)) (
  some false)) λ j1 =>
  letP ((y1.length:Int)==0) λ x1 =>
  iteP x1 (
  j1 (true)) (
  letP ((y2.length:Int)==0) λ x2 =>
  iteP x2 (
  j1 (true)) (
  bindP (idx y1 (IntKind.i64.wrap ((y1.length:Int)-1))) λ x3 =>
  bindP (idx y2 0) λ x4 =>
  letP (decide (x3<x4)) λ x5 =>
  j1 (x5)))
def sensor_analog (fuel:Nat) (a0:Sensor_):Option (Bool) :=
  bindP (convert_Valid fuel a0.Conversion) λ y1 =>
  joinP (λ (s1:Bool) =>
  iteP s1 (
  some false) (
  loopP (λ k1 (s2:Int) =>
  iteP (decide (s2<6)) (
  bindP (idx a0.Limits.Raw s2) λ x1 =>
  bindP (chk (decide (0≤s2))) λ _ =>
  joinP (λ (s3:Bool) =>
  iteP s3 (
  some false) (
  k1 ((IntKind.i64.wrap (s2+1))))) λ j2 =>
  iteP ((bAnd .u8 (bShr .u8 a0.Limits.Mask s2) 1)==0) (
  j2 (x1 != 0)) (
  j2 (false))) (
  bindP (sensor_ordered fuel a0) λ y2 =>
  some y2)) fuel (0))) λ j1 =>
  iteP (!y1) (
  j1 (true)) (
  iteP (decide (a0.Limits.Mask≥64)) (
  j1 (true)) (
  iteP (a0.States != 0) (
  j1 (true)) (
  j1 ((bAndNot .u16 (bOr .u16 a0.Assert a0.Deassert) (IntKind.u16.wrap a0.Limits.Mask)) != 0))))
def sensor_Valid (fuel:Nat) (a0:Sensor_):Option (Bool) :=
  bindP (sensor_named fuel a0.Name) λ y1 =>
  joinP (λ (s1:Bool) =>
  iteP s1 (
  some false) (
  iteP a0.Discrete (
  bindP (sensor_discrete fuel a0) λ y2 =>
  some y2) (
  bindP (sensor_analog fuel a0) λ y3 =>
  some y3))) λ j1 =>
  iteP (!y1) (
  j1 (true)) (
  iteP (a0.Samples != 1) (
  iteP (a0.Samples != 3) (
  j1 (a0.Samples != 5)) (
  j1 (false))) (
  j1 (false)))
def monitor_check (fuel:Nat) (a0:List Sensor_):Option (Int) :=
  iteP (decide ((a0.length:Int)>32)) (
  some 3) (
  loopP (λ k1 (s1:Int) =>
  iteP (decide (s1<(a0.length:Int))) (
  bindP (idx a0 s1) λ x1 =>
  joinP (λ (s2:Bool) =>
  iteP s2 (
  some 1) (
  k1 ((IntKind.i64.wrap (s1+1))))) λ j1 =>
  bindP (sensor_Valid fuel x1) λ y1 =>
  letP (!y1) λ x2 =>
  iteP x2 (
  j1 (true)) (
  letP (decide (s1>0)) λ x3 =>
  iteP x3 (
  bindP (idx a0 (IntKind.i64.wrap (s1-1))) λ x4 =>
  j1 (decide (x1.Number≤x4.Number))) (
  j1 (false)))) (
  some 0)) fuel (0))
def entity_Parent_1_2 (fuel:Nat) (a0:Association_) (a1:Entity_):Option (Bool) :=
  letP (Entity_.eqb a0.Contained a1) λ x1 =>
  some x1
def slices_IndexFunc_api_Association_api_Association_entity_Parent_1 (fuel:Nat) (a0:List Association_) (a1_0:Entity_):Option (Int) :=
  loopP (λ k1 (s1:Int) =>
  iteP (decide (s1<(a0.length:Int))) (
  bindP (idx a0 s1) λ x1 =>
  bindP (entity_Parent_1_2 fuel x1 a1_0) λ y1 =>
  iteP y1 (
  some s1) (
  k1 ((IntKind.i64.wrap (s1+1))))) (
  some (-1))) fuel (0)
def entity_Parent (fuel:Nat) (a0:List Association_) (a1:Entity_):Option (Entity_×Bool) :=
  bindP (slices_IndexFunc_api_Association_api_Association_entity_Parent_1 fuel a0 a1) λ y1 =>
  iteP (decide (y1<0)) (
  some (Entity_.z,false)) (
  bindP (idx a0 y1) λ x1 =>
  some (x1.Container,true))
def slices_Index_api_Entity_api_Entity (fuel:Nat) (a0:List Entity_) (a1:Entity_):Option (Int) :=
  loopP (λ k1 (s1:Int) =>
  iteP (decide (s1<(a0.length:Int))) (
  bindP (idx a0 s1) λ x1 =>
  iteP (Entity_.eqb a1 x1) (
  some s1) (
  k1 ((IntKind.i64.wrap (s1+1))))) (
  some (-1))) fuel (0)
def slices_Contains_api_Entity_api_Entity (fuel:Nat) (a0:List Entity_) (a1:Entity_):Option (Bool) :=
  bindP (slices_Index_api_Entity_api_Entity fuel a0 a1) λ y1 =>
  letP (decide (y1≥0)) λ x1 =>
  some x1
def entity_around (fuel:Nat) (a0:List Association_) (a1:Entity_):Option ((List Entity_)) :=
  loopP (λ k1 (s1:(Entity_×(List Entity_))) =>
  bindP (entity_Parent fuel a0 s1.1) λ y1 =>
  joinP (λ (s2:Bool) =>
  iteP s2 (
  some s1.2) (
  bindP (app 2 s1.2 ([y1.1])) λ x1 =>
  k1 (y1.1,x1))) λ j1 =>
  iteP (!y1.2) (
  j1 (true)) (
  bindP (slices_Contains_api_Entity_api_Entity fuel s1.2 y1.1) λ y2 =>
  j1 (y2))) fuel (a1,[])
def entity_Check (fuel:Nat) (a0:List Association_):Option (Int) :=
  iteP (decide ((a0.length:Int)>32)) (
  some 3) (
  loopP (λ k1 (s1:(Int×(List (Entity_×Bool)))) =>
  iteP (decide (s1.1<(a0.length:Int))) (
  bindP (idx a0 s1.1) λ x1 =>
  iteP (kget Entity_.eqb false s1.2 x1.Contained) (
  some 7) (
  letP (kput Entity_.eqb s1.2 x1.Contained true) λ d1 =>
  k1 ((IntKind.i64.wrap (s1.1+1)),d1))) (
  loopP (λ k2 (s2:Int) =>
  iteP (decide (s2<(a0.length:Int))) (
  bindP (idx a0 s2) λ x2 =>
  bindP (entity_around fuel a0 x2.Contained) λ y1 =>
  bindP (slices_Contains_api_Entity_api_Entity fuel y1 x2.Contained) λ y2 =>
  iteP y2 (
  some 14) (
  k2 ((IntKind.i64.wrap (s2+1))))) (
  some 0)) fuel (0))) fuel (0,[]))
def slices_Clone_api_Sensor_api_Sensor (fuel:Nat) (a0:List Sensor_):Option ((List Sensor_)) :=
  bindP (app 136 ([]) a0) λ x1 =>
  some x1
def slices_Clone_api_Association_api_Association (fuel:Nat) (a0:List Association_):Option ((List Association_)) :=
  bindP (app 4 ([]) a0) λ x1 =>
  some x1
def slices_Clone_api_Point_api_Point (fuel:Nat) (a0:List Point_):Option ((List Point_)) :=
  bindP (app 16 ([]) a0) λ x1 =>
  some x1
def monitor_New (fuel:Nat) (a0:List Sensor_) (a1:List Association_):Option ((Option monitor_Monitor)×Int) :=
  bindP (monitor_check fuel a0) λ y1 =>
  iteP (y1 != 0) (
  some (none,y1)) (
  bindP (entity_Check fuel a1) λ y2 =>
  iteP (y2 != 0) (
  some (none,y2)) (
  bindP (slices_Clone_api_Sensor_api_Sensor fuel a0) λ y3 =>
  bindP (slices_Clone_api_Association_api_Association fuel a1) λ y4 =>
  bindP (mk 32 Filter_.z (a0.length:Int)) λ x1 =>
  bindP (mk 2 0 (a0.length:Int)) λ x2 =>
  loopP (λ k1 (s1:(Int×(List Sensor_))) =>
  iteP (decide (s1.1<(y3.length:Int))) (
  bindP (idx a0 s1.1) λ x3 =>
  bindP (slices_Clone_api_Point_api_Point fuel x3.Conversion.Points) λ y5 =>
  bindP (idx s1.2 s1.1) λ x4 =>
  letP (upd s1.2 s1.1 ({ x4 with Conversion:={ x4.Conversion with Points:=y5 } })) λ d1 =>
  k1 ((IntKind.i64.wrap (s1.1+1)),d1)) (
  some ((some (⟨s1.2,y4,x1,x2⟩:monitor_Monitor)),0))) fuel (0,y3)))
def bits_Mul64 (fuel:Nat) (a0:Int) (a1:Int):Option (Int×Int) :=
  letP (bAnd .u64 a0 4294967295) λ x1 =>
  letP (bAnd .u64 a1 4294967295) λ x2 =>
  letP (IntKind.u64.wrap (x1*x2)) λ x3 =>
  letP (IntKind.u64.wrap ((IntKind.u64.wrap ((bShr .u64 a0 32)*x2))+(bShr .u64 x3 32))) λ x4 =>
  letP (bAnd .u64 x4 4294967295) λ x5 =>
  letP (IntKind.u64.wrap (x5+(IntKind.u64.wrap (x1*(bShr .u64 a1 32))))) λ x6 =>
  letP (IntKind.u64.wrap ((IntKind.u64.wrap ((IntKind.u64.wrap ((bShr .u64 a0 32)*(bShr .u64 a1 32)))+(bShr .u64 x4 32)))+(bShr .u64 x6 32))) λ x7 =>
  letP (IntKind.u64.wrap (a0*a1)) λ x8 =>
  some (x7,x8)
def bits_Mul (fuel:Nat) (a0:Int) (a1:Int):Option (Int×Int) :=
  bindP (bits_Mul64 fuel a0 a1) λ y1 =>
  some (y1.1,y1.2)
def slices_Repeat_byte_byte (fuel:Nat) (a0:List Int) (a1:Int):Option ((List Int)) :=
  iteP (decide (a1<0)) (
  none) (
  bindP (bits_Mul fuel (IntKind.u64.wrap (a0.length:Int)) (IntKind.u64.wrap a1)) λ y1 =>
  iteP (decide (y1.1>0)) (
  none) (
  iteP (decide (y1.2>9223372036854775807)) (
  none) (
  bindP (mk 1 0 (IntKind.i64.wrap y1.2)) λ x1 =>
  letP (lay x1 0 (a0.take x1.length)) λ d1 =>
  letP ((min a0.length x1.length:Nat):Int) λ x2 =>
  loopP (λ k1 (s1:(Int×(List Int))) =>
  iteP (decide (s1.1<(s1.2.length:Int))) (
  bindP (chk (decide ((0:Int)≤s1.1∧s1.1≤(s1.2.length:Int)∧(s1.2.length:Int)≤(s1.2.length:Int)))) λ _ =>
  bindP (chk (decide ((0:Int)≤s1.1∧s1.1≤(s1.2.length:Int)))) λ _ =>
  bindP (chk (decide (s1.1.toNat<s1.2.length∧0<(s1.1:Int).toNat∧(s1.1:Int).toNat≤s1.2.length))) λ _ =>
  letP (lay s1.2 s1.1.toNat (s1.2.take (min ((s1.1:Int).toNat) (s1.2.length-s1.1.toNat)))) λ d2 =>
  letP (IntKind.i64.wrap (s1.1+((min ((s1.1:Int).toNat) (s1.2.length-s1.1.toNat):Nat):Int))) λ x3 =>
  k1 (x3,d2)) (
  some s1.2)) fuel (x2,d1))))
def flash_New (fuel:Nat) (a0:Int) (a1:Int):Option ((Option flash_Device)×Int) :=
  iteP (decide (a0<1)) (
  none) (
  iteP (decide (a0>16)) (
  none) (
  iteP (decide (a1<64)) (
  none) (
  iteP (decide (a1>1024)) (
  none) (
  bindP (slices_Repeat_byte_byte fuel ([255]) (IntKind.i64.wrap (a0*a1))) λ y1 =>
  bindP (mk 8 0 a0) λ x1 =>
  some ((some (⟨a1,y1,x1,0,0,0,false⟩:flash_Device)),0)))))
def flash_Device_Sectors (fuel:Nat) (a0:flash_Device):Option (Int) :=
  some (a0.wear.length:Int)
def flash_Device_Size (fuel:Nat) (a0:flash_Device):Option (Int) :=
  some a0.size
def flash_Device_within (fuel:Nat) (a0:flash_Device) (a1:Int) (a2:Int):Option (Bool) :=
  iteP (decide (a1≥0)) (
  iteP (decide (a1≤(a0.bytes.length:Int))) (
  iteP (decide (a2≥0)) (
  letP (decide (a2≤(IntKind.i64.wrap ((a0.bytes.length:Int)-a1)))) λ x1 =>
  some x1) (
  none)) (
  none)) (
  none)
def slices_Clone_byte_byte (fuel:Nat) (a0:List Int):Option ((List Int)) :=
  bindP (app 1 ([]) a0) λ x1 =>
  some x1
def flash_Device_Read (fuel:Nat) (a0:flash_Device) (a1:Int) (a2:Int):Option ((List Int)×Int) :=
  iteP a0.down (
  none) (
  bindP (flash_Device_within fuel a0 a1 a2) λ y1 =>
  letP (!y1) λ x1 =>
  iteP x1 (
  none) (
  bindP (chk (decide ((0:Int)≤a1∧a1≤(IntKind.i64.wrap (a1+a2))∧(IntKind.i64.wrap (a1+a2))≤(a0.bytes.length:Int)))) λ _ =>
  bindP (sub a0.bytes a1 (IntKind.i64.wrap (a1+a2))) λ x2 =>
  bindP (slices_Clone_byte_byte fuel x2) λ y2 =>
  some (y2,0)))
def eventlog_read4 (fuel:Nat) (a0:List Int):Option (Int) :=
  bindP (idx a0 0) λ x1 =>
  bindP (idx a0 1) λ x2 =>
  bindP (idx a0 2) λ x3 =>
  bindP (idx a0 3) λ x4 =>
  letP (bOr .i64 (bOr .i64 (bOr .i64 (IntKind.i64.wrap x1) (bShl .i64 (IntKind.i64.wrap x2) 8)) (bShl .i64 (IntKind.i64.wrap x3) 16)) (bShl .i64 (IntKind.i64.wrap x4) 24)) λ x5 =>
  some x5
def eventlog_Log_header (fuel:Nat) (a0:eventlog_Log) (a1:List Int) (a2:Int):Option (eventlog_head×Bool) :=
  bindP (eventlog_read4 fuel a1) λ y1 =>
  bindP (sub a1 4 a1.length) λ x1 =>
  bindP (eventlog_read4 fuel x1) λ y2 =>
  bindP (idx a1 8) λ x2 =>
  bindP (idx a1 9) λ x3 =>
  bindP (idx a1 10) λ x4 =>
  letP (x4==0) λ x5 =>
  iteP x5 (
  none) (
  some ((⟨y1,y2,(bOr .u16 (IntKind.u16.wrap x2) (bShl .u16 (IntKind.u16.wrap x3) 8))⟩:eventlog_head),false))
def eventlog_blank_1 (fuel:Nat) (a0:Int):Option (Bool) :=
  letP (a0 != 255) λ x1 =>
  some x1
def slices_IndexFunc_byte_byte_eventlog_blank_1 (fuel:Nat) (a0:List Int):Option (Int) :=
  loopP (λ k1 (s1:Int) =>
  iteP (decide (s1<(a0.length:Int))) (
  bindP (idx a0 s1) λ x1 =>
  bindP (eventlog_blank_1 fuel x1) λ y1 =>
  iteP y1 (
  none) (
  k1 ((IntKind.i64.wrap (s1+1))))) (
  some (-1))) fuel (0)
def slices_ContainsFunc_byte_byte_eventlog_blank_1 (fuel:Nat) (a0:List Int):Option (Bool) :=
  bindP (slices_IndexFunc_byte_byte_eventlog_blank_1 fuel a0) λ y1 =>
  letP (decide (y1≥0)) λ x1 =>
  some x1
def eventlog_blank (fuel:Nat) (a0:List Int):Option (Bool) :=
  bindP (slices_ContainsFunc_byte_byte_eventlog_blank_1 fuel a0) λ y1 =>
  letP (!y1) λ x1 =>
  some x1
def event_Valid (fuel:Nat) (a0:Event_):Option (Bool) :=
  iteP (decide (a0.ID≤65534)) (
  iteP (decide (a0.Time≤4294967294)) (
  letP (decide (a0.Type_≤127)) λ x1 =>
  some x1) (
  none)) (
  none)
def eventlog_behind (fuel:Nat) (a0:Int):Option (Int) :=
  iteP (a0==65534) (
  none) (
  letP (IntKind.u16.wrap (a0+1)) λ x1 =>
  some x1)
def eventlog_Open (fuel:Nat) (a0:flash_Device) (a1:Int) (a2:Int) (a3:Bool):Option ((Option eventlog_Log)×Int) :=
  iteP (decide (a2<2)) (
  none) (
  iteP (decide (a1<0)) (
  none) (
  bindP (flash_Device_Sectors fuel a0) λ y1 =>
  iteP (decide (a2>y1)) (
  none) (
  bindP (flash_Device_Sectors fuel a0) λ y2 =>
  iteP (decide (a1>(IntKind.i64.wrap (y2-a2)))) (
  none) (
  bindP (mk 24 ([]:List Int) a2) λ x1 =>
  bindP (mk 24 eventlog_head.z a2) λ x2 =>
  loopP (λ k1 (s1:Int) =>
  iteP (decide (s1<a2)) (
  bindP (flash_Device_Size fuel a0) λ y3 =>
  bindP (flash_Device_Size fuel a0) λ y4 =>
  bindP (flash_Device_Read fuel a0 (IntKind.i64.wrap ((IntKind.i64.wrap (a1+s1))*y3)) y4) λ y5 =>
  iteP (y5.2 != 0) (
  none) (
  bindP (eventlog_Log_header fuel (⟨true,a1,a2,a3,0,0,0,1,[],false,0,false,false⟩:eventlog_Log) y5.1 s1) λ y6 =>
  iteP y6.2 (
  none) (
  k1 ((IntKind.i64.wrap (s1+1)))))) (
  loopP (λ k2 (s2:Unit) =>
  iteP (decide (0≤0)) (
  iteP (decide (0>0)) (
  none) (
  some ((some (⟨true,a1,a2,a3,0,0,0,1,[],false,0,false,false⟩:eventlog_Log)),0))) (
  none)) fuel ())) fuel (0)))))
def monitor_Monitor_find_1_2 (fuel:Nat) (a0:Sensor_) (a1:Int):Option (Bool) :=
  letP (a0.Number==a1) λ x1 =>
  some x1
def slices_IndexFunc_api_Sensor_api_Sensor_monitor_Monitor_find_1 (fuel:Nat) (a0:List Sensor_) (a1_0:Int):Option (Int) :=
  loopP (λ k1 (s1:Int) =>
  iteP (decide (s1<(a0.length:Int))) (
  bindP (idx a0 s1) λ x1 =>
  bindP (monitor_Monitor_find_1_2 fuel x1 a1_0) λ y1 =>
  iteP y1 (
  some s1) (
  k1 ((IntKind.i64.wrap (s1+1))))) (
  some (-1))) fuel (0)
def monitor_Monitor_find (fuel:Nat) (a0:monitor_Monitor) (a1:Int):Option (Int) :=
  bindP (slices_IndexFunc_api_Sensor_api_Sensor_monitor_Monitor_find_1 fuel a0.sensors a1) λ y1 =>
  some y1
def monitor_Monitor_check (fuel:Nat) (a0:monitor_Monitor) (a1:List Sample_):Option (Int) :=
  loopP (λ k1 (s1:Int) =>
  iteP (decide (s1<(a1.length:Int))) (
  bindP (idx a1 s1) λ x1 =>
  joinP (λ (s2:Bool) =>
  iteP s2 (
  some 1) (
  bindP (monitor_Monitor_find fuel a0 x1.Number) λ y1 =>
  iteP (decide (y1<0)) (
  some 8) (
  bindP (idx a0.sensors y1) λ x2 =>
  joinP (λ (s3:Bool) =>
  iteP s3 (
  some 1) (
  letP ((bAndNot .u16 x1.States x2.States) != 0) λ x3 =>
  iteP x3 (
  some 2) (
  k1 ((IntKind.i64.wrap (s1+1)))))) λ j2 =>
  iteP (!x2.Discrete) (
  iteP (x1.States != 0) (
  j2 (true)) (
  iteP x2.Discrete (
  letP (x1.Raw != 0) λ x4 =>
  j2 (x4)) (
  j2 (false)))) (
  iteP x2.Discrete (
  letP (x1.Raw != 0) λ x5 =>
  j2 (x5)) (
  j2 (false)))))) λ j1 =>
  letP (decide (s1>0)) λ x6 =>
  iteP x6 (
  bindP (idx a1 (IntKind.i64.wrap (s1-1))) λ x7 =>
  iteP (decide (x1.Number≤x7.Number)) (
  j1 (true)) (
  iteP (!x1.OK) (
  iteP (x1.Raw != 0) (
  j1 (true)) (
  j1 (x1.States != 0))) (
  j1 (false)))) (
  iteP (!x1.OK) (
  iteP (x1.Raw != 0) (
  j1 (true)) (
  j1 (x1.States != 0))) (
  j1 (false)))) (
  some 0)) fuel (0)
def entity_present_1_2 (fuel:Nat) (a0:Entity_) (a1:List Entity_):Option (Bool) :=
  bindP (slices_Contains_api_Entity_api_Entity fuel a1 a0) λ y1 =>
  some y1
def slices_IndexFunc_api_Entity_api_Entity_entity_present_1 (fuel:Nat) (a0:List Entity_) (a1_0:List Entity_):Option (Int) :=
  loopP (λ k1 (s1:Int) =>
  iteP (decide (s1<(a0.length:Int))) (
  bindP (idx a0 s1) λ x1 =>
  bindP (entity_present_1_2 fuel x1 a1_0) λ y1 =>
  iteP y1 (
  some s1) (
  k1 ((IntKind.i64.wrap (s1+1))))) (
  some (-1))) fuel (0)
def slices_ContainsFunc_api_Entity_api_Entity_entity_present_1 (fuel:Nat) (a0:List Entity_) (a1_0:List Entity_):Option (Bool) :=
  bindP (slices_IndexFunc_api_Entity_api_Entity_entity_present_1 fuel a0 a1_0) λ y1 =>
  letP (decide (y1≥0)) λ x1 =>
  some x1
def entity_present (fuel:Nat) (a0:List Association_) (a1:List Entity_) (a2:Entity_):Option (Bool) :=
  bindP (entity_around fuel a0 a2) λ y1 =>
  bindP (app 2 y1 ([a2])) λ x1 =>
  bindP (slices_ContainsFunc_api_Entity_api_Entity_entity_present_1 fuel x1 a1) λ y2 =>
  letP (!y2) λ x2 =>
  some x2
def entity_Present (fuel:Nat) (a0:List Association_) (a1:List Entity_) (a2:Entity_):Option (Bool×Int) :=
  bindP (entity_Check fuel a0) λ y1 =>
  iteP (y1 != 0) (
  some (false,y1)) (
  bindP (entity_present fuel a0 a1 a2) λ y2 =>
  some (y2,0))
def discrete_Step (fuel:Nat) (a0:Sensor_) (a1:Int) (a2:Int):Option (Int×(List Change_)×Int) :=
  joinP (λ (s1:Bool) =>
  iteP s1 (
  some (0,[],1)) (
  letP ((bAndNot .u16 (bOr .u16 a1 a2) a0.States) != 0) λ x1 =>
  iteP x1 (
  some (0,[],2)) (
  loopP (λ k1 (s2:(Int×(List Change_))) =>
  iteP (decide (s2.1<15)) (
  bindP (chk (decide (0≤s2.1))) λ _ =>
  iteP ((bAnd .u16 (bShr .u16 (bXor .u16 a1 a2) s2.1) 1)==1) (
  bindP (chk (decide (0≤s2.1))) λ _ =>
  bindP (app 16 s2.2 ([(⟨s2.1,(bAnd .u16 (bShr .u16 a2 s2.1) 1)==1⟩:Change_)])) λ x2 =>
  k1 ((IntKind.i64.wrap (s2.1+1)),x2)) (
  k1 ((IntKind.i64.wrap (s2.1+1)),s2.2))) (
  some (a2,s2.2,0))) fuel (0,[])))) λ j1 =>
  iteP (!a0.Discrete) (
  j1 (true)) (
  bindP (sensor_Valid fuel a0) λ y1 =>
  letP (!y1) λ x3 =>
  j1 (x3))
def sampling_Valid (fuel:Nat) (a0:Sensor_) (a1:Filter_):Option (Bool) :=
  bindP (sensor_Valid fuel a0) λ y1 =>
  joinP (λ (s1:Bool) =>
  iteP s1 (
  some false) (
  iteP (decide (a1.Missing<3)) (
  some true) (
  letP ((a1.Window.length:Int)==0) λ x1 =>
  some x1))) λ j1 =>
  iteP (!y1) (
  j1 (true)) (
  iteP (decide ((a1.Window.length:Int)>a0.Samples)) (
  j1 (true)) (
  iteP (decide (a1.Missing<0)) (
  j1 (true)) (
  j1 (decide (a1.Missing>3)))))
def sampling_Step (fuel:Nat) (a0:Sensor_) (a1:Filter_) (a2:Int) (a3:Bool):Option (Filter_×Int) :=
  bindP (sampling_Valid fuel a0 a1) λ y1 =>
  iteP (!y1) (
  some (Filter_.z,1)) (
  bindP (slices_Clone_byte_byte fuel a1.Window) λ y2 =>
  iteP a3 (
  bindP (app 1 y2 ([a2])) λ x1 =>
  joinP (λ (s1:Filter_) =>
  some (s1,0)) λ j1 =>
  iteP (decide ((x1.length:Int)>a0.Samples)) (
  bindP (sub x1 1 x1.length) λ x2 =>
  j1 ((⟨x2,0⟩:Filter_))) (
  j1 ((⟨x1,0⟩:Filter_)))) (
  iteP ((min (IntKind.i64.wrap (a1.Missing+1)) 3)==3) (
  some ((⟨[],(min (IntKind.i64.wrap (a1.Missing+1)) 3)⟩:Filter_),0)) (
  some ((⟨y2,(min (IntKind.i64.wrap (a1.Missing+1)) 3)⟩:Filter_),0))))
def slices_Values_uint8_uint8 (fuel:Nat) (a0:List Int):Option (((List Int))) :=
  some (a0)
def cmp_Compare_int (fuel:Nat) (a0:Int) (a1:Int):Option (Int) :=
  bindP (cmp_isNaN_int fuel a0) λ y1 =>
  bindP (cmp_isNaN_int fuel a1) λ y2 =>
  iteP y1 (
  iteP y2 (
  some 0) (
  some (-1))) (
  iteP y2 (
  some 1) (
  iteP (decide (a0<a1)) (
  some (-1)) (
  iteP (decide (a0>a1)) (
  some 1) (
  some 0))))
def bits_Len64 (fuel:Nat) (a0:Int):Option (Int) :=
  joinP (λ (s1:(Int×Int)) =>
  joinP (λ (s2:(Int×Int)) =>
  iteP (decide (s2.1≥256)) (
  letP (IntKind.i64.wrap (s2.2+8)) λ x1 =>
  bindP (idx ([0,1,2,2,3,3,3,3,4,4,4,4,4,4,4,4,5,5,5,5,5,5,5,5,5,5,5,5,5,5,5,5,6,6,6,6,6,6,6,6,6,6,6,6,6,6,6,6,6,6,6,6,6,6,6,6,6,6,6,6,6,6,6,6,7,7,7,7,7,7,7,7,7,7,7,7,7,7,7,7,7,7,7,7,7,7,7,7,7,7,7,7,7,7,7,7,7,7,7,7,7,7,7,7,7,7,7,7,7,7,7,7,7,7,7,7,7,7,7,7,7,7,7,7,7,7,7,7,8,8,8,8,8,8,8,8,8,8,8,8,8,8,8,8,8,8,8,8,8,8,8,8,8,8,8,8,8,8,8,8,8,8,8,8,8,8,8,8,8,8,8,8,8,8,8,8,8,8,8,8,8,8,8,8,8,8,8,8,8,8,8,8,8,8,8,8,8,8,8,8,8,8,8,8,8,8,8,8,8,8,8,8,8,8,8,8,8,8,8,8,8,8,8,8,8,8,8,8,8,8,8,8,8,8,8,8,8,8,8,8,8,8,8,8,8,8,8,8,8,8,8,8,8,8,8,8]) (IntKind.u8.wrap (bShr .u64 s2.1 8))) λ x2 =>
  letP (IntKind.i64.wrap (x1+(IntKind.i64.wrap x2))) λ x3 =>
  some x3) (
  bindP (idx ([0,1,2,2,3,3,3,3,4,4,4,4,4,4,4,4,5,5,5,5,5,5,5,5,5,5,5,5,5,5,5,5,6,6,6,6,6,6,6,6,6,6,6,6,6,6,6,6,6,6,6,6,6,6,6,6,6,6,6,6,6,6,6,6,7,7,7,7,7,7,7,7,7,7,7,7,7,7,7,7,7,7,7,7,7,7,7,7,7,7,7,7,7,7,7,7,7,7,7,7,7,7,7,7,7,7,7,7,7,7,7,7,7,7,7,7,7,7,7,7,7,7,7,7,7,7,7,7,8,8,8,8,8,8,8,8,8,8,8,8,8,8,8,8,8,8,8,8,8,8,8,8,8,8,8,8,8,8,8,8,8,8,8,8,8,8,8,8,8,8,8,8,8,8,8,8,8,8,8,8,8,8,8,8,8,8,8,8,8,8,8,8,8,8,8,8,8,8,8,8,8,8,8,8,8,8,8,8,8,8,8,8,8,8,8,8,8,8,8,8,8,8,8,8,8,8,8,8,8,8,8,8,8,8,8,8,8,8,8,8,8,8,8,8,8,8,8,8,8,8,8,8,8,8,8,8]) (IntKind.u8.wrap s2.1)) λ x4 =>
  letP (IntKind.i64.wrap (s2.2+(IntKind.i64.wrap x4))) λ x5 =>
  some x5)) λ j2 =>
  iteP (decide (s1.1≥65536)) (
  letP (IntKind.i64.wrap (s1.2+16)) λ x6 =>
  j2 ((bShr .u64 s1.1 16),x6)) (
  j2 (s1.1,s1.2))) λ j1 =>
  iteP (decide (a0≥4294967296)) (
  j1 ((bShr .u64 a0 32),32)) (
  j1 (a0,0))
def bits_Len (fuel:Nat) (a0:Int):Option (Int) :=
  bindP (bits_Len64 fuel a0) λ y1 =>
  some y1
def slices_Values_uint8_uint8_1_2 {σ:Type} (fuel:Nat) (bd_:σ→Int→Option σ) (s_:σ) (a1:List Int):Option (σ) :=
  loopP (λ k1 (s1:(Int×σ)) =>
  iteP (decide (s1.1<(a1.length:Int))) (
  bindP (idx a1 s1.1) λ x1 =>
  bindP (bd_ s1.2 x1) λ y1 =>
  k1 ((IntKind.i64.wrap (s1.1+1)),y1)) (
  some s1.2)) fuel (0,s_)
def slices_AppendSeq_uint8_uint8_slices_Values_uint8_uint8_1 (fuel:Nat) (a1_0:List Int):Option ((List Int)) :=
  bindP (slices_Values_uint8_uint8_1_2 fuel (λ (s1:((List Int))) (x1:Int) =>
  bindP (app 1 s1 ([x1])) λ x2 =>
  some (x2)) ([]) a1_0) λ y1 =>
  some y1
def slices_Collect_uint8_slices_Values_uint8_uint8_1 (fuel:Nat) (a0_0:List Int):Option ((List Int)) :=
  bindP (slices_AppendSeq_uint8_uint8_slices_Values_uint8_uint8_1 fuel a0_0) λ y1 =>
  some y1
def sampling_Reading_1_2 (fuel:Nat) (a0:Int) (a1:Int) (a2:Sensor_):Option (Int) :=
  bindP (convert_Number fuel a2.Conversion.Signed a0) λ y1 =>
  bindP (convert_Number fuel a2.Conversion.Signed a1) λ y2 =>
  bindP (cmp_Compare_int fuel y1 y2) λ y3 =>
  some y3
def slices_insertionSortCmpFunc_uint8_sampling_Reading_1 (fuel:Nat) (a0:List Int) (a1:Int) (a2:Int) (a3_0:Sensor_):Option ((List Int)) :=
  letP (IntKind.i64.wrap (a1+1)) λ x1 =>
  loopP (λ k1 (s1:(Int×(List Int))) =>
  iteP (decide (s1.1<a2)) (
  loopP (λ k2 (s2:(Int×(List Int))) =>
  joinP (λ (s3:Bool) =>
  iteP s3 (
  bindP (idx s2.2 (IntKind.i64.wrap (s2.1-1))) λ x2 =>
  bindP (idx s2.2 s2.1) λ x3 =>
  letP (upd s2.2 s2.1 x2) λ d1 =>
  bindP (idx d1 (IntKind.i64.wrap (s2.1-1))) λ x4 =>
  letP (upd d1 (IntKind.i64.wrap (s2.1-1)) x3) λ d2 =>
  letP (IntKind.i64.wrap (s2.1-1)) λ x5 =>
  k2 (x5,d2)) (
  letP (IntKind.i64.wrap (s1.1+1)) λ x6 =>
  k1 (x6,s2.2))) λ j1 =>
  letP (decide (s2.1>a1)) λ x7 =>
  iteP x7 (
  bindP (idx s2.2 s2.1) λ x8 =>
  bindP (idx s2.2 (IntKind.i64.wrap (s2.1-1))) λ x9 =>
  bindP (sampling_Reading_1_2 fuel x8 x9 a3_0) λ y1 =>
  j1 (decide (y1<0))) (
  j1 (false))) fuel (s1.1,s1.2)) (
  some s1.2)) fuel (x1,a0)
def slices_pdqsortCmpFunc_uint8_sampling_Reading_1 (fuel:Nat) (a0:List Int) (a1:Int) (a2:Int) (a3:Int) (a4_0:Sensor_):Option ((List Int)) :=
  loopP (λ k1 (s1:Unit) =>
  letP (IntKind.i64.wrap (a2-a1)) λ x1 =>
  iteP (decide (x1≤12)) (
  bindP (slices_insertionSortCmpFunc_uint8_sampling_Reading_1 fuel a0 a1 a2 a4_0) λ y1 =>
  some y1) (
  iteP (a3==0) (
  none) (
  iteP (!true) (
  none) (
  none)))) fuel ()
def slices_SortFunc_uint8_uint8_sampling_Reading_1 (fuel:Nat) (a0:List Int) (a1_0:Sensor_):Option ((List Int)) :=
  bindP (bits_Len fuel (IntKind.u64.wrap (a0.length:Int))) λ y1 =>
  bindP (slices_pdqsortCmpFunc_uint8_sampling_Reading_1 fuel a0 0 (a0.length:Int) y1 a1_0) λ y2 =>
  some y2
def slices_SortedFunc_uint8_slices_Values_uint8_uint8_1_sampling_Reading_1 (fuel:Nat) (a0_0:List Int) (a1_0:Sensor_):Option ((List Int)) :=
  bindP (slices_Collect_uint8_slices_Values_uint8_uint8_1 fuel a0_0) λ y1 =>
  bindP (slices_SortFunc_uint8_uint8_sampling_Reading_1 fuel y1 a1_0) λ y2 =>
  some y2
def sampling_Reading (fuel:Nat) (a0:Sensor_) (a1:Filter_):Option (Int×Bool) :=
  bindP (sampling_Valid fuel a0 a1) λ y1 =>
  joinP (λ (s1:Bool) =>
  iteP s1 (
  some (0,false)) (
  bindP (slices_Values_uint8_uint8 fuel a1.Window) λ y2 =>
  bindP (slices_SortedFunc_uint8_slices_Values_uint8_uint8_1_sampling_Reading_1 fuel y2 a0) λ y3 =>
  bindP (idx y3 (IntKind.i64.wrap (Int.tdiv (y3.length:Int) 2))) λ x1 =>
  some (x1,true))) λ j1 =>
  iteP (!y1) (
  j1 (true)) (
  j1 ((a1.Window.length:Int) != a0.Samples))
def threshold_analog (fuel:Nat) (a0:Sensor_):Option (Bool) :=
  iteP (!a0.Discrete) (
  bindP (sensor_Valid fuel a0) λ y1 =>
  some y1) (
  some false)
def threshold_beyond (fuel:Nat) (a0:Sensor_) (a1:Int) (a2:Int):Option (Int×Int) :=
  bindP (convert_Number fuel a0.Conversion.Signed a2) λ y1 =>
  bindP (idx a0.Limits.Raw a1) λ x1 =>
  bindP (chk (Nat.beq a0.Limits.Raw.length 6)) λ _ =>
  bindP (convert_Number fuel a0.Conversion.Signed x1) λ y2 =>
  iteP (decide (a1≤2)) (
  letP (IntKind.i64.wrap a0.HystLower) λ x2 =>
  some ((IntKind.i64.wrap (y2-y1)),x2)) (
  letP (IntKind.i64.wrap a0.HystUpper) λ x3 =>
  some ((IntKind.i64.wrap (y1-y2)),x3))
def threshold_next (fuel:Nat) (a0:Sensor_) (a1:Int) (a2:Int):Option (Int) :=
  loopP (λ k1 (s1:(Int×Int)) =>
  iteP (decide (s1.2<6)) (
  bindP (chk (decide (0≤s1.2))) λ _ =>
  letP (bAnd .u8 (bShl .u8 1 s1.2) a0.Limits.Mask) λ x1 =>
  bindP (threshold_beyond fuel a0 s1.2 a2) λ y1 =>
  joinP (λ (s2:Bool) =>
  iteP s2 (
  k1 ((bOr .u8 s1.1 x1),(IntKind.i64.wrap (s1.2+1)))) (
  k1 (s1.1,(IntKind.i64.wrap (s1.2+1))))) λ j1 =>
  iteP (decide (y1.1≥0)) (
  j1 (true)) (
  iteP ((bAnd .u8 a1 x1) != 0) (
  j1 (decide (y1.1≥(IntKind.i64.wrap (0-y1.2))))) (
  j1 (false)))) (
  some s1.1)) fuel (0,0)
def threshold_Step (fuel:Nat) (a0:Sensor_) (a1:Int) (a2:Int):Option (Int×(List Change_)×Int) :=
  bindP (threshold_analog fuel a0) λ y1 =>
  letP (!y1) λ x1 =>
  iteP x1 (
  some (0,[],1)) (
  letP ((bAndNot .u8 a1 a0.Limits.Mask) != 0) λ x2 =>
  iteP x2 (
  some (0,[],2)) (
  bindP (threshold_next fuel a0 a1 a2) λ y2 =>
  loopP (λ k1 (s1:(Int×(List Change_))) =>
  iteP (decide (s1.1<6)) (
  bindP (chk (decide (0≤s1.1))) λ _ =>
  iteP ((bAnd .u8 (bShr .u8 (bXor .u8 a1 y2) s1.1) 1)==1) (
  bindP (chk (decide (0≤s1.1))) λ _ =>
  bindP (app 16 s1.2 ([(⟨s1.1,(bAnd .u8 (bShr .u8 y2 s1.1) 1)==1⟩:Change_)])) λ x3 =>
  k1 ((IntKind.i64.wrap (s1.1+1)),x3)) (
  k1 ((IntKind.i64.wrap (s1.1+1)),s1.2))) (
  some (y2,s1.2,0))) fuel (0,[])))
def monitor_Monitor_step (fuel:Nat) (a0:monitor_Monitor) (a1:Int) (a2:Sample_):Option ((List Change_)×Int×monitor_Monitor) :=
  bindP (idx a0.sensors a1) λ x1 =>
  iteP x1.Discrete (
  joinP (λ (s1:((List Change_)×monitor_Monitor)) =>
  some (s1.1,0,s1.2)) λ j1 =>
  iteP a2.OK (
  bindP (idx a0.states a1) λ x2 =>
  bindP (discrete_Step fuel x1 x2 a2.States) λ y1 =>
  letP (upd a0.states a1 y1.1) λ d1 =>
  j1 (y1.2.1,{ { { a0 with states:=d1 } with filters:=a0.filters } with states:=d1 })) (
  j1 ([],a0))) (
  bindP (idx a0.filters a1) λ x3 =>
  bindP (sampling_Step fuel x1 x3 a2.Raw a2.OK) λ y2 =>
  letP (upd a0.filters a1 y2.1) λ d2 =>
  bindP (idx d2 a1) λ x4 =>
  bindP (sampling_Reading fuel x1 x4) λ y3 =>
  iteP (!y3.2) (
  some ([],0,{ { a0 with filters:=d2 } with states:=a0.states })) (
  bindP (idx a0.states a1) λ x5 =>
  bindP (threshold_Step fuel x1 (IntKind.u8.wrap x5) y3.1) λ y4 =>
  bindP (idx a0.states a1) λ x6 =>
  letP (upd a0.states a1 (IntKind.u16.wrap y4.1)) λ d3 =>
  some (y4.2.1,y3.1,{ { a0 with filters:=d2 } with states:=d3 })))
def event_State (fuel:Nat) (a0:Int) (a1:Int) (a2:Int) (a3:Bool):Option (Event_×Int) :=
  joinP (λ (s1:Bool) =>
  iteP s1 (
  some (Event_.z,2)) (
  some ((⟨0,0,32,a0,a1,111,!a3,[(IntKind.u8.wrap a2),255,255]⟩:Event_),0))) λ j1 =>
  iteP (decide (a2<0)) (
  j1 (true)) (
  j1 (decide (a2>14)))
def event_Threshold (fuel:Nat) (a0:Int) (a1:Int) (a2:Int) (a3:Bool) (a4:Int) (a5:Int):Option (Event_×Int) :=
  joinP (λ (s1:Bool) =>
  iteP s1 (
  some (Event_.z,2)) (
  bindP (idx ([0,2,4,7,9,11]) a2) λ x1 =>
  some ((⟨0,0,32,a0,a1,1,!a3,[(IntKind.u8.wrap (80+x1)),a4,a5]⟩:Event_),0))) λ j1 =>
  iteP (decide (a2<0)) (
  j1 (true)) (
  j1 (decide (a2≥6)))
def monitor_events (fuel:Nat) (a0:Sensor_) (a1:List Change_) (a2:Int):Option ((List Event_)) :=
  loopP (λ k1 (s1:(Int×(List Event_))) =>
  iteP (decide (s1.1<(a1.length:Int))) (
  bindP (idx a1 s1.1) λ x1 =>
  joinP (λ (s2:Int) =>
  bindP (chk (decide (0≤x1.Index))) λ _ =>
  iteP ((bAnd .u16 (bShr .u16 s2 x1.Index) 1)==0) (
  k1 ((IntKind.i64.wrap (s1.1+1)),s1.2)) (
  joinP (λ (s3:Event_) =>
  bindP (app 20 s1.2 ([s3])) λ x2 =>
  k1 ((IntKind.i64.wrap (s1.1+1)),x2)) λ j2 =>
  iteP a0.Discrete (
  bindP (event_State fuel a0.Type_ a0.Number x1.Index x1.Asserted) λ y1 =>
  j2 (y1.1)) (
  bindP (idx a0.Limits.Raw x1.Index) λ x3 =>
  bindP (chk (Nat.beq a0.Limits.Raw.length 6)) λ _ =>
  bindP (event_Threshold fuel a0.Type_ a0.Number x1.Index x1.Asserted a2 x3) λ y2 =>
  j2 (y2.1)))) λ j1 =>
  iteP x1.Asserted (
  j1 (a0.Assert)) (
  j1 (a0.Deassert))) (
  some s1.2)) fuel (0,[])
def monitor_Monitor_Scan_1_2 (fuel:Nat) (a0:Sample_) (a1:Sensor_):Option (Bool) :=
  letP (a0.Number==a1.Number) λ x1 =>
  some x1
def slices_IndexFunc_api_Sample_api_Sample_monitor_Monitor_Scan_1 (fuel:Nat) (a0:List Sample_) (a1_0:Sensor_):Option (Int) :=
  loopP (λ k1 (s1:Int) =>
  iteP (decide (s1<(a0.length:Int))) (
  bindP (idx a0 s1) λ x1 =>
  bindP (monitor_Monitor_Scan_1_2 fuel x1 a1_0) λ y1 =>
  iteP y1 (
  some s1) (
  k1 ((IntKind.i64.wrap (s1+1))))) (
  some (-1))) fuel (0)
def monitor_Monitor_Scan (fuel:Nat) (a0:monitor_Monitor) (a1:List Sample_) (a2:List Entity_) (a3:Bool):Option ((List Event_)×Int×monitor_Monitor) :=
  bindP (monitor_Monitor_check fuel a0 a1) λ y1 =>
  iteP (y1 != 0) (
  some ([],y1,a0)) (
  loopP (λ k1 (s1:(Int×monitor_Monitor×(List Event_))) =>
  iteP (decide (s1.1<(a0.sensors.length:Int))) (
  bindP (idx a0.sensors s1.1) λ x1 =>
  bindP (entity_Present fuel s1.2.1.l a2 x1.Entity) λ y2 =>
  joinP (λ (s2:Bool) =>
  iteP s2 (
  bindP (idx s1.2.1.filters s1.1) λ x2 =>
  letP (upd s1.2.1.filters s1.1 Filter_.z) λ d1 =>
  k1 ((IntKind.i64.wrap (s1.1+1)),{ { { { s1.2.1 with filters:=d1 } with states:=s1.2.1.states } with filters:=d1 } with states:=s1.2.1.states },s1.2.2)) (
  bindP (slices_IndexFunc_api_Sample_api_Sample_monitor_Monitor_Scan_1 fuel a1 x1) λ y3 =>
  joinP (λ (s3:Sample_) =>
  bindP (monitor_Monitor_step fuel s1.2.1 s1.1 s3) λ y4 =>
  bindP (monitor_events fuel x1 y4.1 y4.2.1) λ y5 =>
  bindP (app 20 s1.2.2 y5) λ x3 =>
  k1 ((IntKind.i64.wrap (s1.1+1)),y4.2.2,x3)) λ j2 =>
  iteP (decide (y3≥0)) (
  bindP (idx a1 y3) λ x4 =>
  j2 (x4)) (
  j2 ((⟨x1.Number,false,0,0⟩:Sample_))))) λ j1 =>
  iteP (!y2.1) (
  j1 (true)) (
  iteP x1.HostOn (
  j1 (!a3)) (
  j1 (false)))) (
  some (s1.2.2,0,s1.2.1))) fuel (0,a0,[]))
def flash_Device_Down (fuel:Nat) (a0:flash_Device):Option (Bool) :=
  some a0.down
def eventlog_Log_down (fuel:Nat) (a0:eventlog_Log) (ad:flash_Device):Option (Bool×eventlog_Log×flash_Device) :=
  iteP a0.ended (
  none) (
  bindP (chk a0.d) λ _ =>
  bindP (flash_Device_Down fuel ad) λ y1 =>
  iteP y1 (
  none) (
  some (a0.ended,a0,ad)))
def flash_Device_step (fuel:Nat) (a0:flash_Device):Option (Bool×flash_Device) :=
  letP ({ a0 with steps:=(IntKind.i64.wrap (a0.steps+1)) }) λ d1 =>
  iteP (decide (d1.left>0)) (
  none) (
  some (d1.down,{ { d1 with bytes:=a0.bytes } with wear:=a0.wear }))
def eventlog_write4 (fuel:Nat) (a0:Int):Option ((List Int)) :=
  some ([(IntKind.u8.wrap a0),(IntKind.u8.wrap (bShr .i64 a0 8)),(IntKind.u8.wrap (bShr .i64 a0 16)),(IntKind.u8.wrap (bShr .i64 a0 24))])
def flash_Device_Program (fuel:Nat) (a0:flash_Device) (a1:Int) (a2:List Int):Option (Int×flash_Device) :=
  iteP a0.down (
  none) (
  bindP (flash_Device_within fuel a0 a1 (a2.length:Int)) λ y1 =>
  letP (!y1) λ x1 =>
  iteP x1 (
  none) (
  loopP (λ k1 (s1:(Int×flash_Device)) =>
  iteP (decide (s1.1<(a2.length:Int))) (
  bindP (idx a2 s1.1) λ x2 =>
  bindP (flash_Device_step fuel s1.2) λ y2 =>
  iteP y2.1 (
  none) (
  bindP (idx y2.2.bytes (IntKind.i64.wrap (a1+s1.1))) λ x3 =>
  letP (upd y2.2.bytes (IntKind.i64.wrap (a1+s1.1)) (bAnd .u8 x3 x2)) λ d1 =>
  k1 ((IntKind.i64.wrap (s1.1+1)),{ { { { y2.2 with bytes:=d1 } with wear:=y2.2.wear } with bytes:=d1 } with wear:=y2.2.wear }))) (
  some (0,s1.2))) fuel (0,a0)))
def slices_IndexFunc_eventlog_record_eventlog_record_eventlog_Log_open_1 (fuel:Nat) (a0:List eventlog_record) (a1_0:Int):Option (Int) :=
  loopP (λ k1 (s1:Unit) =>
  iteP (decide (0<(a0.length:Int))) (
  none) (
  some (-1))) fuel ()
def slices_DeleteFunc_eventlog_record_eventlog_record_eventlog_Log_open_1 (fuel:Nat) (a0:List eventlog_record) (a1_0:Int):Option ((List eventlog_record)) :=
  bindP (slices_IndexFunc_eventlog_record_eventlog_record_eventlog_Log_open_1 fuel a0 a1_0) λ y1 =>
  iteP (y1==(-1)) (
  some a0) (
  none)
def eventlog_Log_open (fuel:Nat) (a0:eventlog_Log) (a1:Int) (ad:flash_Device):Option (Int×eventlog_Log×flash_Device) :=
  letP (IntKind.i64.wrap (a0.newest+1)) λ x1 =>
  iteP (decide (x1>2147483648)) (
  none) (
  bindP (chk (decide (a0.sectors≠0))) λ _ =>
  letP (IntKind.i64.wrap (a0.first+(Int.tmod (IntKind.i64.wrap (x1-1)) a0.sectors))) λ x2 =>
  bindP (chk a0.d) λ _ =>
  bindP (flash_Device_Size fuel ad) λ y1 =>
  letP (IntKind.i64.wrap (x2*y1)) λ x3 =>
  bindP (flash_Device_Size fuel ad) λ y2 =>
  bindP (flash_Device_Read fuel ad x3 y2) λ y3 =>
  iteP (y3.2==0) (
  bindP (eventlog_blank fuel y3.1) λ y4 =>
  iteP (!y4) (
  none) (
  iteP (y3.2==0) (
  bindP (eventlog_write4 fuel x1) λ y5 =>
  bindP (eventlog_write4 fuel a1) λ y6 =>
  bindP (app 1 y5 y6) λ x4 =>
  bindP (app 1 x4 ([(IntKind.u8.wrap a0.next),(IntKind.u8.wrap (bShr .u16 a0.next 8))])) λ x5 =>
  bindP (flash_Device_Program fuel ad x3 x5) λ y7 =>
  iteP (y7.1==0) (
  bindP (flash_Device_Program fuel y7.2 (IntKind.i64.wrap (x3+10)) ([0])) λ y8 =>
  iteP (y8.1==0) (
  letP ({ a0 with newest:=x1 }) λ d1 =>
  letP ({ d1 with tail:=a1 }) λ d2 =>
  letP ({ d2 with used:=0 }) λ d3 =>
  bindP (slices_DeleteFunc_eventlog_record_eventlog_record_eventlog_Log_open_1 fuel a0.records a1) λ y9 =>
  some (y8.1,{ { d3 with d:=a0.d } with records:=y9 },y8.2)) (
  none)) (
  none)) (
  none))) (
  none))
def eventlog_Log_grow (fuel:Nat) (a0:eventlog_Log) (ad:flash_Device):Option (Int×eventlog_Log×flash_Device) :=
  iteP (decide ((IntKind.i64.wrap ((IntKind.i64.wrap (a0.newest+1))-(max a0.tail 1)))>(IntKind.i64.wrap (a0.sectors-2)))) (
  none) (
  bindP (eventlog_Log_open fuel a0 (max a0.tail 1) ad) λ y1 =>
  some (y1.1,y1.2.1,y1.2.2))
def event_Encode (fuel:Nat) (a0:Event_):Option ((List Int)×Int) :=
  bindP (event_Valid fuel a0) λ y1 =>
  iteP (!y1) (
  none) (
  iteP a0.Deassert (
  none) (
  bindP (idx a0.Data 0) λ x1 =>
  bindP (chk (Nat.beq a0.Data.length 3)) λ _ =>
  bindP (idx a0.Data 1) λ x2 =>
  bindP (chk (Nat.beq a0.Data.length 3)) λ _ =>
  bindP (idx a0.Data 2) λ x3 =>
  bindP (chk (Nat.beq a0.Data.length 3)) λ _ =>
  some ([(IntKind.u8.wrap a0.ID),(IntKind.u8.wrap (bShr .u16 a0.ID 8)),2,(IntKind.u8.wrap a0.Time),(IntKind.u8.wrap (bShr .u32 a0.Time 8)),(IntKind.u8.wrap (bShr .u32 a0.Time 16)),(IntKind.u8.wrap (bShr .u32 a0.Time 24)),(IntKind.u8.wrap a0.Generator),(IntKind.u8.wrap (bShr .u16 a0.Generator 8)),4,a0.SensorType,a0.Sensor,a0.Type_,x1,x2,x3],0)))
def eventlog_Log_Add (fuel:Nat) (a0:eventlog_Log) (a1:Event_) (ad:flash_Device):Option (Int×Int×eventlog_Log×flash_Device) :=
  bindP (eventlog_Log_down fuel a0 ad) λ y1 =>
  iteP y1.1 (
  none) (
  bindP (event_Valid fuel a1) λ y2 =>
  iteP (!y2) (
  none) (
  iteP (a1.ID != 0) (
  none) (
  bindP (chk y1.2.1.d) λ _ =>
  letP (y1.2.1.newest==0) λ x1 =>
  iteP x1 (
  bindP (eventlog_Log_grow fuel y1.2.1 y1.2.2) λ y3 =>
  iteP (y3.1 != 0) (
  none) (
  letP ({ a1 with ID:=y3.2.1.next }) λ d1 =>
  bindP (event_Encode fuel d1) λ y4 =>
  bindP (chk y3.2.1.d) λ _ =>
  bindP (chk (decide (y3.2.1.sectors≠0))) λ _ =>
  bindP (flash_Device_Size fuel y3.2.2) λ y5 =>
  letP (IntKind.i64.wrap ((IntKind.i64.wrap ((IntKind.i64.wrap ((IntKind.i64.wrap (y3.2.1.first+(Int.tmod (IntKind.i64.wrap (y3.2.1.newest-1)) y3.2.1.sectors)))*y5))+11))+(IntKind.i64.wrap (y3.2.1.used*17)))) λ x2 =>
  bindP (app 1 y4.1 ([0])) λ x3 =>
  bindP (flash_Device_Program fuel y3.2.2 x2 x3) λ y6 =>
  iteP (y6.1 != 0) (
  none) (
  bindP (app 32 y3.2.1.records ([(⟨y3.2.1.newest,d1⟩:eventlog_record)])) λ x4 =>
  letP ({ y3.2.1 with used:=(IntKind.i64.wrap (y3.2.1.used+1)) }) λ d2 =>
  bindP (eventlog_behind fuel d1.ID) λ y7 =>
  letP ({ d2 with next:=y7 }) λ d3 =>
  some (d1.ID,0,{ { d3 with d:=y3.2.1.d } with records:=x4 },y6.2)))) (
  none))))
def eventlog_Log_Len (fuel:Nat) (a0:eventlog_Log):Option (Int) :=
  letP (a0.records.length:Int) λ x1 =>
  some x1
def top_first (fuel:Nat)  : Option (Bool) :=
  bindP (monitor_New fuel ([(⟨1,1,0,[116],Entity_.z,false,(⟨1,false,1,0,0,0,[]⟩:Conversion_),(⟨8,(upd (List.replicate 6 0) (3:Int) 80)⟩:Thresholds_),0,0,0,8,0,false,1⟩:Sensor_)]) ([])) λ y1 =>
  bindP (flash_New fuel 2 64) λ y2 =>
  iteP y1.1.isNone (
  none) (
  iteP y2.1.isNone (
  none) (
  iteP (y1.2 != 0) (
  none) (
  iteP (y2.2 != 0) (
  none) (
  bindP y2.1 λ x1 =>
  bindP (eventlog_Open fuel x1 0 2 false) λ y3 =>
  bindP y1.1 λ x2 =>
  bindP (monitor_Monitor_Scan fuel x2 ([(⟨1,true,80,0⟩:Sample_)]) ([]) true) λ y4 =>
  iteP y3.1.isNone (
  none) (
  iteP (y3.2 != 0) (
  none) (
  iteP (y4.2.1 != 0) (
  none) (
  iteP ((y4.1.length:Int) != 1) (
  none) (
  bindP (idx y4.1 0) λ x3 =>
  bindP y3.1 λ x4 =>
  bindP (eventlog_Log_Add fuel x4 x3 x1) λ y5 =>
  iteP (y5.2.1==0) (
  iteP (y5.1==1) (
  bindP (eventlog_Log_Len fuel y5.2.2.1) λ y6 =>
  letP (y6==1) λ x5 =>
  some x5) (
  none)) (
  none)))))))))
def made_Light (fuel:Nat) (a0:List Int):Option (Bool) :=
  letP (decide ((a0.length:Int)≤600)) λ x1 =>
  some x1
def made_Roll (fuel:Nat) (a0:List Int):Option (made_Dice) :=
  some (⟨a0,0⟩:made_Dice)
def made_Mod (fuel:Nat) (a0:Int) (a1:Int):Option (Int) :=
  bindP (chk (decide (a1≠0))) λ _ =>
  iteP (decide ((Int.tmod a0 a1)<0)) (
  letP (IntKind.i64.wrap ((Int.tmod a0 a1)+a1)) λ x1 =>
  some x1) (
  some (Int.tmod a0 a1))
def made_Dice_Next (fuel:Nat) (a0:made_Dice) (a1:Int):Option (Int×made_Dice) :=
  iteP (decide (a0.At≥(a0.L.length:Int))) (
  some (0,a0)) (
  letP ({ a0 with At:=(IntKind.i64.wrap (a0.At+1)) }) λ d1 =>
  bindP (idx d1.L (IntKind.i64.wrap (d1.At-1))) λ x1 =>
  bindP (made_Mod fuel x1 a1) λ y1 =>
  some (y1,d1))
def made_Dice_Bool (fuel:Nat) (a0:made_Dice) (a1:Int):Option (Bool×made_Dice) :=
  bindP (made_Dice_Next fuel a0 a1) λ y1 =>
  letP (y1.1==(IntKind.i64.wrap (a1-1))) λ x1 =>
  some (x1,y1.2)
def made_Dice_Byte (fuel:Nat) (a0:made_Dice):Option (Int×made_Dice) :=
  letP ([0,1,127,128,254,255,15,240]) λ d1 =>
  bindP (made_Dice_Bool fuel a0 3) λ y1 =>
  iteP y1.1 (
  bindP (made_Dice_Next fuel y1.2 8) λ y2 =>
  bindP (idx d1 y2.1) λ x1 =>
  bindP (chk (Nat.beq d1.length 8)) λ _ =>
  some (x1,y2.2)) (
  bindP (made_Dice_Next fuel y1.2 256) λ y3 =>
  some ((IntKind.u8.wrap y3.1),y3.2))
def made_Dice_Text (fuel:Nat) (a0:made_Dice) (a1:List Int) (a2:Int):Option ((List Int)×made_Dice) :=
  loopP (λ k1 (s1:((List Int)×Int×made_Dice)) =>
  iteP (decide (s1.2.1<a2)) (
  bindP (made_Dice_Next fuel s1.2.2 (a1.length:Int)) λ y1 =>
  bindP (sub a1 y1.1 (IntKind.i64.wrap (y1.1+1))) λ x1 =>
  bindP (cat s1.1 x1) λ x2 =>
  letP (IntKind.i64.wrap (s1.2.1+1)) λ x3 =>
  k1 (x2,x3,y1.2)) (
  some (s1.1,s1.2.2))) fuel ([],0,a0)
def made_Dice_Entity (fuel:Nat) (a0:made_Dice):Option (Entity_×made_Dice) :=
  bindP (made_Dice_Next fuel a0 4) λ y1 =>
  bindP (made_Dice_Next fuel y1.2 2) λ y2 =>
  some ((⟨(IntKind.u8.wrap (IntKind.i64.wrap (1+y1.1))),(IntKind.u8.wrap y2.1)⟩:Entity_),y2.2)
def ref04_Least (fuel:Nat) (a0:Bool):Option (Int) :=
  iteP a0 (
  some (-128)) (
  some 0)
def ref04_Raw (fuel:Nat) (a0:Int):Option (Int) :=
  letP (IntKind.u8.wrap (Int.tmod (IntKind.i64.wrap (a0+256)) 256)) λ x1 =>
  some x1
def made_Dice_Micro (fuel:Nat) (a0:made_Dice):Option (Int×made_Dice) :=
  letP ([0,1,(-1),1000000,(-1000000),1000000000000,(-1000000000000),500000]) λ d1 =>
  bindP (made_Dice_Next fuel a0 3) λ y1 =>
  letP (y1.1==0) λ x1 =>
  iteP x1 (
  bindP (made_Dice_Next fuel y1.2 8) λ y2 =>
  bindP (idx d1 y2.1) λ x2 =>
  bindP (chk (Nat.beq d1.length 8)) λ _ =>
  some (x2,y2.2)) (
  letP (y1.1==1) λ x3 =>
  iteP x3 (
  bindP (made_Dice_Next fuel y1.2 2000001) λ y3 =>
  letP (IntKind.i64.wrap (y3.1-1000000)) λ x4 =>
  some (x4,y3.2)) (
  bindP (made_Dice_Next fuel y1.2 2000001) λ y4 =>
  bindP (made_Dice_Next fuel y4.2 1000) λ y5 =>
  letP (IntKind.i64.wrap ((IntKind.i64.wrap ((IntKind.i64.wrap (y4.1-1000000))*1000))*(IntKind.i64.wrap (1+y5.1)))) λ x5 =>
  some (x5,y5.2)))
def made_Dice_Conversion (fuel:Nat) (a0:made_Dice):Option (Conversion_×made_Dice) :=
  bindP (made_Dice_Next fuel a0 5) λ y1 =>
  bindP (made_Dice_Bool fuel y1.2 2) λ y2 =>
  iteP ((IntKind.i64.wrap (1+y1.1)) != 5) (
  bindP (made_Dice_Next fuel y2.2 1024) λ y3 =>
  bindP (made_Dice_Next fuel y3.2 1024) λ y4 =>
  bindP (made_Dice_Bool fuel y4.2 2) λ y5 =>
  joinP (λ (s1:(made_Dice×Conversion_)) =>
  bindP (made_Dice_Next fuel s1.1 7) λ y6 =>
  letP ({ s1.2 with K1:=(IntKind.i64.wrap (y6.1-3)) }) λ d1 =>
  bindP (made_Dice_Next fuel y6.2 7) λ y7 =>
  letP ({ d1 with K2:=(IntKind.i64.wrap (y7.1-3)) }) λ d2 =>
  some ({ d2 with Points:=[] },y7.2)) λ j1 =>
  iteP y5.1 (
  bindP (made_Dice_Next fuel y5.2 21) λ y8 =>
  bindP (made_Dice_Next fuel y8.2 41) λ y9 =>
  j1 (y9.2,(⟨(IntKind.i64.wrap (1+y1.1)),y2.1,(IntKind.i64.wrap (y8.1-10)),(IntKind.i64.wrap (y9.1-20)),0,0,[]⟩:Conversion_))) (
  j1 (y5.2,(⟨(IntKind.i64.wrap (1+y1.1)),y2.1,(IntKind.i64.wrap (y3.1-512)),(IntKind.i64.wrap (y4.1-512)),0,0,[]⟩:Conversion_)))) (
  bindP (made_Dice_Next fuel y2.2 11) λ y10 =>
  letP (IntKind.i64.wrap (2+y10.1)) λ x1 =>
  bindP (ref04_Least fuel y2.1) λ y11 =>
  bindP (made_Dice_Next fuel y10.2 40) λ y12 =>
  letP (IntKind.i64.wrap (y11+y12.1)) λ x2 =>
  loopP (λ k1 (s2:(Int×Int×made_Dice×(List Point_))) =>
  iteP (decide (s2.2.1<x1)) (
  bindP (ref04_Raw fuel s2.1) λ y13 =>
  bindP (made_Dice_Micro fuel s2.2.2.1) λ y14 =>
  bindP (app 16 s2.2.2.2 ([(⟨y13,y14.1⟩:Point_)])) λ x3 =>
  bindP (made_Dice_Next fuel y14.2 18) λ y15 =>
  letP (IntKind.i64.wrap (s2.1+(IntKind.i64.wrap (1+y15.1)))) λ x4 =>
  letP (IntKind.i64.wrap (s2.2.1+1)) λ x5 =>
  k1 (x4,x5,y15.2,x3)) (
  some ((⟨(IntKind.i64.wrap (1+y1.1)),y2.1,0,0,0,0,s2.2.2.2⟩:Conversion_),s2.2.2.1))) fuel (x2,0,y12.2,[]))
def ref10_Has (fuel:Nat) (a0:Int) (a1:Int):Option (Bool) :=
  bindP (chk (decide (0≤(IntKind.u64.wrap a1)))) λ _ =>
  letP ((Int.tmod (bShr .u16 a0 (IntKind.u64.wrap a1)) 2)==1) λ x1 =>
  some x1
def made_Dice_thresholds (fuel:Nat) (a0:made_Dice) (a1:Bool):Option (Thresholds_×made_Dice) :=
  bindP (made_Dice_Next fuel a0 64) λ y1 =>
  bindP (ref04_Least fuel a1) λ y2 =>
  bindP (made_Dice_Next fuel y1.2 40) λ y3 =>
  letP (IntKind.i64.wrap (y2+y3.1)) λ x1 =>
  letP ([2,1,0,3,4,5]) λ d1 =>
  loopP (λ k1 (s1:(Int×Int×made_Dice×Thresholds_)) =>
  iteP (decide (s1.2.1<6)) (
  joinP (λ (s2:Int) =>
  bindP (idx d1 s1.2.1) λ x2 =>
  bindP (chk (Nat.beq d1.length 6)) λ _ =>
  bindP (ref10_Has fuel (IntKind.u16.wrap s1.2.2.2.Mask) x2) λ y4 =>
  iteP y4 (
  bindP (idx d1 s1.2.1) λ x3 =>
  bindP (chk (Nat.beq d1.length 6)) λ _ =>
  bindP (ref04_Raw fuel s2) λ y5 =>
  bindP (idx s1.2.2.2.Raw x3) λ x4 =>
  bindP (chk (Nat.beq s1.2.2.2.Raw.length 6)) λ _ =>
  letP ({ s1.2.2.2 with Raw:=upd s1.2.2.2.Raw x3 y5 }) λ d2 =>
  bindP (made_Dice_Next fuel s1.2.2.1 36) λ y6 =>
  letP (IntKind.i64.wrap (s2+y6.1)) λ x5 =>
  letP (IntKind.i64.wrap (s1.2.1+1)) λ x6 =>
  k1 (x5,x6,y6.2,d2)) (
  letP (IntKind.i64.wrap (s1.2.1+1)) λ x7 =>
  k1 (s2,x7,s1.2.2.1,s1.2.2.2))) λ j1 =>
  iteP (s1.2.1==3) (
  letP (IntKind.i64.wrap (s1.1+1)) λ x8 =>
  j1 (x8)) (
  j1 (s1.1))) (
  some (s1.2.2.2,s1.2.2.1))) fuel (x1,0,y3.2,(⟨(IntKind.u8.wrap y1.1),(List.replicate 6 0)⟩:Thresholds_))
def made_Dice_Sensor (fuel:Nat) (a0:made_Dice) (a1:Int):Option (Sensor_×made_Dice) :=
  bindP (made_Dice_Next fuel a0 4) λ y1 =>
  bindP (made_Dice_Byte fuel y1.2) λ y2 =>
  bindP (made_Dice_Next fuel y2.2 16) λ y3 =>
  bindP (made_Dice_Text fuel y3.2 ([67,80,85,32,84,101,109,112,46,48,49,57]) (IntKind.i64.wrap (1+y3.1))) λ y4 =>
  bindP (made_Dice_Entity fuel y4.2) λ y5 =>
  bindP (made_Dice_Bool fuel y5.2 4) λ y6 =>
  bindP (made_Dice_Bool fuel y6.2 3) λ y7 =>
  iteP y7.1 (
  bindP (made_Dice_Next fuel y7.2 32768) λ y8 =>
  bindP (made_Dice_Next fuel y8.2 4) λ y9 =>
  bindP (made_Dice_Next fuel y9.2 4) λ y10 =>
  bindP (made_Dice_Next fuel y10.2 300) λ y11 =>
  some ((⟨a1,(IntKind.u8.wrap (IntKind.i64.wrap (1+y1.1))),y2.1,y4.1,y5.1,true,Conversion_.z,Thresholds_.z,0,0,(IntKind.u16.wrap y8.1),(bAndNot .u16 (IntKind.u16.wrap y8.1) (IntKind.u16.wrap y9.1)),(bAndNot .u16 (IntKind.u16.wrap y8.1) (IntKind.u16.wrap (IntKind.i64.wrap (y10.1*y11.1)))),y6.1,1⟩:Sensor_),y11.2)) (
  bindP (made_Dice_Next fuel y7.2 3) λ y12 =>
  bindP (made_Dice_Conversion fuel y12.2) λ y13 =>
  bindP (made_Dice_thresholds fuel y13.2 y13.1.Signed) λ y14 =>
  bindP (made_Dice_Next fuel y14.2 5) λ y15 =>
  bindP (made_Dice_Next fuel y15.2 5) λ y16 =>
  bindP (made_Dice_Bool fuel y16.2 12) λ y17 =>
  joinP (λ (s1:(made_Dice×Sensor_)) =>
  letP (IntKind.u16.wrap s1.2.Limits.Mask) λ x1 =>
  letP ({ s1.2 with Assert:=x1 }) λ d1 =>
  letP ({ d1 with Deassert:=x1 }) λ d2 =>
  bindP (made_Dice_Bool fuel s1.1 3) λ y18 =>
  iteP y18.1 (
  bindP (made_Dice_Next fuel y18.2 64) λ y19 =>
  letP ({ d2 with Assert:=(bAndNot .u16 x1 (IntKind.u16.wrap y19.1)) }) λ d3 =>
  bindP (made_Dice_Next fuel y19.2 64) λ y20 =>
  letP ({ d3 with Deassert:=(bAndNot .u16 x1 (IntKind.u16.wrap y20.1)) }) λ d4 =>
  some (d4,y20.2)) (
  some (d2,y18.2))) λ j1 =>
  iteP y17.1 (
  bindP (made_Dice_Byte fuel y17.2) λ y21 =>
  j1 (y21.2,(⟨a1,(IntKind.u8.wrap (IntKind.i64.wrap (1+y1.1))),y2.1,y4.1,y5.1,false,y13.1,y14.1,(IntKind.u8.wrap y15.1),y21.1,0,0,0,y6.1,(IntKind.i64.wrap (1+(IntKind.i64.wrap (2*y12.1))))⟩:Sensor_))) (
  j1 (y17.2,(⟨a1,(IntKind.u8.wrap (IntKind.i64.wrap (1+y1.1))),y2.1,y4.1,y5.1,false,y13.1,y14.1,(IntKind.u8.wrap y15.1),(IntKind.u8.wrap y16.1),0,0,0,y6.1,(IntKind.i64.wrap (1+(IntKind.i64.wrap (2*y12.1))))⟩:Sensor_))))
def made_Dice_Sensors (fuel:Nat) (a0:made_Dice) (a1:Int):Option ((List Sensor_)×made_Dice) :=
  bindP (made_Dice_Next fuel a0 20) λ y1 =>
  bindP (made_Dice_Next fuel y1.2 (IntKind.i64.wrap (a1+1))) λ y2 =>
  loopP (λ k1 (s1:(Int×Int×made_Dice×(List Sensor_))) =>
  iteP (decide (s1.2.1>0)) (
  bindP (made_Dice_Sensor fuel s1.2.2.1 (IntKind.u8.wrap s1.1)) λ y3 =>
  bindP (app 136 s1.2.2.2 ([y3.1])) λ x1 =>
  bindP (made_Dice_Next fuel y3.2 5) λ y4 =>
  letP (IntKind.i64.wrap (s1.1+(IntKind.i64.wrap (1+y4.1)))) λ x2 =>
  letP (IntKind.i64.wrap (s1.2.1-1)) λ x3 =>
  k1 (x2,x3,y4.2,x1)) (
  some (s1.2.2.2,s1.2.2.1))) fuel (y1.1,y2.1,y2.2,[])
def top_watched (fuel:Nat) (a0:made_Dice) (a1:Int):Option ((List Sensor_)×made_Dice) :=
  bindP (made_Dice_Sensors fuel a0 a1) λ y1 =>
  loopP (λ k1 (s1:(Int×(List Sensor_))) =>
  iteP (decide (s1.1<(s1.2.length:Int))) (
  bindP (idx s1.2 s1.1) λ x1 =>
  bindP (idx s1.2 s1.1) λ x2 =>
  joinP (λ (s2:Int) =>
  bindP (idx s1.2 s1.1) λ x3 =>
  letP (upd s1.2 s1.1 ({ x3 with Assert:=s2 })) λ d1 =>
  bindP (idx d1 s1.1) λ x4 =>
  letP (upd d1 s1.1 ({ x4 with Deassert:=s2 })) λ d2 =>
  bindP (idx d2 s1.1) λ x5 =>
  letP (upd d2 s1.1 ({ x5 with Samples:=1 })) λ d3 =>
  letP (IntKind.i64.wrap (s1.1+1)) λ x6 =>
  k1 (x6,d3)) λ j1 =>
  iteP (!x2.Discrete) (
  bindP (idx s1.2 s1.1) λ x7 =>
  letP (IntKind.u16.wrap x7.Limits.Mask) λ x8 =>
  j1 (x8)) (
  j1 (x1.States))) (
  some (s1.2,y1.2))) fuel (0,y1.1)
def ref15_Parent (fuel:Nat) (a0:List Association_) (a1:Entity_):Option (Entity_×Bool) :=
  loopP (λ k1 (s1:Int) =>
  iteP (decide (s1<(a0.length:Int))) (
  bindP (idx a0 s1) λ x1 =>
  iteP (Entity_.eqb x1.Contained a1) (
  bindP (idx a0 s1) λ x2 =>
  some (x2.Container,true)) (
  letP (IntKind.i64.wrap (s1+1)) λ x3 =>
  k1 (x3))) (
  some (Entity_.z,false))) fuel (0)
def ref15_Check (fuel:Nat) (a0:List Association_):Option (Int) :=
  iteP (decide ((a0.length:Int)>32)) (
  some 3) (
  loopP (λ k1 (s1:Int) =>
  iteP (decide (s1<(a0.length:Int))) (
  loopP (λ k2 (s2:Int) =>
  iteP (decide (s2<s1)) (
  bindP (idx a0 s2) λ x1 =>
  bindP (idx a0 s1) λ x2 =>
  iteP (Entity_.eqb x1.Contained x2.Contained) (
  some 7) (
  letP (IntKind.i64.wrap (s2+1)) λ x3 =>
  k2 (x3))) (
  letP (IntKind.i64.wrap (s1+1)) λ x4 =>
  k1 (x4))) fuel (0)) (
  loopP (λ k3 (s3:Int) =>
  iteP (decide (s3<(a0.length:Int))) (
  bindP (idx a0 s3) λ x5 =>
  loopP (λ k4 (s4:(Int×Entity_)) =>
  iteP (decide (s4.1<(a0.length:Int))) (
  bindP (ref15_Parent fuel a0 s4.2) λ y1 =>
  iteP (!y1.2) (
  letP (IntKind.i64.wrap (s3+1)) λ x6 =>
  k3 (x6)) (
  bindP (idx a0 s3) λ x7 =>
  iteP (Entity_.eqb y1.1 x7.Contained) (
  some 14) (
  letP (IntKind.i64.wrap (s4.1+1)) λ x8 =>
  k4 (x8,y1.1)))) (
  letP (IntKind.i64.wrap (s3+1)) λ x9 =>
  k3 (x9))) fuel (0,x5.Contained)) (
  some 0)) fuel (0))) fuel (0))
def made_Dice_Associations (fuel:Nat) (a0:made_Dice) (a1:Int):Option ((List Association_)×made_Dice) :=
  bindP (made_Dice_Next fuel a0 (IntKind.i64.wrap (a1+1))) λ y1 =>
  loopP (λ k1 (s1:((List Association_)×Int×made_Dice)) =>
  iteP (decide (s1.2.1>0)) (
  bindP (app 4 ([]) s1.1) λ x1 =>
  bindP (made_Dice_Entity fuel s1.2.2) λ y2 =>
  bindP (made_Dice_Entity fuel y2.2) λ y3 =>
  bindP (app 4 x1 ([(⟨y2.1,y3.1⟩:Association_)])) λ x2 =>
  bindP (ref15_Check fuel x2) λ y4 =>
  iteP (y4==0) (
  letP (IntKind.i64.wrap (s1.2.1-1)) λ x3 =>
  k1 (x2,x3,y3.2)) (
  letP (IntKind.i64.wrap (s1.2.1-1)) λ x4 =>
  k1 (s1.1,x4,y3.2))) (
  some (s1.1,s1.2.2))) fuel ([],y1.1,y1.2)
def made_Dice_near (fuel:Nat) (a0:made_Dice) (a1:Sensor_):Option (Int×made_Dice) :=
  bindP (made_Dice_Bool fuel a0 3) λ y1 =>
  iteP y1.1 (
  bindP (made_Dice_Byte fuel y1.2) λ y2 =>
  some (y2.1,y2.2)) (
  bindP (made_Dice_Next fuel y1.2 6) λ y3 =>
  bindP (idx a1.Limits.Raw y3.1) λ x1 =>
  bindP (chk (Nat.beq a1.Limits.Raw.length 6)) λ _ =>
  bindP (made_Dice_Next fuel y3.2 9) λ y4 =>
  letP (IntKind.u8.wrap (Int.tmod (IntKind.i64.wrap ((IntKind.i64.wrap ((IntKind.i64.wrap x1)+y4.1))+252)) 256)) λ x2 =>
  some (x2,y4.2))
def made_Dice_Samples (fuel:Nat) (a0:made_Dice) (a1:List Sensor_):Option ((List Sample_)×made_Dice) :=
  loopP (λ k1 (s1:(Int×made_Dice×(List Sample_))) =>
  iteP (decide (s1.1<(a1.length:Int))) (
  bindP (idx a1 s1.1) λ x1 =>
  bindP (made_Dice_Bool fuel s1.2.1 8) λ y1 =>
  iteP y1.1 (
  letP (IntKind.i64.wrap (s1.1+1)) λ x2 =>
  k1 (x2,y1.2,s1.2.2)) (
  bindP (made_Dice_Bool fuel y1.2 6) λ y2 =>
  joinP (λ (s2:Bool) =>
  joinP (λ (s3:(made_Dice×Sample_)) =>
  joinP (λ (s4:Bool) =>
  joinP (λ (s5:(made_Dice×Sample_)) =>
  bindP (made_Dice_Bool fuel s5.1 150) λ y3 =>
  joinP (λ (s6:(made_Dice×Sample_)) =>
  bindP (app 6 s1.2.2 ([s6.2])) λ x3 =>
  letP (IntKind.i64.wrap (s1.1+1)) λ x4 =>
  k1 (x4,s6.1,x3)) λ j5 =>
  iteP y3.1 (
  bindP (made_Dice_Byte fuel y3.2) λ y4 =>
  letP ({ s5.2 with Raw:=y4.1 }) λ d1 =>
  bindP (made_Dice_Next fuel y4.2 65536) λ y5 =>
  letP ({ d1 with States:=(IntKind.u16.wrap y5.1) }) λ d2 =>
  bindP (made_Dice_Byte fuel y5.2) λ y6 =>
  letP ({ d2 with Number:=y6.1 }) λ d3 =>
  j5 (y6.2,d3)) (
  j5 (y3.2,s5.2))) λ j4 =>
  iteP s4 (
  bindP (made_Dice_near fuel s3.1 x1) λ y7 =>
  letP ({ s3.2 with Raw:=y7.1 }) λ d4 =>
  j4 (y7.2,d4)) (
  j4 (s3.1,s3.2))) λ j3 =>
  iteP s3.2.OK (
  j3 (!x1.Discrete)) (
  j3 (false))) λ j2 =>
  iteP s2 (
  bindP (made_Dice_Next fuel y2.2 32768) λ y8 =>
  j2 (y8.2,(⟨x1.Number,!y2.1,0,(bAnd .u16 (IntKind.u16.wrap y8.1) x1.States)⟩:Sample_))) (
  j2 (y2.2,(⟨x1.Number,!y2.1,0,0⟩:Sample_)))) λ j1 =>
  iteP (!y2.1) (
  j1 (x1.Discrete)) (
  j1 (false)))) (
  some (s1.2.2,s1.2.1))) fuel (0,a0,[])
def slices_Index_uint8_uint8 (fuel:Nat) (a0:List Int) (a1:Int):Option (Int) :=
  loopP (λ k1 (s1:Int) =>
  iteP (decide (s1<(a0.length:Int))) (
  bindP (idx a0 s1) λ x1 =>
  iteP (a1==x1) (
  some s1) (
  k1 ((IntKind.i64.wrap (s1+1))))) (
  some (-1))) fuel (0)
def event_Index (fuel:Nat) (a0:Event_):Option (Int×Bool×Bool) :=
  letP (a0.Type_==1) λ x1 =>
  iteP x1 (
  bindP (idx a0.Data 0) λ x2 =>
  bindP (chk (Nat.beq a0.Data.length 3)) λ _ =>
  bindP (slices_Index_uint8_uint8 fuel ([0,2,4,7,9,11]) (IntKind.u8.wrap (x2-80))) λ y1 =>
  iteP (decide (y1≥0)) (
  some (y1,true,true)) (
  some (0,false,false))) (
  joinP (λ (s1:Bool) =>
  iteP s1 (
  bindP (idx a0.Data 0) λ x3 =>
  bindP (chk (Nat.beq a0.Data.length 3)) λ _ =>
  some ((IntKind.i64.wrap x3),false,true)) (
  some (0,false,false))) λ j1 =>
  iteP (a0.Type_==111) (
  bindP (idx a0.Data 0) λ x4 =>
  bindP (chk (Nat.beq a0.Data.length 3)) λ _ =>
  letP (decide (x4≤14)) λ x5 =>
  j1 (x5)) (
  j1 (false)))
def monitor_bits (fuel:Nat) (a0:Sensor_):Option (Int) :=
  letP (bOr .u16 a0.States (IntKind.u16.wrap a0.Limits.Mask)) λ x1 =>
  some x1
def monitor_Recover_1_2 (fuel:Nat) (a0:Sensor_) (a1:Event_):Option (Bool) :=
  letP (a0.Number==a1.Sensor) λ x1 =>
  some x1
def slices_IndexFunc_api_Sensor_api_Sensor_monitor_Recover_1 (fuel:Nat) (a0:List Sensor_) (a1_0:Event_):Option (Int) :=
  loopP (λ k1 (s1:Int) =>
  iteP (decide (s1<(a0.length:Int))) (
  bindP (idx a0 s1) λ x1 =>
  bindP (monitor_Recover_1_2 fuel x1 a1_0) λ y1 =>
  iteP y1 (
  some s1) (
  k1 ((IntKind.i64.wrap (s1+1))))) (
  some (-1))) fuel (0)
def monitor_Recover (fuel:Nat) (a0:List Sensor_) (a1:List Event_):Option ((List Int)×Int) :=
  bindP (monitor_check fuel a0) λ y1 =>
  iteP (y1 != 0) (
  some ([],y1)) (
  bindP (mk 2 0 (a0.length:Int)) λ x1 =>
  loopP (λ k1 (s1:(Int×(List Int))) =>
  iteP (decide (s1.1<(a1.length:Int))) (
  bindP (idx a1 s1.1) λ x2 =>
  bindP (event_Index fuel x2) λ y2 =>
  bindP (slices_IndexFunc_api_Sensor_api_Sensor_monitor_Recover_1 fuel a0 x2) λ y3 =>
  joinP (λ (s2:Bool) =>
  iteP s2 (
  k1 ((IntKind.i64.wrap (s1.1+1)),s1.2)) (
  bindP (idx s1.2 y3) λ x3 =>
  bindP (chk (decide (0≤y2.1))) λ _ =>
  letP (upd s1.2 y3 (bOr .u16 x3 (bShl .u16 1 y2.1))) λ d1 =>
  iteP x2.Deassert (
  bindP (idx d1 y3) λ x4 =>
  bindP (chk (decide (0≤y2.1))) λ _ =>
  letP (upd d1 y3 (bAndNot .u16 x4 (bShl .u16 1 y2.1))) λ d2 =>
  k1 ((IntKind.i64.wrap (s1.1+1)),d2)) (
  k1 ((IntKind.i64.wrap (s1.1+1)),d1)))) λ j1 =>
  letP (!y2.2.2) λ x5 =>
  iteP x5 (
  j1 (true)) (
  letP (decide (y3<0)) λ x6 =>
  iteP x6 (
  j1 (true)) (
  bindP (idx a0 y3) λ x7 =>
  letP (x7.Type_ != x2.SensorType) λ x8 =>
  iteP x8 (
  j1 (true)) (
  letP (x7.Discrete==y2.2.1) λ x9 =>
  iteP x9 (
  j1 (true)) (
  bindP (monitor_bits fuel x7) λ y4 =>
  bindP (chk (decide (0≤y2.1))) λ _ =>
  j1 ((bAnd .u16 (bShr .u16 y4 y2.1) 1)==0)))))) (
  some (s1.2,0))) fuel (0,x1))
def monitor_Monitor_Reading (fuel:Nat) (a0:monitor_Monitor) (a1:Int):Option (Int×Bool) :=
  bindP (monitor_Monitor_find fuel a0 a1) λ y1 =>
  joinP (λ (s1:Bool) =>
  iteP s1 (
  some (0,false)) (
  bindP (idx a0.sensors y1) λ x1 =>
  bindP (idx a0.filters y1) λ x2 =>
  bindP (sampling_Reading fuel x1 x2) λ y2 =>
  some (y2.1,y2.2))) λ j1 =>
  iteP (decide (y1<0)) (
  j1 (true)) (
  bindP (idx a0.sensors y1) λ x3 =>
  j1 (x3.Discrete))
def threshold_Severity (fuel:Nat) (a0:Int):Option (Int) :=
  loopP (λ k1 (s1:Int) =>
  iteP (decide (s1>0)) (
  bindP (chk (decide (0≤(IntKind.i64.wrap (s1-1))))) λ _ =>
  bindP (chk (decide (0≤(IntKind.i64.wrap (s1+2))))) λ _ =>
  iteP ((bAnd .u8 (bOr .u8 (bShr .u8 a0 (IntKind.i64.wrap (s1-1))) (bShr .u8 a0 (IntKind.i64.wrap (s1+2)))) 1)==1) (
  some s1) (
  letP (IntKind.i64.wrap (s1-1)) λ x1 =>
  k1 (x1))) (
  some 0)) fuel (3)
def entity_Health_1 (fuel:Nat) (a0:Condition_):Option (Bool) :=
  iteP (decide (a0.Severity<0)) (
  some true) (
  letP (decide (a0.Severity>3)) λ x1 =>
  some x1)
def cmp_isNaN_uint8 (fuel:Nat) (a0:Int):Option (Bool) :=
  letP (a0 != a0) λ x1 =>
  some x1
def cmp_Compare_uint8 (fuel:Nat) (a0:Int) (a1:Int):Option (Int) :=
  bindP (cmp_isNaN_uint8 fuel a0) λ y1 =>
  bindP (cmp_isNaN_uint8 fuel a1) λ y2 =>
  iteP y1 (
  iteP y2 (
  some 0) (
  some (-1))) (
  iteP y2 (
  some 1) (
  iteP (decide (a0<a1)) (
  some (-1)) (
  iteP (decide (a0>a1)) (
  some 1) (
  some 0))))
def cmp_Or_int (fuel:Nat) (a0:List Int):Option (Int) :=
  loopP (λ k1 (s1:Int) =>
  iteP (decide (s1<(a0.length:Int))) (
  bindP (idx a0 s1) λ x1 =>
  iteP (x1 != 0) (
  some x1) (
  k1 ((IntKind.i64.wrap (s1+1))))) (
  some 0)) fuel (0)
def entity_within_1 (fuel:Nat) (a0:Entity_) (a1:Entity_):Option (Int) :=
  bindP (cmp_Compare_uint8 fuel a0.ID a1.ID) λ y1 =>
  bindP (cmp_Compare_uint8 fuel a0.Instance a1.Instance) λ y2 =>
  bindP (cmp_Or_int fuel ([y1,y2])) λ y3 =>
  some y3
def slices_insertionSortCmpFunc_api_Entity_entity_within_1 (fuel:Nat) (a0:List Entity_) (a1:Int) (a2:Int):Option ((List Entity_)) :=
  letP (IntKind.i64.wrap (a1+1)) λ x1 =>
  loopP (λ k1 (s1:(Int×(List Entity_))) =>
  iteP (decide (s1.1<a2)) (
  loopP (λ k2 (s2:(Int×(List Entity_))) =>
  joinP (λ (s3:Bool) =>
  iteP s3 (
  bindP (idx s2.2 (IntKind.i64.wrap (s2.1-1))) λ x2 =>
  bindP (idx s2.2 s2.1) λ x3 =>
  letP (upd s2.2 s2.1 x2) λ d1 =>
  bindP (idx d1 (IntKind.i64.wrap (s2.1-1))) λ x4 =>
  letP (upd d1 (IntKind.i64.wrap (s2.1-1)) x3) λ d2 =>
  letP (IntKind.i64.wrap (s2.1-1)) λ x5 =>
  k2 (x5,d2)) (
  letP (IntKind.i64.wrap (s1.1+1)) λ x6 =>
  k1 (x6,s2.2))) λ j1 =>
  letP (decide (s2.1>a1)) λ x7 =>
  iteP x7 (
  bindP (idx s2.2 s2.1) λ x8 =>
  bindP (idx s2.2 (IntKind.i64.wrap (s2.1-1))) λ x9 =>
  bindP (entity_within_1 fuel x8 x9) λ y1 =>
  j1 (decide (y1<0))) (
  j1 (false))) fuel (s1.1,s1.2)) (
  some s1.2)) fuel (x1,a0)
def slices_pdqsortCmpFunc_api_Entity_entity_within_1 (fuel:Nat) (a0:List Entity_) (a1:Int) (a2:Int) (a3:Int):Option ((List Entity_)) :=
  loopP (λ k1 (s1:Unit) =>
  letP (IntKind.i64.wrap (a2-a1)) λ x1 =>
  iteP (decide (x1≤12)) (
  bindP (slices_insertionSortCmpFunc_api_Entity_entity_within_1 fuel a0 a1 a2) λ y1 =>
  some y1) (
  iteP (a3==0) (
  none) (
  iteP (!true) (
  none) (
  none)))) fuel ()
def slices_SortFunc_api_Entity_api_Entity_entity_within_1 (fuel:Nat) (a0:List Entity_):Option ((List Entity_)) :=
  bindP (bits_Len fuel (IntKind.u64.wrap (a0.length:Int))) λ y1 =>
  bindP (slices_pdqsortCmpFunc_api_Entity_entity_within_1 fuel a0 0 (a0.length:Int) y1) λ y2 =>
  some y2
def entity_within (fuel:Nat) (a0:List Association_) (a1:Entity_):Option ((List Entity_)) :=
  loopP (λ k1 (s1:(Int×(List Entity_))) =>
  iteP (decide (s1.1<(a0.length:Int))) (
  bindP (idx a0 s1.1) λ x1 =>
  bindP (entity_around fuel a0 x1.Contained) λ y1 =>
  bindP (slices_Contains_api_Entity_api_Entity fuel y1 a1) λ y2 =>
  iteP y2 (
  bindP (app 2 s1.2 ([x1.Contained])) λ x2 =>
  k1 ((IntKind.i64.wrap (s1.1+1)),x2)) (
  k1 ((IntKind.i64.wrap (s1.1+1)),s1.2))) (
  bindP (slices_SortFunc_api_Entity_api_Entity_entity_within_1 fuel s1.2) λ y3 =>
  some y3)) fuel (0,[a1])
def slices_IndexFunc_api_Condition_api_Condition_entity_Health_1 (fuel:Nat) (a0:List Condition_):Option (Int) :=
  loopP (λ k1 (s1:Int) =>
  iteP (decide (s1<(a0.length:Int))) (
  bindP (idx a0 s1) λ x1 =>
  bindP (entity_Health_1 fuel x1) λ y1 =>
  iteP y1 (
  some s1) (
  k1 ((IntKind.i64.wrap (s1+1))))) (
  some (-1))) fuel (0)
def slices_ContainsFunc_api_Condition_api_Condition_entity_Health_1 (fuel:Nat) (a0:List Condition_):Option (Bool) :=
  bindP (slices_IndexFunc_api_Condition_api_Condition_entity_Health_1 fuel a0) λ y1 =>
  letP (decide (y1≥0)) λ x1 =>
  some x1
def entity_Health (fuel:Nat) (a0:List Association_) (a1:List Entity_) (a2:List Condition_) (a3:Entity_):Option (Int×Int) :=
  bindP (entity_Check fuel a0) λ y1 =>
  iteP (y1 != 0) (
  some (0,y1)) (
  bindP (slices_ContainsFunc_api_Condition_api_Condition_entity_Health_1 fuel a2) λ y2 =>
  iteP y2 (
  some (0,2)) (
  bindP (entity_within fuel a0 a3) λ y3 =>
  loopP (λ k1 (s1:(Int×Int)) =>
  iteP (decide (s1.2<(a2.length:Int))) (
  bindP (idx a2 s1.2) λ x1 =>
  bindP (slices_Contains_api_Entity_api_Entity fuel y3 x1.Entity) λ y4 =>
  joinP (λ (s2:Bool) =>
  iteP s2 (
  k1 ((max s1.1 x1.Severity),(IntKind.i64.wrap (s1.2+1)))) (
  k1 (s1.1,(IntKind.i64.wrap (s1.2+1))))) λ j1 =>
  iteP y4 (
  bindP (entity_present fuel a0 a1 x1.Entity) λ y5 =>
  j1 (y5)) (
  j1 (false))) (
  some (s1.1,0))) fuel (0,0)))
def monitor_Monitor_Health (fuel:Nat) (a0:monitor_Monitor) (a1:List Entity_) (a2:Entity_):Option (Int×Int) :=
  loopP (λ k1 (s1:(Int×(List Condition_))) =>
  iteP (decide (s1.1<(a0.sensors.length:Int))) (
  bindP (idx a0.sensors s1.1) λ x1 =>
  bindP (monitor_Monitor_Reading fuel a0 x1.Number) λ y1 =>
  iteP y1.2 (
  bindP (idx a0.states s1.1) λ x2 =>
  bindP (threshold_Severity fuel (IntKind.u8.wrap x2)) λ y2 =>
  bindP (app 16 s1.2 ([(⟨x1.Entity,y2⟩:Condition_)])) λ x3 =>
  k1 ((IntKind.i64.wrap (s1.1+1)),x3)) (
  k1 ((IntKind.i64.wrap (s1.1+1)),s1.2))) (
  bindP (entity_Health fuel a0.l a1 s1.2 a2) λ y3 =>
  some (y3.1,y3.2))) fuel (0,[])
def top_TopHealthy (fuel:Nat) (a0:List Int) (a1:List (List Int)) (a2:Entity_):Option (Bool) :=
  bindP (top_first fuel) λ y1 =>
  iteP (!y1) (
  some false) (
  bindP (made_Light fuel a0) λ y2 =>
  joinP (λ (s1:Bool) =>
  iteP s1 (
  some true) (
  bindP (made_Roll fuel a0) λ y3 =>
  bindP (top_watched fuel y3 6) λ y4 =>
  bindP (made_Dice_Associations fuel y4.2 5) λ y5 =>
  bindP (monitor_New fuel y4.1 y5.1) λ y6 =>
  joinP (λ (s2:Bool) =>
  iteP s2 (
  some false) (
  loopP (λ k1 (s3:(Int×(List Event_)×(Option monitor_Monitor))) =>
  iteP (decide (s3.1<(a1.length:Int))) (
  bindP (idx a1 s3.1) λ x1 =>
  iteP (decide ((x1.length:Int)>100)) (
  some true) (
  bindP (idx a1 s3.1) λ x2 =>
  bindP (made_Roll fuel x2) λ y7 =>
  bindP (made_Dice_Samples fuel y7 y4.1) λ y8 =>
  bindP s3.2.2 λ x3 =>
  bindP (monitor_Monitor_Scan fuel x3 y8.1 ([]) true) λ y9 =>
  iteP (y9.2.1==0) (
  bindP (app 20 s3.2.1 y9.1) λ x4 =>
  letP (IntKind.i64.wrap (s3.1+1)) λ x5 =>
  k1 (x5,x4,(some y9.2.2))) (
  letP (IntKind.i64.wrap (s3.1+1)) λ x6 =>
  k1 (x6,s3.2.1,(some y9.2.2))))) (
  bindP (monitor_Recover fuel y4.1 s3.2.1) λ y10 =>
  joinP (λ (s4:Bool) =>
  iteP s4 (
  some false) (
  bindP (made_Dice_Bool fuel y5.2 3) λ y11 =>
  joinP (λ (s5:Entity_) =>
  loopP (λ k2 (s6:(Int×Int×(Option monitor_Monitor))) =>
  iteP (decide (s6.2.1<(y4.1.length:Int))) (
  bindP (idx y4.1 s6.2.1) λ x7 =>
  letP (Entity_.eqb x7.Entity s5) λ x8 =>
  loopP (λ k3 (s7:(Bool×Int×Entity_)) =>
  joinP (λ (s8:Bool) =>
  iteP s8 (
  joinP (λ (s9:Entity_) =>
  letP (Entity_.eqb s9 s5) λ x9 =>
  letP (IntKind.i64.wrap (s7.2.1+1)) λ x10 =>
  k3 (x9,x10,s9)) λ j6 =>
  loopP (λ k4 (s10:Int) =>
  iteP (decide (s10<(y5.1.length:Int))) (
  bindP (idx y5.1 s10) λ x11 =>
  iteP (Entity_.eqb x11.Contained s7.2.2) (
  bindP (idx y5.1 s10) λ x12 =>
  j6 (x12.Container)) (
  letP (IntKind.i64.wrap (s10+1)) λ x13 =>
  k4 (x13))) (
  j6 (s7.2.2))) fuel (0)) (
  bindP (idx y4.1 s6.2.1) λ x14 =>
  bindP s6.2.2 λ x15 =>
  bindP (monitor_Monitor_Reading fuel x15 x14.Number) λ y12 =>
  joinP (λ (s11:Bool) =>
  iteP s11 (
  bindP (idx y10.1 s6.2.1) λ x16 =>
  bindP (threshold_Severity fuel (IntKind.u8.wrap x16)) λ y13 =>
  letP (IntKind.i64.wrap (s6.2.1+1)) λ x17 =>
  k2 ((max s6.1 y13),x17,(some x15))) (
  letP (IntKind.i64.wrap (s6.2.1+1)) λ x18 =>
  k2 (s6.1,x18,(some x15)))) λ j7 =>
  iteP y12.2 (
  j7 (s7.1)) (
  j7 (false)))) λ j5 =>
  iteP (decide (s7.2.1<(y5.1.length:Int))) (
  j5 (!s7.1)) (
  j5 (false))) fuel (x8,0,x7.Entity)) (
  bindP s6.2.2 λ x19 =>
  bindP (monitor_Monitor_Health fuel x19 ([]) s5) λ y14 =>
  iteP (y14.2==0) (
  letP (y14.1==s6.1) λ x20 =>
  some x20) (
  some false))) fuel (0,0,s3.2.2)) λ j4 =>
  iteP y11.1 (
  bindP (made_Dice_Entity fuel y11.2) λ y15 =>
  j4 (y15.1)) (
  j4 (a2)))) λ j3 =>
  iteP (y10.2 != 0) (
  j3 (true)) (
  j3 ((y10.1.length:Int) != (y4.1.length:Int))))) fuel (0,[],y6.1))) λ j2 =>
  iteP y6.1.isNone (
  j2 (true)) (
  j2 (y6.2 != 0)))) λ j1 =>
  iteP (!y2) (
  j1 (true)) (
  j1 (decide ((a1.length:Int)>15))))
end Lift
