import Derived.Test.YtahlmfpllhmjoaaGreatDoorLiftR
import Derived.Test.YtahlmfpllhmjoaaGreatDoorLiftZ
import Derived.Test.YtahlmfpllhmjoaaGreatDoorLiftN
set_option linter.unusedVariables false
set_option linter.unusedSimpArgs false
namespace Lift
open Go
structure Entity_ where
  ID:Int
  Instance:Int
def Entity_.rep:Rep Entity_:=Rep.iso (λ s=>(s.ID,s.Instance,())) (Rep.prod (Rep.int .u8) (Rep.prod (Rep.int .u8) Rep.unit))
def Entity_.z:Entity_:=⟨0,0⟩
theorem Entity_.zr:Zr Entity_.rep [.int .u8 0,.int .u8 0] Entity_.z:=Zr.iso (r:=(Rep.prod (Rep.int .u8) (Rep.prod (Rep.int .u8) Rep.unit))) _ (Zr.of (Zr.prod (Zr.int .u8 0) (Zr.prod (Zr.int .u8 0) Zr.unit)) rfl)
theorem Entity_.pure:Pure Entity_.rep:=Pure.iso (Pure.prod Pure.int (Pure.prod Pure.int Pure.unit))
def Entity_.eqb (a b:Entity_):Bool:=(eqI a.ID b.ID&&(eqI a.Instance b.Instance&&true))
theorem Entity_.f0:Fld Entity_.rep 0 (Rep.int .u8) Entity_.ID (λ s y=>{ s with ID:=y }):=Fld.iso (λ s:Entity_=>(s.ID,s.Instance,())) Fld.here (λ _=>rfl) (λ _ _=>rfl)
theorem Entity_.f1:Fld Entity_.rep 1 (Rep.int .u8) Entity_.Instance (λ s y=>{ s with Instance:=y }):=Fld.iso (λ s:Entity_=>(s.ID,s.Instance,())) (Fld.there Fld.here) (λ _=>rfl) (λ _ _=>rfl)
structure Point_ where
  Raw:Int
  Value:Int
def Point_.rep:Rep Point_:=Rep.iso (λ s=>(s.Raw,s.Value,())) (Rep.prod (Rep.int .u8) (Rep.prod (Rep.int .i64) Rep.unit))
def Point_.z:Point_:=⟨0,0⟩
theorem Point_.zr:Zr Point_.rep [.int .u8 0,.int .i64 0] Point_.z:=Zr.iso (r:=(Rep.prod (Rep.int .u8) (Rep.prod (Rep.int .i64) Rep.unit))) _ (Zr.of (Zr.prod (Zr.int .u8 0) (Zr.prod (Zr.int .i64 0) Zr.unit)) rfl)
theorem Point_.pure:Pure Point_.rep:=Pure.iso (Pure.prod Pure.int (Pure.prod Pure.int Pure.unit))
theorem Point_.f0:Fld Point_.rep 0 (Rep.int .u8) Point_.Raw (λ s y=>{ s with Raw:=y }):=Fld.iso (λ s:Point_=>(s.Raw,s.Value,())) Fld.here (λ _=>rfl) (λ _ _=>rfl)
theorem Point_.f1:Fld Point_.rep 1 (Rep.int .i64) Point_.Value (λ s y=>{ s with Value:=y }):=Fld.iso (λ s:Point_=>(s.Raw,s.Value,())) (Fld.there Fld.here) (λ _=>rfl) (λ _ _=>rfl)
structure Conversion_ where
  Form:Int
  Signed:Bool
  M:Int
  B:Int
  K1:Int
  K2:Int
  Points:List Point_
def Conversion_.rep:Rep Conversion_:=Rep.iso (λ s=>(s.Form,s.Signed,s.M,s.B,s.K1,s.K2,s.Points,())) (Rep.prod (Rep.int .i64) (Rep.prod Rep.bool (Rep.prod (Rep.int .i64) (Rep.prod (Rep.int .i64) (Rep.prod (Rep.int .i64) (Rep.prod (Rep.int .i64) (Rep.prod (Rep.slice Point_.rep) Rep.unit)))))))
def Conversion_.z:Conversion_:=⟨0,false,0,0,0,0,[]⟩
theorem Conversion_.zr:Zr Conversion_.rep [.int .i64 0,.bool false,.int .i64 0,.int .i64 0,.int .i64 0,.int .i64 0,.slice none 0 0] Conversion_.z:=Zr.iso (r:=(Rep.prod (Rep.int .i64) (Rep.prod Rep.bool (Rep.prod (Rep.int .i64) (Rep.prod (Rep.int .i64) (Rep.prod (Rep.int .i64) (Rep.prod (Rep.int .i64) (Rep.prod (Rep.slice Point_.rep) Rep.unit)))))))) _ (Zr.of (Zr.prod (Zr.int .i64 0) (Zr.prod (Zr.bool false) (Zr.prod (Zr.int .i64 0) (Zr.prod (Zr.int .i64 0) (Zr.prod (Zr.int .i64 0) (Zr.prod (Zr.int .i64 0) (Zr.prod (Zr.slice Point_.rep) Zr.unit))))))) rfl)
theorem Conversion_.f0:Fld Conversion_.rep 0 (Rep.int .i64) Conversion_.Form (λ s y=>{ s with Form:=y }):=Fld.iso (λ s:Conversion_=>(s.Form,s.Signed,s.M,s.B,s.K1,s.K2,s.Points,())) Fld.here (λ _=>rfl) (λ _ _=>rfl)
theorem Conversion_.f1:Fld Conversion_.rep 1 Rep.bool Conversion_.Signed (λ s y=>{ s with Signed:=y }):=Fld.iso (λ s:Conversion_=>(s.Form,s.Signed,s.M,s.B,s.K1,s.K2,s.Points,())) (Fld.there Fld.here) (λ _=>rfl) (λ _ _=>rfl)
theorem Conversion_.f2:Fld Conversion_.rep 2 (Rep.int .i64) Conversion_.M (λ s y=>{ s with M:=y }):=Fld.iso (λ s:Conversion_=>(s.Form,s.Signed,s.M,s.B,s.K1,s.K2,s.Points,())) (Fld.there (Fld.there Fld.here)) (λ _=>rfl) (λ _ _=>rfl)
theorem Conversion_.f3:Fld Conversion_.rep 3 (Rep.int .i64) Conversion_.B (λ s y=>{ s with B:=y }):=Fld.iso (λ s:Conversion_=>(s.Form,s.Signed,s.M,s.B,s.K1,s.K2,s.Points,())) (Fld.there (Fld.there (Fld.there Fld.here))) (λ _=>rfl) (λ _ _=>rfl)
theorem Conversion_.f4:Fld Conversion_.rep 4 (Rep.int .i64) Conversion_.K1 (λ s y=>{ s with K1:=y }):=Fld.iso (λ s:Conversion_=>(s.Form,s.Signed,s.M,s.B,s.K1,s.K2,s.Points,())) (Fld.there (Fld.there (Fld.there (Fld.there Fld.here)))) (λ _=>rfl) (λ _ _=>rfl)
theorem Conversion_.f5:Fld Conversion_.rep 5 (Rep.int .i64) Conversion_.K2 (λ s y=>{ s with K2:=y }):=Fld.iso (λ s:Conversion_=>(s.Form,s.Signed,s.M,s.B,s.K1,s.K2,s.Points,())) (Fld.there (Fld.there (Fld.there (Fld.there (Fld.there Fld.here))))) (λ _=>rfl) (λ _ _=>rfl)
theorem Conversion_.f6:Fld Conversion_.rep 6 (Rep.slice Point_.rep) Conversion_.Points (λ s y=>{ s with Points:=y }):=Fld.iso (λ s:Conversion_=>(s.Form,s.Signed,s.M,s.B,s.K1,s.K2,s.Points,())) (Fld.there (Fld.there (Fld.there (Fld.there (Fld.there (Fld.there Fld.here)))))) (λ _=>rfl) (λ _ _=>rfl)
structure Thresholds_ where
  Mask:Int
  Raw:List Int
def Thresholds_.rep:Rep Thresholds_:=Rep.iso (λ s=>(s.Mask,s.Raw,())) (Rep.prod (Rep.int .u8) (Rep.prod (Rep.arr 6 (Rep.int .u8)) Rep.unit))
def Thresholds_.z:Thresholds_:=⟨0,(List.replicate 6 0)⟩
theorem Thresholds_.zr:Zr Thresholds_.rep [.int .u8 0,.int .u8 0,.int .u8 0,.int .u8 0,.int .u8 0,.int .u8 0,.int .u8 0] Thresholds_.z:=Zr.iso (r:=(Rep.prod (Rep.int .u8) (Rep.prod (Rep.arr 6 (Rep.int .u8)) Rep.unit))) _ (Zr.of (Zr.prod (Zr.int .u8 0) (Zr.prod (Zr.of (Zr.arr (Zr.int .u8 0) 6) rfl) Zr.unit)) rfl)
def Thresholds_.eqb (a b:Thresholds_):Bool:=(eqI a.Mask b.Mask&&((eqL eqI) a.Raw b.Raw&&true))
theorem Thresholds_.f0:Fld Thresholds_.rep 0 (Rep.int .u8) Thresholds_.Mask (λ s y=>{ s with Mask:=y }):=Fld.iso (λ s:Thresholds_=>(s.Mask,s.Raw,())) Fld.here (λ _=>rfl) (λ _ _=>rfl)
theorem Thresholds_.f1:Fld Thresholds_.rep 1 (Rep.arr 6 (Rep.int .u8)) Thresholds_.Raw (λ s y=>{ s with Raw:=y }):=Fld.iso (λ s:Thresholds_=>(s.Mask,s.Raw,())) (Fld.there Fld.here) (λ _=>rfl) (λ _ _=>rfl)
structure Sensor_ where
  Number:Int
  Type_:Int
  Unit:Int
  Name:List Int
  Entity:Entity_
  Discrete:Bool
  Conversion:Conversion_
  Limits:Thresholds_
  HystLower:Int
  HystUpper:Int
  States:Int
  Assert:Int
  Deassert:Int
  HostOn:Bool
  Samples:Int
def Sensor_.rep:Rep Sensor_:=Rep.iso (λ s=>(s.Number,s.Type_,s.Unit,s.Name,s.Entity,s.Discrete,s.Conversion,s.Limits,s.HystLower,s.HystUpper,s.States,s.Assert,s.Deassert,s.HostOn,s.Samples,())) (Rep.prod (Rep.int .u8) (Rep.prod (Rep.int .u8) (Rep.prod (Rep.int .u8) (Rep.prod Rep.str (Rep.prod Entity_.rep (Rep.prod Rep.bool (Rep.prod Conversion_.rep (Rep.prod Thresholds_.rep (Rep.prod (Rep.int .u8) (Rep.prod (Rep.int .u8) (Rep.prod (Rep.int .u16) (Rep.prod (Rep.int .u16) (Rep.prod (Rep.int .u16) (Rep.prod Rep.bool (Rep.prod (Rep.int .i64) Rep.unit)))))))))))))))
def Sensor_.z:Sensor_:=⟨0,0,0,[],Entity_.z,false,Conversion_.z,Thresholds_.z,0,0,0,0,0,false,0⟩
theorem Sensor_.zr:Zr Sensor_.rep [.int .u8 0,.int .u8 0,.int .u8 0,.string ⟨#[]⟩,.int .u8 0,.int .u8 0,.bool false,.int .i64 0,.bool false,.int .i64 0,.int .i64 0,.int .i64 0,.int .i64 0,.slice none 0 0,.int .u8 0,.int .u8 0,.int .u8 0,.int .u8 0,.int .u8 0,.int .u8 0,.int .u8 0,.int .u8 0,.int .u8 0,.int .u16 0,.int .u16 0,.int .u16 0,.bool false,.int .i64 0] Sensor_.z:=Zr.iso (r:=(Rep.prod (Rep.int .u8) (Rep.prod (Rep.int .u8) (Rep.prod (Rep.int .u8) (Rep.prod Rep.str (Rep.prod Entity_.rep (Rep.prod Rep.bool (Rep.prod Conversion_.rep (Rep.prod Thresholds_.rep (Rep.prod (Rep.int .u8) (Rep.prod (Rep.int .u8) (Rep.prod (Rep.int .u16) (Rep.prod (Rep.int .u16) (Rep.prod (Rep.int .u16) (Rep.prod Rep.bool (Rep.prod (Rep.int .i64) Rep.unit)))))))))))))))) _ (Zr.of (Zr.prod (Zr.int .u8 0) (Zr.prod (Zr.int .u8 0) (Zr.prod (Zr.int .u8 0) (Zr.prod Zr.str (Zr.prod Entity_.zr (Zr.prod (Zr.bool false) (Zr.prod Conversion_.zr (Zr.prod Thresholds_.zr (Zr.prod (Zr.int .u8 0) (Zr.prod (Zr.int .u8 0) (Zr.prod (Zr.int .u16 0) (Zr.prod (Zr.int .u16 0) (Zr.prod (Zr.int .u16 0) (Zr.prod (Zr.bool false) (Zr.prod (Zr.int .i64 0) Zr.unit))))))))))))))) rfl)
theorem Sensor_.f0:Fld Sensor_.rep 0 (Rep.int .u8) Sensor_.Number (λ s y=>{ s with Number:=y }):=Fld.iso (λ s:Sensor_=>(s.Number,s.Type_,s.Unit,s.Name,s.Entity,s.Discrete,s.Conversion,s.Limits,s.HystLower,s.HystUpper,s.States,s.Assert,s.Deassert,s.HostOn,s.Samples,())) Fld.here (λ _=>rfl) (λ _ _=>rfl)
theorem Sensor_.f1:Fld Sensor_.rep 1 (Rep.int .u8) Sensor_.Type_ (λ s y=>{ s with Type_:=y }):=Fld.iso (λ s:Sensor_=>(s.Number,s.Type_,s.Unit,s.Name,s.Entity,s.Discrete,s.Conversion,s.Limits,s.HystLower,s.HystUpper,s.States,s.Assert,s.Deassert,s.HostOn,s.Samples,())) (Fld.there Fld.here) (λ _=>rfl) (λ _ _=>rfl)
theorem Sensor_.f2:Fld Sensor_.rep 2 (Rep.int .u8) Sensor_.Unit (λ s y=>{ s with Unit:=y }):=Fld.iso (λ s:Sensor_=>(s.Number,s.Type_,s.Unit,s.Name,s.Entity,s.Discrete,s.Conversion,s.Limits,s.HystLower,s.HystUpper,s.States,s.Assert,s.Deassert,s.HostOn,s.Samples,())) (Fld.there (Fld.there Fld.here)) (λ _=>rfl) (λ _ _=>rfl)
theorem Sensor_.f3:Fld Sensor_.rep 3 Rep.str Sensor_.Name (λ s y=>{ s with Name:=y }):=Fld.iso (λ s:Sensor_=>(s.Number,s.Type_,s.Unit,s.Name,s.Entity,s.Discrete,s.Conversion,s.Limits,s.HystLower,s.HystUpper,s.States,s.Assert,s.Deassert,s.HostOn,s.Samples,())) (Fld.there (Fld.there (Fld.there Fld.here))) (λ _=>rfl) (λ _ _=>rfl)
theorem Sensor_.f4:Fld Sensor_.rep 4 Entity_.rep Sensor_.Entity (λ s y=>{ s with Entity:=y }):=Fld.iso (λ s:Sensor_=>(s.Number,s.Type_,s.Unit,s.Name,s.Entity,s.Discrete,s.Conversion,s.Limits,s.HystLower,s.HystUpper,s.States,s.Assert,s.Deassert,s.HostOn,s.Samples,())) (Fld.there (Fld.there (Fld.there (Fld.there Fld.here)))) (λ _=>rfl) (λ _ _=>rfl)
theorem Sensor_.f5:Fld Sensor_.rep 6 Rep.bool Sensor_.Discrete (λ s y=>{ s with Discrete:=y }):=Fld.iso (λ s:Sensor_=>(s.Number,s.Type_,s.Unit,s.Name,s.Entity,s.Discrete,s.Conversion,s.Limits,s.HystLower,s.HystUpper,s.States,s.Assert,s.Deassert,s.HostOn,s.Samples,())) (Fld.there (Fld.there (Fld.there (Fld.there (Fld.there Fld.here))))) (λ _=>rfl) (λ _ _=>rfl)
theorem Sensor_.f6:Fld Sensor_.rep 7 Conversion_.rep Sensor_.Conversion (λ s y=>{ s with Conversion:=y }):=Fld.iso (λ s:Sensor_=>(s.Number,s.Type_,s.Unit,s.Name,s.Entity,s.Discrete,s.Conversion,s.Limits,s.HystLower,s.HystUpper,s.States,s.Assert,s.Deassert,s.HostOn,s.Samples,())) (Fld.there (Fld.there (Fld.there (Fld.there (Fld.there (Fld.there Fld.here)))))) (λ _=>rfl) (λ _ _=>rfl)
theorem Sensor_.f7:Fld Sensor_.rep 14 Thresholds_.rep Sensor_.Limits (λ s y=>{ s with Limits:=y }):=Fld.iso (λ s:Sensor_=>(s.Number,s.Type_,s.Unit,s.Name,s.Entity,s.Discrete,s.Conversion,s.Limits,s.HystLower,s.HystUpper,s.States,s.Assert,s.Deassert,s.HostOn,s.Samples,())) (Fld.there (Fld.there (Fld.there (Fld.there (Fld.there (Fld.there (Fld.there Fld.here))))))) (λ _=>rfl) (λ _ _=>rfl)
theorem Sensor_.f8:Fld Sensor_.rep 21 (Rep.int .u8) Sensor_.HystLower (λ s y=>{ s with HystLower:=y }):=Fld.iso (λ s:Sensor_=>(s.Number,s.Type_,s.Unit,s.Name,s.Entity,s.Discrete,s.Conversion,s.Limits,s.HystLower,s.HystUpper,s.States,s.Assert,s.Deassert,s.HostOn,s.Samples,())) (Fld.there (Fld.there (Fld.there (Fld.there (Fld.there (Fld.there (Fld.there (Fld.there Fld.here)))))))) (λ _=>rfl) (λ _ _=>rfl)
theorem Sensor_.f9:Fld Sensor_.rep 22 (Rep.int .u8) Sensor_.HystUpper (λ s y=>{ s with HystUpper:=y }):=Fld.iso (λ s:Sensor_=>(s.Number,s.Type_,s.Unit,s.Name,s.Entity,s.Discrete,s.Conversion,s.Limits,s.HystLower,s.HystUpper,s.States,s.Assert,s.Deassert,s.HostOn,s.Samples,())) (Fld.there (Fld.there (Fld.there (Fld.there (Fld.there (Fld.there (Fld.there (Fld.there (Fld.there Fld.here))))))))) (λ _=>rfl) (λ _ _=>rfl)
theorem Sensor_.f10:Fld Sensor_.rep 23 (Rep.int .u16) Sensor_.States (λ s y=>{ s with States:=y }):=Fld.iso (λ s:Sensor_=>(s.Number,s.Type_,s.Unit,s.Name,s.Entity,s.Discrete,s.Conversion,s.Limits,s.HystLower,s.HystUpper,s.States,s.Assert,s.Deassert,s.HostOn,s.Samples,())) (Fld.there (Fld.there (Fld.there (Fld.there (Fld.there (Fld.there (Fld.there (Fld.there (Fld.there (Fld.there Fld.here)))))))))) (λ _=>rfl) (λ _ _=>rfl)
theorem Sensor_.f11:Fld Sensor_.rep 24 (Rep.int .u16) Sensor_.Assert (λ s y=>{ s with Assert:=y }):=Fld.iso (λ s:Sensor_=>(s.Number,s.Type_,s.Unit,s.Name,s.Entity,s.Discrete,s.Conversion,s.Limits,s.HystLower,s.HystUpper,s.States,s.Assert,s.Deassert,s.HostOn,s.Samples,())) (Fld.there (Fld.there (Fld.there (Fld.there (Fld.there (Fld.there (Fld.there (Fld.there (Fld.there (Fld.there (Fld.there Fld.here))))))))))) (λ _=>rfl) (λ _ _=>rfl)
theorem Sensor_.f12:Fld Sensor_.rep 25 (Rep.int .u16) Sensor_.Deassert (λ s y=>{ s with Deassert:=y }):=Fld.iso (λ s:Sensor_=>(s.Number,s.Type_,s.Unit,s.Name,s.Entity,s.Discrete,s.Conversion,s.Limits,s.HystLower,s.HystUpper,s.States,s.Assert,s.Deassert,s.HostOn,s.Samples,())) (Fld.there (Fld.there (Fld.there (Fld.there (Fld.there (Fld.there (Fld.there (Fld.there (Fld.there (Fld.there (Fld.there (Fld.there Fld.here)))))))))))) (λ _=>rfl) (λ _ _=>rfl)
theorem Sensor_.f13:Fld Sensor_.rep 26 Rep.bool Sensor_.HostOn (λ s y=>{ s with HostOn:=y }):=Fld.iso (λ s:Sensor_=>(s.Number,s.Type_,s.Unit,s.Name,s.Entity,s.Discrete,s.Conversion,s.Limits,s.HystLower,s.HystUpper,s.States,s.Assert,s.Deassert,s.HostOn,s.Samples,())) (Fld.there (Fld.there (Fld.there (Fld.there (Fld.there (Fld.there (Fld.there (Fld.there (Fld.there (Fld.there (Fld.there (Fld.there (Fld.there Fld.here))))))))))))) (λ _=>rfl) (λ _ _=>rfl)
theorem Sensor_.f14:Fld Sensor_.rep 27 (Rep.int .i64) Sensor_.Samples (λ s y=>{ s with Samples:=y }):=Fld.iso (λ s:Sensor_=>(s.Number,s.Type_,s.Unit,s.Name,s.Entity,s.Discrete,s.Conversion,s.Limits,s.HystLower,s.HystUpper,s.States,s.Assert,s.Deassert,s.HostOn,s.Samples,())) (Fld.there (Fld.there (Fld.there (Fld.there (Fld.there (Fld.there (Fld.there (Fld.there (Fld.there (Fld.there (Fld.there (Fld.there (Fld.there (Fld.there Fld.here)))))))))))))) (λ _=>rfl) (λ _ _=>rfl)
structure Association_ where
  Container:Entity_
  Contained:Entity_
def Association_.rep:Rep Association_:=Rep.iso (λ s=>(s.Container,s.Contained,())) (Rep.prod Entity_.rep (Rep.prod Entity_.rep Rep.unit))
def Association_.z:Association_:=⟨Entity_.z,Entity_.z⟩
theorem Association_.zr:Zr Association_.rep [.int .u8 0,.int .u8 0,.int .u8 0,.int .u8 0] Association_.z:=Zr.iso (r:=(Rep.prod Entity_.rep (Rep.prod Entity_.rep Rep.unit))) _ (Zr.of (Zr.prod Entity_.zr (Zr.prod Entity_.zr Zr.unit)) rfl)
theorem Association_.pure:Pure Association_.rep:=Pure.iso (Pure.prod Entity_.pure (Pure.prod Entity_.pure Pure.unit))
theorem Association_.f0:Fld Association_.rep 0 Entity_.rep Association_.Container (λ s y=>{ s with Container:=y }):=Fld.iso (λ s:Association_=>(s.Container,s.Contained,())) Fld.here (λ _=>rfl) (λ _ _=>rfl)
theorem Association_.f1:Fld Association_.rep 2 Entity_.rep Association_.Contained (λ s y=>{ s with Contained:=y }):=Fld.iso (λ s:Association_=>(s.Container,s.Contained,())) (Fld.there Fld.here) (λ _=>rfl) (λ _ _=>rfl)
structure Filter_ where
  Window:List Int
  Missing:Int
def Filter_.rep:Rep Filter_:=Rep.iso (λ s=>(s.Window,s.Missing,())) (Rep.prod (Rep.slice (Rep.int .u8)) (Rep.prod (Rep.int .i64) Rep.unit))
def Filter_.z:Filter_:=⟨[],0⟩
theorem Filter_.zr:Zr Filter_.rep [.slice none 0 0,.int .i64 0] Filter_.z:=Zr.iso (r:=(Rep.prod (Rep.slice (Rep.int .u8)) (Rep.prod (Rep.int .i64) Rep.unit))) _ (Zr.of (Zr.prod (Zr.slice (Rep.int .u8)) (Zr.prod (Zr.int .i64 0) Zr.unit)) rfl)
theorem Filter_.f0:Fld Filter_.rep 0 (Rep.slice (Rep.int .u8)) Filter_.Window (λ s y=>{ s with Window:=y }):=Fld.iso (λ s:Filter_=>(s.Window,s.Missing,())) Fld.here (λ _=>rfl) (λ _ _=>rfl)
theorem Filter_.f1:Fld Filter_.rep 1 (Rep.int .i64) Filter_.Missing (λ s y=>{ s with Missing:=y }):=Fld.iso (λ s:Filter_=>(s.Window,s.Missing,())) (Fld.there Fld.here) (λ _=>rfl) (λ _ _=>rfl)
structure Qd where
  sensors:List Sensor_
  l:List Association_
  filters:List Filter_
  states:List Int
def Qd.rep:Rep Qd:=Rep.iso (λ s=>(s.sensors,s.l,s.filters,s.states,())) (Rep.prod (Rep.slice Sensor_.rep) (Rep.prod (Rep.slice Association_.rep) (Rep.prod (Rep.slice Filter_.rep) (Rep.prod (Rep.slice (Rep.int .u16)) Rep.unit))))
def Qd.z:Qd:=⟨[],[],[],[]⟩
theorem Qd.zr:Zr Qd.rep [.slice none 0 0,.slice none 0 0,.slice none 0 0,.slice none 0 0] Qd.z:=Zr.iso (r:=(Rep.prod (Rep.slice Sensor_.rep) (Rep.prod (Rep.slice Association_.rep) (Rep.prod (Rep.slice Filter_.rep) (Rep.prod (Rep.slice (Rep.int .u16)) Rep.unit))))) _ (Zr.of (Zr.prod (Zr.slice Sensor_.rep) (Zr.prod (Zr.slice Association_.rep) (Zr.prod (Zr.slice Filter_.rep) (Zr.prod (Zr.slice (Rep.int .u16)) Zr.unit)))) rfl)
structure Qc where
  size:Int
  bytes:List Int
  wear:List Int
  steps:Int
  left:Int
  torn:Int
  down:Bool
def Qc.rep:Rep Qc:=Rep.iso (λ s=>(s.size,s.bytes,s.wear,s.steps,s.left,s.torn,s.down,())) (Rep.prod (Rep.int .i64) (Rep.prod (Rep.slice (Rep.int .u8)) (Rep.prod (Rep.slice (Rep.int .i64)) (Rep.prod (Rep.int .i64) (Rep.prod (Rep.int .i64) (Rep.prod (Rep.int .u8) (Rep.prod Rep.bool Rep.unit)))))))
def Qc.z:Qc:=⟨0,[],[],0,0,0,false⟩
theorem Qc.zr:Zr Qc.rep [.int .i64 0,.slice none 0 0,.slice none 0 0,.int .i64 0,.int .i64 0,.int .u8 0,.bool false] Qc.z:=Zr.iso (r:=(Rep.prod (Rep.int .i64) (Rep.prod (Rep.slice (Rep.int .u8)) (Rep.prod (Rep.slice (Rep.int .i64)) (Rep.prod (Rep.int .i64) (Rep.prod (Rep.int .i64) (Rep.prod (Rep.int .u8) (Rep.prod Rep.bool Rep.unit)))))))) _ (Zr.of (Zr.prod (Zr.int .i64 0) (Zr.prod (Zr.slice (Rep.int .u8)) (Zr.prod (Zr.slice (Rep.int .i64)) (Zr.prod (Zr.int .i64 0) (Zr.prod (Zr.int .i64 0) (Zr.prod (Zr.int .u8 0) (Zr.prod (Zr.bool false) Zr.unit))))))) rfl)
structure Event_ where
  ID:Int
  Time:Int
  Generator:Int
  SensorType:Int
  Sensor:Int
  Type_:Int
  Deassert:Bool
  Data:List Int
def Event_.rep:Rep Event_:=Rep.iso (λ s=>(s.ID,s.Time,s.Generator,s.SensorType,s.Sensor,s.Type_,s.Deassert,s.Data,())) (Rep.prod (Rep.int .u16) (Rep.prod (Rep.int .u32) (Rep.prod (Rep.int .u16) (Rep.prod (Rep.int .u8) (Rep.prod (Rep.int .u8) (Rep.prod (Rep.int .u8) (Rep.prod Rep.bool (Rep.prod (Rep.arr 3 (Rep.int .u8)) Rep.unit))))))))
def Event_.z:Event_:=⟨0,0,0,0,0,0,false,(List.replicate 3 0)⟩
theorem Event_.zr:Zr Event_.rep [.int .u16 0,.int .u32 0,.int .u16 0,.int .u8 0,.int .u8 0,.int .u8 0,.bool false,.int .u8 0,.int .u8 0,.int .u8 0] Event_.z:=Zr.iso (r:=(Rep.prod (Rep.int .u16) (Rep.prod (Rep.int .u32) (Rep.prod (Rep.int .u16) (Rep.prod (Rep.int .u8) (Rep.prod (Rep.int .u8) (Rep.prod (Rep.int .u8) (Rep.prod Rep.bool (Rep.prod (Rep.arr 3 (Rep.int .u8)) Rep.unit))))))))) _ (Zr.of (Zr.prod (Zr.int .u16 0) (Zr.prod (Zr.int .u32 0) (Zr.prod (Zr.int .u16 0) (Zr.prod (Zr.int .u8 0) (Zr.prod (Zr.int .u8 0) (Zr.prod (Zr.int .u8 0) (Zr.prod (Zr.bool false) (Zr.prod (Zr.of (Zr.arr (Zr.int .u8 0) 3) rfl) Zr.unit)))))))) rfl)
theorem Event_.pure:Pure Event_.rep:=Pure.iso (Pure.prod Pure.int (Pure.prod Pure.int (Pure.prod Pure.int (Pure.prod Pure.int (Pure.prod Pure.int (Pure.prod Pure.int (Pure.prod Pure.bool (Pure.prod (Pure.arr Pure.int) Pure.unit))))))))
def Event_.eqb (a b:Event_):Bool:=(eqI a.ID b.ID&&(eqI a.Time b.Time&&(eqI a.Generator b.Generator&&(eqI a.SensorType b.SensorType&&(eqI a.Sensor b.Sensor&&(eqI a.Type_ b.Type_&&(eqB a.Deassert b.Deassert&&((eqL eqI) a.Data b.Data&&true))))))))
theorem Event_.f0:Fld Event_.rep 0 (Rep.int .u16) Event_.ID (λ s y=>{ s with ID:=y }):=Fld.iso (λ s:Event_=>(s.ID,s.Time,s.Generator,s.SensorType,s.Sensor,s.Type_,s.Deassert,s.Data,())) Fld.here (λ _=>rfl) (λ _ _=>rfl)
theorem Event_.f1:Fld Event_.rep 1 (Rep.int .u32) Event_.Time (λ s y=>{ s with Time:=y }):=Fld.iso (λ s:Event_=>(s.ID,s.Time,s.Generator,s.SensorType,s.Sensor,s.Type_,s.Deassert,s.Data,())) (Fld.there Fld.here) (λ _=>rfl) (λ _ _=>rfl)
theorem Event_.f2:Fld Event_.rep 2 (Rep.int .u16) Event_.Generator (λ s y=>{ s with Generator:=y }):=Fld.iso (λ s:Event_=>(s.ID,s.Time,s.Generator,s.SensorType,s.Sensor,s.Type_,s.Deassert,s.Data,())) (Fld.there (Fld.there Fld.here)) (λ _=>rfl) (λ _ _=>rfl)
theorem Event_.f3:Fld Event_.rep 3 (Rep.int .u8) Event_.SensorType (λ s y=>{ s with SensorType:=y }):=Fld.iso (λ s:Event_=>(s.ID,s.Time,s.Generator,s.SensorType,s.Sensor,s.Type_,s.Deassert,s.Data,())) (Fld.there (Fld.there (Fld.there Fld.here))) (λ _=>rfl) (λ _ _=>rfl)
theorem Event_.f4:Fld Event_.rep 4 (Rep.int .u8) Event_.Sensor (λ s y=>{ s with Sensor:=y }):=Fld.iso (λ s:Event_=>(s.ID,s.Time,s.Generator,s.SensorType,s.Sensor,s.Type_,s.Deassert,s.Data,())) (Fld.there (Fld.there (Fld.there (Fld.there Fld.here)))) (λ _=>rfl) (λ _ _=>rfl)
theorem Event_.f5:Fld Event_.rep 5 (Rep.int .u8) Event_.Type_ (λ s y=>{ s with Type_:=y }):=Fld.iso (λ s:Event_=>(s.ID,s.Time,s.Generator,s.SensorType,s.Sensor,s.Type_,s.Deassert,s.Data,())) (Fld.there (Fld.there (Fld.there (Fld.there (Fld.there Fld.here))))) (λ _=>rfl) (λ _ _=>rfl)
theorem Event_.f6:Fld Event_.rep 6 Rep.bool Event_.Deassert (λ s y=>{ s with Deassert:=y }):=Fld.iso (λ s:Event_=>(s.ID,s.Time,s.Generator,s.SensorType,s.Sensor,s.Type_,s.Deassert,s.Data,())) (Fld.there (Fld.there (Fld.there (Fld.there (Fld.there (Fld.there Fld.here)))))) (λ _=>rfl) (λ _ _=>rfl)
theorem Event_.f7:Fld Event_.rep 7 (Rep.arr 3 (Rep.int .u8)) Event_.Data (λ s y=>{ s with Data:=y }):=Fld.iso (λ s:Event_=>(s.ID,s.Time,s.Generator,s.SensorType,s.Sensor,s.Type_,s.Deassert,s.Data,())) (Fld.there (Fld.there (Fld.there (Fld.there (Fld.there (Fld.there (Fld.there Fld.here))))))) (λ _=>rfl) (λ _ _=>rfl)
structure Qe where
  sequence:Int
  event:Event_
def Qe.rep:Rep Qe:=Rep.iso (λ s=>(s.sequence,s.event,())) (Rep.prod (Rep.int .i64) (Rep.prod Event_.rep Rep.unit))
def Qe.z:Qe:=⟨0,Event_.z⟩
theorem Qe.zr:Zr Qe.rep [.int .i64 0,.int .u16 0,.int .u32 0,.int .u16 0,.int .u8 0,.int .u8 0,.int .u8 0,.bool false,.int .u8 0,.int .u8 0,.int .u8 0] Qe.z:=Zr.iso (r:=(Rep.prod (Rep.int .i64) (Rep.prod Event_.rep Rep.unit))) _ (Zr.of (Zr.prod (Zr.int .i64 0) (Zr.prod Event_.zr Zr.unit)) rfl)
theorem Qe.pure:Pure Qe.rep:=Pure.iso (Pure.prod Pure.int (Pure.prod Event_.pure Pure.unit))
theorem Qe.f0:Fld Qe.rep 0 (Rep.int .i64) Qe.sequence (λ s y=>{ s with sequence:=y }):=Fld.iso (λ s:Qe=>(s.sequence,s.event,())) Fld.here (λ _=>rfl) (λ _ _=>rfl)
theorem Qe.f1:Fld Qe.rep 1 Event_.rep Qe.event (λ s y=>{ s with event:=y }):=Fld.iso (λ s:Qe=>(s.sequence,s.event,())) (Fld.there Fld.here) (λ _=>rfl) (λ _ _=>rfl)
structure Qb where
  d:Bool
  first:Int
  sectors:Int
  overwrite:Bool
  newest:Int
  tail:Int
  used:Int
  next:Int
  records:List Qe
  full:Bool
  number:Int
  held:Bool
  ended:Bool
def Qb.rep:Rep Qb:=Rep.iso (λ s=>(s.d,s.first,s.sectors,s.overwrite,s.newest,s.tail,s.used,s.next,s.records,s.full,s.number,s.held,s.ended,())) (Rep.prod Rep.lnk0 (Rep.prod (Rep.int .i64) (Rep.prod (Rep.int .i64) (Rep.prod Rep.bool (Rep.prod (Rep.int .i64) (Rep.prod (Rep.int .i64) (Rep.prod (Rep.int .i64) (Rep.prod (Rep.int .u16) (Rep.prod (Rep.slice Qe.rep) (Rep.prod Rep.bool (Rep.prod (Rep.int .u16) (Rep.prod Rep.bool (Rep.prod Rep.bool Rep.unit)))))))))))))
def Qb.z:Qb:=⟨false,0,0,false,0,0,0,0,[],false,0,false,false⟩
structure Qf where
  sequence:Int
  tail:Int
  id:Int
def Qf.rep:Rep Qf:=Rep.iso (λ s=>(s.sequence,s.tail,s.id,())) (Rep.prod (Rep.int .i64) (Rep.prod (Rep.int .i64) (Rep.prod (Rep.int .u16) Rep.unit)))
def Qf.z:Qf:=⟨0,0,0⟩
theorem Qf.zr:Zr Qf.rep [.int .i64 0,.int .i64 0,.int .u16 0] Qf.z:=Zr.iso (r:=(Rep.prod (Rep.int .i64) (Rep.prod (Rep.int .i64) (Rep.prod (Rep.int .u16) Rep.unit)))) _ (Zr.of (Zr.prod (Zr.int .i64 0) (Zr.prod (Zr.int .i64 0) (Zr.prod (Zr.int .u16 0) Zr.unit))) rfl)
theorem Qf.f0:Fld Qf.rep 0 (Rep.int .i64) Qf.sequence (λ s y=>{ s with sequence:=y }):=Fld.iso (λ s:Qf=>(s.sequence,s.tail,s.id,())) Fld.here (λ _=>rfl) (λ _ _=>rfl)
theorem Qf.f1:Fld Qf.rep 1 (Rep.int .i64) Qf.tail (λ s y=>{ s with tail:=y }):=Fld.iso (λ s:Qf=>(s.sequence,s.tail,s.id,())) (Fld.there Fld.here) (λ _=>rfl) (λ _ _=>rfl)
theorem Qf.f2:Fld Qf.rep 2 (Rep.int .u16) Qf.id (λ s y=>{ s with id:=y }):=Fld.iso (λ s:Qf=>(s.sequence,s.tail,s.id,())) (Fld.there (Fld.there Fld.here)) (λ _=>rfl) (λ _ _=>rfl)
structure Sample_ where
  Number:Int
  OK:Bool
  Raw:Int
  States:Int
def Sample_.rep:Rep Sample_:=Rep.iso (λ s=>(s.Number,s.OK,s.Raw,s.States,())) (Rep.prod (Rep.int .u8) (Rep.prod Rep.bool (Rep.prod (Rep.int .u8) (Rep.prod (Rep.int .u16) Rep.unit))))
def Sample_.z:Sample_:=⟨0,false,0,0⟩
theorem Sample_.zr:Zr Sample_.rep [.int .u8 0,.bool false,.int .u8 0,.int .u16 0] Sample_.z:=Zr.iso (r:=(Rep.prod (Rep.int .u8) (Rep.prod Rep.bool (Rep.prod (Rep.int .u8) (Rep.prod (Rep.int .u16) Rep.unit))))) _ (Zr.of (Zr.prod (Zr.int .u8 0) (Zr.prod (Zr.bool false) (Zr.prod (Zr.int .u8 0) (Zr.prod (Zr.int .u16 0) Zr.unit)))) rfl)
theorem Sample_.pure:Pure Sample_.rep:=Pure.iso (Pure.prod Pure.int (Pure.prod Pure.bool (Pure.prod Pure.int (Pure.prod Pure.int Pure.unit))))
theorem Sample_.f0:Fld Sample_.rep 0 (Rep.int .u8) Sample_.Number (λ s y=>{ s with Number:=y }):=Fld.iso (λ s:Sample_=>(s.Number,s.OK,s.Raw,s.States,())) Fld.here (λ _=>rfl) (λ _ _=>rfl)
theorem Sample_.f1:Fld Sample_.rep 1 Rep.bool Sample_.OK (λ s y=>{ s with OK:=y }):=Fld.iso (λ s:Sample_=>(s.Number,s.OK,s.Raw,s.States,())) (Fld.there Fld.here) (λ _=>rfl) (λ _ _=>rfl)
theorem Sample_.f2:Fld Sample_.rep 2 (Rep.int .u8) Sample_.Raw (λ s y=>{ s with Raw:=y }):=Fld.iso (λ s:Sample_=>(s.Number,s.OK,s.Raw,s.States,())) (Fld.there (Fld.there Fld.here)) (λ _=>rfl) (λ _ _=>rfl)
theorem Sample_.f3:Fld Sample_.rep 3 (Rep.int .u16) Sample_.States (λ s y=>{ s with States:=y }):=Fld.iso (λ s:Sample_=>(s.Number,s.OK,s.Raw,s.States,())) (Fld.there (Fld.there (Fld.there Fld.here))) (λ _=>rfl) (λ _ _=>rfl)
structure Change_ where
  Index:Int
  Asserted:Bool
def Change_.rep:Rep Change_:=Rep.iso (λ s=>(s.Index,s.Asserted,())) (Rep.prod (Rep.int .i64) (Rep.prod Rep.bool Rep.unit))
def Change_.z:Change_:=⟨0,false⟩
theorem Change_.zr:Zr Change_.rep [.int .i64 0,.bool false] Change_.z:=Zr.iso (r:=(Rep.prod (Rep.int .i64) (Rep.prod Rep.bool Rep.unit))) _ (Zr.of (Zr.prod (Zr.int .i64 0) (Zr.prod (Zr.bool false) Zr.unit)) rfl)
theorem Change_.pure:Pure Change_.rep:=Pure.iso (Pure.prod Pure.int (Pure.prod Pure.bool Pure.unit))
theorem Change_.f0:Fld Change_.rep 0 (Rep.int .i64) Change_.Index (λ s y=>{ s with Index:=y }):=Fld.iso (λ s:Change_=>(s.Index,s.Asserted,())) Fld.here (λ _=>rfl) (λ _ _=>rfl)
theorem Change_.f1:Fld Change_.rep 1 Rep.bool Change_.Asserted (λ s y=>{ s with Asserted:=y }):=Fld.iso (λ s:Change_=>(s.Index,s.Asserted,())) (Fld.there Fld.here) (λ _=>rfl) (λ _ _=>rfl)
structure Qg where
  L:List Int
  At:Int
def Qg.rep:Rep Qg:=Rep.iso (λ s=>(s.L,s.At,())) (Rep.prod (Rep.slice (Rep.int .i64)) (Rep.prod (Rep.int .i64) Rep.unit))
def Qg.z:Qg:=⟨[],0⟩
theorem Qg.zr:Zr Qg.rep [.slice none 0 0,.int .i64 0] Qg.z:=Zr.iso (r:=(Rep.prod (Rep.slice (Rep.int .i64)) (Rep.prod (Rep.int .i64) Rep.unit))) _ (Zr.of (Zr.prod (Zr.slice (Rep.int .i64)) (Zr.prod (Zr.int .i64 0) Zr.unit)) rfl)
theorem Qg.f0:Fld Qg.rep 0 (Rep.slice (Rep.int .i64)) Qg.L (λ s y=>{ s with L:=y }):=Fld.iso (λ s:Qg=>(s.L,s.At,())) Fld.here (λ _=>rfl) (λ _ _=>rfl)
theorem Qg.f1:Fld Qg.rep 1 (Rep.int .i64) Qg.At (λ s y=>{ s with At:=y }):=Fld.iso (λ s:Qg=>(s.L,s.At,())) (Fld.there Fld.here) (λ _=>rfl) (λ _ _=>rfl)
def Qfy (fuel:Nat) (a0:List Int):Option (Bool) :=
  loopP (λ k1 (s1:Int) =>
  iteP (decide (s1<(a0.length:Int))) (
  bindP (idx a0 s1) λ x1 =>
  joinP (λ (s2:Bool) =>
  iteP s2 (
  some false) (
  k1 ((IntKind.i64.wrap (s1+1))))) λ j1 =>
  iteP (decide (x1<32)) (
  j1 (true)) (
  j1 (decide (x1>126)))) (
  iteP (decide ((a0.length:Int)≥1)) (
  letP (decide ((a0.length:Int)≤16)) λ x2 =>
  some x2) (
  some false))) fuel (0)
def Qfq (fuel:Nat) (a0:Sensor_):Option (Bool) :=
  joinP (λ (s1:Bool) =>
  joinP (λ (s2:Bool) =>
  iteP s2 (
  iteP (a0.Samples==1) (
  iteP (decide (a0.States≤32767)) (
  letP ((bAndNot .u16 (bOr .u16 a0.Assert a0.Deassert) a0.States)==0) λ x1 =>
  some x1) (
  some false)) (
  some false)) (
  some false)) λ j2 =>
  iteP s1 (
  iteP (Thresholds_.eqb a0.Limits Thresholds_.z) (
  iteP (a0.HystLower==0) (
  letP (a0.HystUpper==0) λ x2 =>
  j2 (x2)) (
  j2 (false))) (
  j2 (false))) (
  j2 (false))) λ j1 =>
  iteP (a0.Conversion.Form==0) (
  iteP (!a0.Conversion.Signed) (
  iteP (a0.Conversion.M==0) (
  iteP (a0.Conversion.B==0) (
  iteP (a0.Conversion.K1==0) (
  iteP (a0.Conversion.K2==0) (
  letP ((a0.Conversion.Points.length:Int)==0) λ x3 =>
  j1 (x3)) (
  j1 (false))) (
  j1 (false))) (
  j1 (false))) (
  j1 (false))) (
  j1 (false))) (
  j1 (false))
def Qdn (fuel:Nat) (a0:Int):Option (Bool) :=
  iteP (decide (a0≥(-512))) (
  letP (decide (a0≤511)) λ x1 =>
  some x1) (
  some false)
def Qec (fuel:Nat) (a0:Int):Option (Bool) :=
  iteP (decide (a0≥(-3))) (
  letP (decide (a0≤3)) λ x1 =>
  some x1) (
  some false)
def Qhv (fuel:Nat) (a0:Int):Option (Int) :=
  letP (max (-1000000000000) (min a0 1000000000000)) λ x1 =>
  some x1
def Qas (fuel:Nat) (a0:Bool) (a1:Int):Option (Int) :=
  iteP a0 (
  letP (IntKind.i64.wrap (IntKind.i8.wrap a1)) λ x1 =>
  some x1) (
  some (IntKind.i64.wrap a1))
def Qfl (fuel:Nat) (a0:Conversion_):Option (Bool) :=
  joinP (λ (s1:Bool) =>
  iteP s1 (
  some false) (
  loopP (λ k1 (s2:Int) =>
  iteP (decide (s2<(a0.Points.length:Int))) (
  bindP (idx a0.Points s2) λ x1 =>
  joinP (λ (s3:Bool) =>
  iteP s3 (
  some false) (
  k1 ((IntKind.i64.wrap (s2+1))))) λ j2 =>
  bindP (Qhv fuel x1.Value) λ y1 =>
  letP (y1 != x1.Value) λ x2 =>
  iteP x2 (
  j2 (true)) (
  letP (decide (s2>0)) λ x3 =>
  iteP x3 (
  bindP (idx a0.Points (IntKind.i64.wrap (s2-1))) λ x4 =>
  bindP (Qas fuel a0.Signed x4.Raw) λ y2 =>
  bindP (Qas fuel a0.Signed x1.Raw) λ y3 =>
  j2 (decide (y2≥y3))) (
  j2 (false)))) (
  some true)) fuel (0))) λ j1 =>
  iteP (decide ((a0.Points.length:Int)<2)) (
  j1 (true)) (
  j1 (decide ((a0.Points.length:Int)>12)))
def Qfm (fuel:Nat) (a0:Conversion_):Option (Bool) :=
  letP (a0.Form==1) λ x1 =>
  joinP (λ (s1:Bool) =>
  iteP s1 (
  bindP (Qdn fuel a0.M) λ y1 =>
  iteP y1 (
  bindP (Qdn fuel a0.B) λ y2 =>
  iteP y2 (
  bindP (Qec fuel a0.K1) λ y3 =>
  iteP y3 (
  bindP (Qec fuel a0.K2) λ y4 =>
  iteP y4 (
  letP ((a0.Points.length:Int)==0) λ x2 =>
  some x2) (
  some false)) (
  some false)) (
  some false)) (
  some false)) (
  letP (a0.Form==5) λ x3 =>
  iteP x3 (
  iteP (a0.M==0) (
  iteP (a0.B==0) (
  iteP (a0.K1==0) (
  iteP (a0.K2==0) (
  bindP (Qfl fuel a0) λ y5 =>
  some y5) (
  some false)) (
  some false)) (
  some false)) (
  some false)) (
  some false))) λ j1 =>
  iteP x1 (
  j1 (x1)) (
  letP (a0.Form==2) λ x4 =>
  iteP x4 (
  j1 (x4)) (
  letP (a0.Form==3) λ x5 =>
  iteP x5 (
  j1 (x5)) (
  letP (a0.Form==4) λ x6 =>
  j1 (x6))))
def Qbp (fuel:Nat) (a0:Int):Option (Bool) :=
  letP (a0 != a0) λ x1 =>
  some x1
def Qfw (fuel:Nat) (a0:Int) (a1:Int):Option (Bool) :=
  bindP (Qbp fuel a0) λ y1 =>
  iteP y1 (
  bindP (Qbp fuel a1) λ y2 =>
  iteP (!y2) (
  some true) (
  letP (decide (a0<a1)) λ x1 =>
  some x1)) (
  letP (decide (a0<a1)) λ x2 =>
  some x2)
def Qau (fuel:Nat) (a0:List Int):Option (Bool) :=
  letP (IntKind.i64.wrap ((a0.length:Int)-1)) λ x1 =>
  loopP (λ k1 (s1:Int) =>
  iteP (decide (s1>0)) (
  bindP (idx a0 s1) λ x2 =>
  bindP (idx a0 (IntKind.i64.wrap (s1-1))) λ x3 =>
  bindP (Qfw fuel x2 x3) λ y1 =>
  iteP y1 (
  some false) (
  letP (IntKind.i64.wrap (s1-1)) λ x4 =>
  k1 (x4))) (
  some true)) fuel (x1)
def Qat (fuel:Nat) (a0:List Int) (a1:Sensor_):Option ((List Int)) :=
  loopP (λ k1 (s1:(Int×(List Int))) =>
  iteP (decide (s1.1<(a0.length:Int))) (
  bindP (idx a0 s1.1) λ x1 =>
  bindP (chk (decide (0≤x1))) λ _ =>
  iteP ((bAnd .u8 (bShr .u8 a1.Limits.Mask x1) 1)==1) (
  bindP (idx a1.Limits.Raw x1) λ x2 =>
  bindP (Qas fuel a1.Conversion.Signed x2) λ y1 =>
  bindP (app 8 s1.2 ([y1])) λ x3 =>
  k1 ((IntKind.i64.wrap (s1.1+1)),x3)) (
  k1 ((IntKind.i64.wrap (s1.1+1)),s1.2))) (
  some s1.2)) fuel (0,[])
def Qev (fuel:Nat) (a0:Sensor_):Option (Bool) :=
  bindP (Qat fuel ([2,1,0]) a0) λ y1 =>
  bindP (Qat fuel ([3,4,5]) a0) λ y2 =>
  joinP (λ (s1:Bool) =>
  bindP (Qau fuel y1) λ y3 =>
  iteP y3 (
  bindP (Qau fuel y2) λ y4 =>
  iteP y4 (
  some s1) (
  some false)) (
  some false)) λ j1 =>
  letP ((y1.length:Int)==0) λ x1 =>
  iteP x1 (
  j1 (true)) (
  letP ((y2.length:Int)==0) λ x2 =>
  iteP x2 (
  j1 (true)) (
  bindP (idx y1 (IntKind.i64.wrap ((y1.length:Int)-1))) λ x3 =>
  bindP (idx y2 0) λ x4 =>
  letP (decide (x3<x4)) λ x5 =>
  j1 (x5)))
def Qfi (fuel:Nat) (a0:Sensor_):Option (Bool) :=
  bindP (Qfm fuel a0.Conversion) λ y1 =>
  joinP (λ (s1:Bool) =>
  iteP s1 (
  some false) (
  loopP (λ k1 (s2:Int) =>
  iteP (decide (s2<6)) (
  bindP (idx a0.Limits.Raw s2) λ x1 =>
  bindP (chk (decide (0≤s2))) λ _ =>
  joinP (λ (s3:Bool) =>
  iteP s3 (
  some false) (
  k1 ((IntKind.i64.wrap (s2+1))))) λ j2 =>
  iteP ((bAnd .u8 (bShr .u8 a0.Limits.Mask s2) 1)==0) (
  j2 (x1 != 0)) (
  j2 (false))) (
  bindP (Qev fuel a0) λ y2 =>
  some y2)) fuel (0))) λ j1 =>
  iteP (!y1) (
  j1 (true)) (
  iteP (decide (a0.Limits.Mask≥64)) (
  j1 (true)) (
  iteP (a0.States != 0) (
  j1 (true)) (
  j1 ((bAndNot .u16 (bOr .u16 a0.Assert a0.Deassert) (IntKind.u16.wrap a0.Limits.Mask)) != 0))))
def Qbo (fuel:Nat) (a0:Sensor_):Option (Bool) :=
  bindP (Qfy fuel a0.Name) λ y1 =>
  joinP (λ (s1:Bool) =>
  iteP s1 (
  some false) (
  iteP a0.Discrete (
  bindP (Qfq fuel a0) λ y2 =>
  some y2) (
  bindP (Qfi fuel a0) λ y3 =>
  some y3))) λ j1 =>
  iteP (!y1) (
  j1 (true)) (
  iteP (a0.Samples != 1) (
  iteP (a0.Samples != 3) (
  j1 (a0.Samples != 5)) (
  j1 (false))) (
  j1 (false)))
def Qed (fuel:Nat) (a0:List Sensor_):Option (Int) :=
  iteP (decide ((a0.length:Int)>32)) (
  some 3) (
  loopP (λ k1 (s1:Int) =>
  iteP (decide (s1<(a0.length:Int))) (
  bindP (idx a0 s1) λ x1 =>
  joinP (λ (s2:Bool) =>
  iteP s2 (
  some 1) (
  k1 ((IntKind.i64.wrap (s1+1))))) λ j1 =>
  bindP (Qbo fuel x1) λ y1 =>
  letP (!y1) λ x2 =>
  iteP x2 (
  j1 (true)) (
  letP (decide (s1>0)) λ x3 =>
  iteP x3 (
  bindP (idx a0 (IntKind.i64.wrap (s1-1))) λ x4 =>
  j1 (decide (x1.Number≤x4.Number))) (
  j1 (false)))) (
  some 0)) fuel (0))
def Qgh (fuel:Nat) (a0:Association_) (a1:Entity_):Option (Bool) :=
  letP (Entity_.eqb a0.Contained a1) λ x1 =>
  some x1
def Qab (fuel:Nat) (a0:List Association_) (a1_0:Entity_):Option (Int) :=
  loopP (λ k1 (s1:Int) =>
  iteP (decide (s1<(a0.length:Int))) (
  bindP (idx a0 s1) λ x1 =>
  bindP (Qgh fuel x1 a1_0) λ y1 =>
  iteP y1 (
  some s1) (
  k1 ((IntKind.i64.wrap (s1+1))))) (
  some (-1))) fuel (0)
def Qih (fuel:Nat) (a0:List Association_) (a1:Entity_):Option (Entity_×Bool) :=
  bindP (Qab fuel a0 a1) λ y1 =>
  iteP (decide (y1<0)) (
  some (Entity_.z,false)) (
  bindP (idx a0 y1) λ x1 =>
  some (x1.Container,true))
def Qar (fuel:Nat) (a0:List Entity_) (a1:Entity_):Option (Int) :=
  loopP (λ k1 (s1:Int) =>
  iteP (decide (s1<(a0.length:Int))) (
  bindP (idx a0 s1) λ x1 =>
  iteP (Entity_.eqb a1 x1) (
  some s1) (
  k1 ((IntKind.i64.wrap (s1+1))))) (
  some (-1))) fuel (0)
def Qu (fuel:Nat) (a0:List Entity_) (a1:Entity_):Option (Bool) :=
  bindP (Qar fuel a0 a1) λ y1 =>
  letP (decide (y1≥0)) λ x1 =>
  some x1
def Qfk (fuel:Nat) (a0:List Association_) (a1:Entity_):Option ((List Entity_)) :=
  loopP (λ k1 (s1:(Entity_×(List Entity_))) =>
  bindP (Qih fuel a0 s1.1) λ y1 =>
  joinP (λ (s2:Bool) =>
  iteP s2 (
  some s1.2) (
  bindP (app 2 s1.2 ([y1.1])) λ x1 =>
  k1 (y1.1,x1))) λ j1 =>
  iteP (!y1.2) (
  j1 (true)) (
  bindP (Qu fuel s1.2 y1.1) λ y2 =>
  j1 (y2))) fuel (a1,[])
def Qeo (fuel:Nat) (a0:List Association_):Option (Int) :=
  iteP (decide ((a0.length:Int)>32)) (
  some 3) (
  loopP (λ k1 (s1:(Int×(List (Entity_×Bool)))) =>
  iteP (decide (s1.1<(a0.length:Int))) (
  bindP (idx a0 s1.1) λ x1 =>
  iteP (kget Entity_.eqb false s1.2 x1.Contained) (
  some 7) (
  letP (kput Entity_.eqb s1.2 x1.Contained true) λ d1 =>
  k1 ((IntKind.i64.wrap (s1.1+1)),d1))) (
  loopP (λ k2 (s2:Int) =>
  iteP (decide (s2<(a0.length:Int))) (
  bindP (idx a0 s2) λ x2 =>
  bindP (Qfk fuel a0 x2.Contained) λ y1 =>
  bindP (Qu fuel y1 x2.Contained) λ y2 =>
  iteP y2 (
  some 14) (
  k2 ((IntKind.i64.wrap (s2+1))))) (
  some 0)) fuel (0))) fuel (0,[]))
def Qai (fuel:Nat) (a0:List Sensor_):Option ((List Sensor_)) :=
  bindP (app 136 ([]) a0) λ x1 =>
  some x1
def Qaa (fuel:Nat) (a0:List Association_):Option ((List Association_)) :=
  bindP (app 4 ([]) a0) λ x1 =>
  some x1
def Qal (fuel:Nat) (a0:List Point_):Option ((List Point_)) :=
  bindP (app 16 ([]) a0) λ x1 =>
  some x1
def Qfo (fuel:Nat) (a0:List Sensor_) (a1:List Association_):Option ((Option Qd)×Int) :=
  bindP (Qed fuel a0) λ y1 =>
  iteP (y1 != 0) (
  some (none,y1)) (
  bindP (Qeo fuel a1) λ y2 =>
  iteP (y2 != 0) (
  some (none,y2)) (
  bindP (Qai fuel a0) λ y3 =>
  bindP (Qaa fuel a1) λ y4 =>
  bindP (mk 32 Filter_.z (a0.length:Int)) λ x1 =>
  bindP (mk 2 0 (a0.length:Int)) λ x2 =>
  loopP (λ k1 (s1:(Int×(List Sensor_))) =>
  iteP (decide (s1.1<(y3.length:Int))) (
  bindP (idx a0 s1.1) λ x3 =>
  bindP (Qal fuel x3.Conversion.Points) λ y5 =>
  bindP (idx s1.2 s1.1) λ x4 =>
  letP (upd s1.2 s1.1 ({ x4 with Conversion:={ x4.Conversion with Points:=y5 } })) λ d1 =>
  k1 ((IntKind.i64.wrap (s1.1+1)),d1)) (
  some ((some (⟨s1.2,y4,x1,x2⟩:Qd)),0))) fuel (0,y3)))
def Qis (fuel:Nat) (a0:Int) (a1:Int):Option (Int×Int) :=
  letP (bAnd .u64 a0 4294967295) λ x1 =>
  letP (bAnd .u64 a1 4294967295) λ x2 =>
  letP (IntKind.u64.wrap (x1*x2)) λ x3 =>
  letP (IntKind.u64.wrap ((IntKind.u64.wrap ((bShr .u64 a0 32)*x2))+(bShr .u64 x3 32))) λ x4 =>
  letP (bAnd .u64 x4 4294967295) λ x5 =>
  letP (IntKind.u64.wrap (x5+(IntKind.u64.wrap (x1*(bShr .u64 a1 32))))) λ x6 =>
  letP (IntKind.u64.wrap ((IntKind.u64.wrap ((IntKind.u64.wrap ((bShr .u64 a0 32)*(bShr .u64 a1 32)))+(bShr .u64 x4 32)))+(bShr .u64 x6 32))) λ x7 =>
  letP (IntKind.u64.wrap (a0*a1)) λ x8 =>
  some (x7,x8)
def Qky (fuel:Nat) (a0:Int) (a1:Int):Option (Int×Int) :=
  bindP (Qis fuel a0 a1) λ y1 =>
  some (y1.1,y1.2)
def Qbi (fuel:Nat) (a0:List Int) (a1:Int):Option ((List Int)) :=
  iteP (decide (a1<0)) (
  none) (
  bindP (Qky fuel (IntKind.u64.wrap (a0.length:Int)) (IntKind.u64.wrap a1)) λ y1 =>
  joinP (λ (s1:Bool) =>
  iteP s1 (
  none) (
  bindP (mk 1 0 (IntKind.i64.wrap y1.2)) λ x1 =>
  letP (lay x1 0 (a0.take x1.length)) λ d1 =>
  letP ((min a0.length x1.length:Nat):Int) λ x2 =>
  loopP (λ k1 (s2:(Int×(List Int))) =>
  iteP (decide (s2.1<(s2.2.length:Int))) (
  bindP (chk (decide ((0:Int)≤s2.1∧s2.1≤(s2.2.length:Int)∧(s2.2.length:Int)≤(s2.2.length:Int)))) λ _ =>
  bindP (chk (decide ((0:Int)≤s2.1∧s2.1≤(s2.2.length:Int)))) λ _ =>
  bindP (chk (decide (s2.1.toNat<s2.2.length∧0<(s2.1:Int).toNat∧(s2.1:Int).toNat≤s2.2.length))) λ _ =>
  letP (lay s2.2 s2.1.toNat (s2.2.take (min ((s2.1:Int).toNat) (s2.2.length-s2.1.toNat)))) λ d2 =>
  letP (IntKind.i64.wrap (s2.1+((min ((s2.1:Int).toNat) (s2.2.length-s2.1.toNat):Nat):Int))) λ x3 =>
  k1 (x3,d2)) (
  some s2.2)) fuel (x2,d1))) λ j1 =>
  iteP (decide (y1.1>0)) (
  j1 (true)) (
  j1 (decide (y1.2>9223372036854775807))))
def Qhb (fuel:Nat) (a0:Int) (a1:Int):Option ((Option Qc)×Int) :=
  joinP (λ (s1:Bool) =>
  iteP s1 (
  some (none,2)) (
  bindP (Qbi fuel ([255]) (IntKind.i64.wrap (a0*a1))) λ y1 =>
  bindP (mk 8 0 a0) λ x1 =>
  some ((some (⟨a1,y1,x1,0,0,0,false⟩:Qc)),0))) λ j1 =>
  iteP (decide (a0<1)) (
  j1 (true)) (
  iteP (decide (a0>16)) (
  j1 (true)) (
  iteP (decide (a1<64)) (
  j1 (true)) (
  j1 (decide (a1>1024)))))
def Qbe (fuel:Nat) (a0:Qc):Option (Int) :=
  some (a0.wear.length:Int)
def Qw (fuel:Nat) (a0:Qc):Option (Int) :=
  some a0.size
def Qbn (fuel:Nat) (a0:Qc) (a1:Int) (a2:Int):Option (Bool) :=
  iteP (decide (a1≥0)) (
  iteP (decide (a1≤(a0.bytes.length:Int))) (
  iteP (decide (a2≥0)) (
  letP (decide (a2≤(IntKind.i64.wrap ((a0.bytes.length:Int)-a1)))) λ x1 =>
  some x1) (
  some false)) (
  some false)) (
  some false)
def Qaw (fuel:Nat) (a0:List Int):Option ((List Int)) :=
  bindP (app 1 ([]) a0) λ x1 =>
  some x1
def Qcj (fuel:Nat) (a0:Qc) (a1:Int) (a2:Int):Option ((List Int)×Int) :=
  iteP a0.down (
  some ([],10)) (
  bindP (Qbn fuel a0 a1 a2) λ y1 =>
  letP (!y1) λ x1 =>
  iteP x1 (
  some ([],2)) (
  bindP (chk (decide ((0:Int)≤a1∧a1≤(IntKind.i64.wrap (a1+a2))∧(IntKind.i64.wrap (a1+a2))≤(a0.bytes.length:Int)))) λ _ =>
  bindP (sub a0.bytes a1 (IntKind.i64.wrap (a1+a2))) λ x2 =>
  bindP (Qaw fuel x2) λ y2 =>
  some (y2,0)))
def Qbs (fuel:Nat) (a0:List Int):Option (Int) :=
  bindP (idx a0 0) λ x1 =>
  bindP (idx a0 1) λ x2 =>
  bindP (idx a0 2) λ x3 =>
  bindP (idx a0 3) λ x4 =>
  letP (bOr .i64 (bOr .i64 (bOr .i64 (IntKind.i64.wrap x1) (bShl .i64 (IntKind.i64.wrap x2) 8)) (bShl .i64 (IntKind.i64.wrap x3) 16)) (bShl .i64 (IntKind.i64.wrap x4) 24)) λ x5 =>
  some x5
def Qax (fuel:Nat) (a0:Qb) (a1:List Int) (a2:Int):Option (Qf×Bool) :=
  bindP (Qbs fuel a1) λ y1 =>
  bindP (sub a1 4 a1.length) λ x1 =>
  bindP (Qbs fuel x1) λ y2 =>
  bindP (idx a1 8) λ x2 =>
  bindP (idx a1 9) λ x3 =>
  joinP (λ (s1:Bool) =>
  joinP (λ (s2:Bool) =>
  iteP s2 (
  letP (decide ((bOr .u16 (IntKind.u16.wrap x2) (bShl .u16 (IntKind.u16.wrap x3) 8))≥1)) λ x4 =>
  iteP x4 (
  letP (decide ((bOr .u16 (IntKind.u16.wrap x2) (bShl .u16 (IntKind.u16.wrap x3) 8))≤65534)) λ x5 =>
  some ((⟨y1,y2,(bOr .u16 (IntKind.u16.wrap x2) (bShl .u16 (IntKind.u16.wrap x3) 8))⟩:Qf),x5)) (
  some ((⟨y1,y2,(bOr .u16 (IntKind.u16.wrap x2) (bShl .u16 (IntKind.u16.wrap x3) 8))⟩:Qf),false))) (
  some ((⟨y1,y2,(bOr .u16 (IntKind.u16.wrap x2) (bShl .u16 (IntKind.u16.wrap x3) 8))⟩:Qf),false))) λ j2 =>
  iteP s1 (
  letP (decide (y2≥1)) λ x6 =>
  iteP x6 (
  letP (decide (y2≤y1)) λ x7 =>
  iteP x7 (
  letP (decide ((IntKind.i64.wrap (y1-y2))≤(IntKind.i64.wrap (a0.sectors-2)))) λ x8 =>
  j2 (x8)) (
  j2 (false))) (
  j2 (false))) (
  j2 (false))) λ j1 =>
  bindP (idx a1 10) λ x9 =>
  letP (x9==0) λ x10 =>
  iteP x10 (
  letP (decide (y1≥1)) λ x11 =>
  iteP x11 (
  letP (decide (y1≤2147483648)) λ x12 =>
  iteP x12 (
  bindP (chk (decide (a0.sectors≠0))) λ _ =>
  letP ((Int.tmod (IntKind.i64.wrap (y1-1)) a0.sectors)==a2) λ x13 =>
  j1 (x13)) (
  j1 (false))) (
  j1 (false))) (
  j1 (false))
def Qby (fuel:Nat) (a0:Int):Option (Int) :=
  letP (IntKind.i64.wrap (Int.tdiv (IntKind.i64.wrap (a0-11)) 17)) λ x1 =>
  some x1
def Qfg (fuel:Nat) (a0:List Int) (a1:Int):Option ((List Int)) :=
  letP (IntKind.i64.wrap (11+(IntKind.i64.wrap (a1*17)))) λ x1 =>
  bindP (sub a0 x1 (IntKind.i64.wrap (x1+17))) λ x2 =>
  some x2
def Qfb (fuel:Nat) (a0:Int):Option (Bool) :=
  letP (a0 != 255) λ x1 =>
  some x1
def Qag (fuel:Nat) (a0:List Int):Option (Int) :=
  loopP (λ k1 (s1:Int) =>
  iteP (decide (s1<(a0.length:Int))) (
  bindP (idx a0 s1) λ x1 =>
  bindP (Qfb fuel x1) λ y1 =>
  iteP y1 (
  some s1) (
  k1 ((IntKind.i64.wrap (s1+1))))) (
  some (-1))) fuel (0)
def Qad (fuel:Nat) (a0:List Int):Option (Bool) :=
  bindP (Qag fuel a0) λ y1 =>
  letP (decide (y1≥0)) λ x1 =>
  some x1
def Qcq (fuel:Nat) (a0:List Int):Option (Bool) :=
  bindP (Qad fuel a0) λ y1 =>
  letP (!y1) λ x1 =>
  some x1
def Qcb (fuel:Nat) (a0:Event_):Option (Bool) :=
  iteP (decide (a0.ID≤65534)) (
  iteP (decide (a0.Time≤4294967294)) (
  letP (decide (a0.Type_≤127)) λ x1 =>
  some x1) (
  some false)) (
  some false)
def Qdt (fuel:Nat) (a0:List Int):Option (Event_×Int) :=
  letP (decide ((a0.length:Int)<16)) λ x1 =>
  iteP x1 (
  some (Event_.z,4)) (
  joinP (λ (s1:Bool) =>
  iteP s1 (
  some (Event_.z,6)) (
  bindP (idx a0 0) λ x2 =>
  bindP (idx a0 1) λ x3 =>
  bindP (idx a0 3) λ x4 =>
  bindP (idx a0 4) λ x5 =>
  bindP (idx a0 5) λ x6 =>
  bindP (idx a0 6) λ x7 =>
  bindP (idx a0 7) λ x8 =>
  bindP (idx a0 8) λ x9 =>
  bindP (idx a0 10) λ x10 =>
  bindP (idx a0 11) λ x11 =>
  bindP (idx a0 12) λ x12 =>
  bindP (sub a0 13 a0.length) λ x13 =>
  bindP (chk (decide (3≤x13.length))) λ _ =>
  bindP (Qcb fuel (⟨(bOr .u16 (IntKind.u16.wrap x2) (bShl .u16 (IntKind.u16.wrap x3) 8)),(bOr .u32 (bOr .u32 (bOr .u32 (IntKind.u32.wrap x4) (bShl .u32 (IntKind.u32.wrap x5) 8)) (bShl .u32 (IntKind.u32.wrap x6) 16)) (bShl .u32 (IntKind.u32.wrap x7) 24)),(bOr .u16 (IntKind.u16.wrap x8) (bShl .u16 (IntKind.u16.wrap x9) 8)),x10,x11,(bAndNot .u8 x12 128),(bAnd .u8 x12 128) != 0,(x13.take 3)⟩:Event_)) λ y1 =>
  iteP (!y1) (
  some (Event_.z,1)) (
  some ((⟨(bOr .u16 (IntKind.u16.wrap x2) (bShl .u16 (IntKind.u16.wrap x3) 8)),(bOr .u32 (bOr .u32 (bOr .u32 (IntKind.u32.wrap x4) (bShl .u32 (IntKind.u32.wrap x5) 8)) (bShl .u32 (IntKind.u32.wrap x6) 16)) (bShl .u32 (IntKind.u32.wrap x7) 24)),(bOr .u16 (IntKind.u16.wrap x8) (bShl .u16 (IntKind.u16.wrap x9) 8)),x10,x11,(bAndNot .u8 x12 128),(bAnd .u8 x12 128) != 0,(x13.take 3)⟩:Event_),0)))) λ j1 =>
  iteP (decide ((a0.length:Int)>16)) (
  j1 (true)) (
  bindP (idx a0 2) λ x14 =>
  iteP (x14 != 2) (
  j1 (true)) (
  bindP (idx a0 9) λ x15 =>
  letP (x15 != 4) λ x16 =>
  j1 (x16))))
def Qbl (fuel:Nat) (a0:Int):Option (Int) :=
  iteP (a0==65534) (
  some 1) (
  letP (IntKind.u16.wrap (a0+1)) λ x1 =>
  some x1)
def Qdg (fuel:Nat) (a0:Qb) (a1:List Int) (a2:Qf):Option (Qb) :=
  letP (a2.sequence==a0.newest) λ x1 =>
  joinP (λ (s1:Qb) =>
  bindP (Qby fuel (a1.length:Int)) λ y1 =>
  loopP (λ k1 (s2:(Int×Qb)) =>
  iteP (decide (s2.1<y1)) (
  bindP (Qfg fuel a1 s2.1) λ y2 =>
  joinP (λ (s3:Bool) =>
  joinP (λ (s4:Qb) =>
  bindP (sub y2 0 16) λ x2 =>
  bindP (Qdt fuel x2) λ y3 =>
  bindP (idx y2 16) λ x3 =>
  joinP (λ (s5:Bool) =>
  iteP s5 (
  k1 ((IntKind.i64.wrap (s2.1+1)),s4)) (
  bindP (app 32 s4.records ([(⟨a2.sequence,y3.1⟩:Qe)])) λ x4 =>
  iteP x1 (
  bindP (Qbl fuel y3.1.ID) λ y4 =>
  letP ({ s4 with next:=y4 }) λ d1 =>
  k1 ((IntKind.i64.wrap (s2.1+1)),{ { { { d1 with d:=s4.d } with records:=x4 } with d:=s4.d } with records:=x4 })) (
  k1 ((IntKind.i64.wrap (s2.1+1)),{ { { s4 with records:=x4 } with d:=s4.d } with records:=x4 })))) λ j4 =>
  iteP (x3 != 0) (
  j4 (true)) (
  iteP (y3.2 != 0) (
  j4 (true)) (
  j4 (y3.1.ID==0)))) λ j3 =>
  iteP s3 (
  letP ({ s2.2 with used:=(IntKind.i64.wrap (s2.1+1)) }) λ d2 =>
  j3 ({ { { { d2 with d:=s2.2.d } with records:=s2.2.records } with d:=s2.2.d } with records:=s2.2.records })) (
  j3 (s2.2))) λ j2 =>
  iteP x1 (
  bindP (Qcq fuel y2) λ y5 =>
  j2 (!y5)) (
  j2 (false))) (
  some s2.2)) fuel (0,s1)) λ j1 =>
  iteP x1 (
  letP ({ a0 with next:=a2.id }) λ d3 =>
  j1 ({ { { { d3 with d:=a0.d } with records:=a0.records } with d:=a0.d } with records:=a0.records })) (
  j1 (a0))
def Qda (fuel:Nat) (a0:Qc) (a1:Int) (a2:Int) (a3:Bool):Option ((Option Qb)×Int) :=
  joinP (λ (s1:Bool) =>
  iteP s1 (
  some (none,2)) (
  bindP (mk 24 ([]:List Int) a2) λ x1 =>
  bindP (mk 24 Qf.z a2) λ x2 =>
  loopP (λ k1 (s2:(Int×Qb×(List (List Int))×(List Qf))) =>
  iteP (decide (s2.1<a2)) (
  bindP (Qw fuel a0) λ y1 =>
  bindP (Qw fuel a0) λ y2 =>
  bindP (Qcj fuel a0 (IntKind.i64.wrap ((IntKind.i64.wrap (a1+s2.1))*y1)) y2) λ y3 =>
  iteP (y3.2 != 0) (
  some (none,y3.2)) (
  bindP (Qax fuel s2.2.1 y3.1 s2.1) λ y4 =>
  iteP y4.2 (
  bindP (idx s2.2.2.1 s2.1) λ x3 =>
  letP (upd s2.2.2.1 s2.1 y3.1) λ d1 =>
  bindP (idx s2.2.2.2 s2.1) λ x4 =>
  letP (upd s2.2.2.2 s2.1 y4.1) λ d2 =>
  iteP (decide (y4.1.sequence>s2.2.1.newest)) (
  letP ({ s2.2.1 with newest:=y4.1.sequence }) λ d3 =>
  letP ({ d3 with tail:=y4.1.tail }) λ d4 =>
  k1 ((IntKind.i64.wrap (s2.1+1)),{ { { { d4 with d:=s2.2.1.d } with records:=s2.2.1.records } with d:=s2.2.1.d } with records:=s2.2.1.records },d1,d2)) (
  k1 ((IntKind.i64.wrap (s2.1+1)),s2.2.1,d1,d2))) (
  k1 ((IntKind.i64.wrap (s2.1+1)),s2.2.1,s2.2.2.1,s2.2.2.2)))) (
  loopP (λ k2 (s3:((List (List Int))×(List Qf)×Int×Qb)) =>
  joinP (λ (s4:Bool) =>
  iteP s4 (
  bindP (chk (decide (a2≠0))) λ _ =>
  letP (Int.tmod (IntKind.i64.wrap (s3.2.2.1-1)) a2) λ x5 =>
  bindP (idx s3.2.1 x5) λ x6 =>
  iteP (x6.sequence==s3.2.2.1) (
  bindP (idx s3.1 x5) λ x7 =>
  bindP (idx s3.2.1 x5) λ x8 =>
  bindP (Qdg fuel s3.2.2.2 x7 x8) λ y5 =>
  letP (IntKind.i64.wrap (s3.2.2.1+1)) λ x9 =>
  k2 (s3.1,s3.2.1,x9,y5)) (
  letP (IntKind.i64.wrap (s3.2.2.1+1)) λ x10 =>
  k2 (s3.1,s3.2.1,x10,s3.2.2.2))) (
  some ((some s3.2.2.2),0))) λ j2 =>
  iteP (decide (s3.2.2.1≤s3.2.2.2.newest)) (
  j2 (decide (s3.2.2.1>0))) (
  j2 (false))) fuel (s2.2.2.1,s2.2.2.2,s2.2.1.tail,s2.2.1))) fuel (0,(⟨true,a1,a2,a3,0,0,0,1,[],false,0,false,false⟩:Qb),x1,x2))) λ j1 =>
  iteP (decide (a2<2)) (
  j1 (true)) (
  iteP (decide (a1<0)) (
  j1 (true)) (
  bindP (Qbe fuel a0) λ y6 =>
  iteP (decide (a2>y6)) (
  j1 (true)) (
  bindP (Qbe fuel a0) λ y7 =>
  j1 (decide (a1>(IntKind.i64.wrap (y7-a2)))))))
def Qch (fuel:Nat) (a0:Sensor_) (a1:Int):Option (Bool) :=
  letP (a0.Number==a1) λ x1 =>
  some x1
def Qo (fuel:Nat) (a0:List Sensor_) (a1_0:Int):Option (Int) :=
  loopP (λ k1 (s1:Int) =>
  iteP (decide (s1<(a0.length:Int))) (
  bindP (idx a0 s1) λ x1 =>
  bindP (Qch fuel x1 a1_0) λ y1 =>
  iteP y1 (
  some s1) (
  k1 ((IntKind.i64.wrap (s1+1))))) (
  some (-1))) fuel (0)
def Qak (fuel:Nat) (a0:Qd) (a1:Int):Option (Int) :=
  bindP (Qo fuel a0.sensors a1) λ y1 =>
  some y1
def Qbw (fuel:Nat) (a0:Qd) (a1:List Sample_):Option (Int) :=
  loopP (λ k1 (s1:Int) =>
  iteP (decide (s1<(a1.length:Int))) (
  bindP (idx a1 s1) λ x1 =>
  joinP (λ (s2:Bool) =>
  iteP s2 (
  some 1) (
  bindP (Qak fuel a0 x1.Number) λ y1 =>
  iteP (decide (y1<0)) (
  some 8) (
  bindP (idx a0.sensors y1) λ x2 =>
  joinP (λ (s3:Bool) =>
  iteP s3 (
  some 1) (
  letP ((bAndNot .u16 x1.States x2.States) != 0) λ x3 =>
  iteP x3 (
  some 2) (
  k1 ((IntKind.i64.wrap (s1+1)))))) λ j2 =>
  iteP (!x2.Discrete) (
  iteP (x1.States != 0) (
  j2 (true)) (
  iteP x2.Discrete (
  letP (x1.Raw != 0) λ x4 =>
  j2 (x4)) (
  j2 (false)))) (
  iteP x2.Discrete (
  letP (x1.Raw != 0) λ x5 =>
  j2 (x5)) (
  j2 (false)))))) λ j1 =>
  letP (decide (s1>0)) λ x6 =>
  iteP x6 (
  bindP (idx a1 (IntKind.i64.wrap (s1-1))) λ x7 =>
  iteP (decide (x1.Number≤x7.Number)) (
  j1 (true)) (
  iteP (!x1.OK) (
  iteP (x1.Raw != 0) (
  j1 (true)) (
  j1 (x1.States != 0))) (
  j1 (false)))) (
  iteP (!x1.OK) (
  iteP (x1.Raw != 0) (
  j1 (true)) (
  j1 (x1.States != 0))) (
  j1 (false)))) (
  some 0)) fuel (0)
def Qee (fuel:Nat) (a0:Entity_) (a1:List Entity_):Option (Bool) :=
  bindP (Qu fuel a1 a0) λ y1 =>
  some y1
def Qz (fuel:Nat) (a0:List Entity_) (a1_0:List Entity_):Option (Int) :=
  loopP (λ k1 (s1:Int) =>
  iteP (decide (s1<(a0.length:Int))) (
  bindP (idx a0 s1) λ x1 =>
  bindP (Qee fuel x1 a1_0) λ y1 =>
  iteP y1 (
  some s1) (
  k1 ((IntKind.i64.wrap (s1+1))))) (
  some (-1))) fuel (0)
def Qv (fuel:Nat) (a0:List Entity_) (a1_0:List Entity_):Option (Bool) :=
  bindP (Qz fuel a0 a1_0) λ y1 =>
  letP (decide (y1≥0)) λ x1 =>
  some x1
def Qgb (fuel:Nat) (a0:List Association_) (a1:List Entity_) (a2:Entity_):Option (Bool) :=
  bindP (Qfk fuel a0 a2) λ y1 =>
  bindP (app 2 y1 ([a2])) λ x1 =>
  bindP (Qv fuel x1 a1) λ y2 =>
  letP (!y2) λ x2 =>
  some x2
def Qdo (fuel:Nat) (a0:List Association_) (a1:List Entity_) (a2:Entity_):Option (Bool×Int) :=
  bindP (Qeo fuel a0) λ y1 =>
  iteP (y1 != 0) (
  some (false,y1)) (
  bindP (Qgb fuel a0 a1 a2) λ y2 =>
  some (y2,0))
def Qfj (fuel:Nat) (a0:Sensor_) (a1:Int) (a2:Int):Option (Int×(List Change_)×Int) :=
  joinP (λ (s1:Bool) =>
  iteP s1 (
  some (0,[],1)) (
  letP ((bAndNot .u16 (bOr .u16 a1 a2) a0.States) != 0) λ x1 =>
  iteP x1 (
  some (0,[],2)) (
  loopP (λ k1 (s2:(Int×(List Change_))) =>
  iteP (decide (s2.1<15)) (
  bindP (chk (decide (0≤s2.1))) λ _ =>
  iteP ((bAnd .u16 (bShr .u16 (bXor .u16 a1 a2) s2.1) 1)==1) (
  bindP (chk (decide (0≤s2.1))) λ _ =>
  bindP (app 16 s2.2 ([(⟨s2.1,(bAnd .u16 (bShr .u16 a2 s2.1) 1)==1⟩:Change_)])) λ x2 =>
  k1 ((IntKind.i64.wrap (s2.1+1)),x2)) (
  k1 ((IntKind.i64.wrap (s2.1+1)),s2.2))) (
  some (a2,s2.2,0))) fuel (0,[])))) λ j1 =>
  iteP (!a0.Discrete) (
  j1 (true)) (
  bindP (Qbo fuel a0) λ y1 =>
  letP (!y1) λ x3 =>
  j1 (x3))
def Qdi (fuel:Nat) (a0:Sensor_) (a1:Filter_):Option (Bool) :=
  bindP (Qbo fuel a0) λ y1 =>
  joinP (λ (s1:Bool) =>
  iteP s1 (
  some false) (
  iteP (decide (a1.Missing<3)) (
  some true) (
  letP ((a1.Window.length:Int)==0) λ x1 =>
  some x1))) λ j1 =>
  iteP (!y1) (
  j1 (true)) (
  iteP (decide ((a1.Window.length:Int)>a0.Samples)) (
  j1 (true)) (
  iteP (decide (a1.Missing<0)) (
  j1 (true)) (
  j1 (decide (a1.Missing>3)))))
def Qfh (fuel:Nat) (a0:Sensor_) (a1:Filter_) (a2:Int) (a3:Bool):Option (Filter_×Int) :=
  bindP (Qdi fuel a0 a1) λ y1 =>
  iteP (!y1) (
  some (Filter_.z,1)) (
  bindP (Qaw fuel a1.Window) λ y2 =>
  iteP a3 (
  bindP (app 1 y2 ([a2])) λ x1 =>
  joinP (λ (s1:Filter_) =>
  some (s1,0)) λ j1 =>
  iteP (decide ((x1.length:Int)>a0.Samples)) (
  bindP (sub x1 1 x1.length) λ x2 =>
  j1 ((⟨x2,0⟩:Filter_))) (
  j1 ((⟨x1,0⟩:Filter_)))) (
  iteP ((min (IntKind.i64.wrap (a1.Missing+1)) 3)==3) (
  some ((⟨[],(min (IntKind.i64.wrap (a1.Missing+1)) 3)⟩:Filter_),0)) (
  some ((⟨y2,(min (IntKind.i64.wrap (a1.Missing+1)) 3)⟩:Filter_),0))))
def Qdh (fuel:Nat) (a0:List Int):Option (((List Int))) :=
  some (a0)
def Qef (fuel:Nat) (a0:Int) (a1:Int):Option (Int) :=
  bindP (Qbp fuel a0) λ y1 =>
  bindP (Qbp fuel a1) λ y2 =>
  iteP y1 (
  iteP y2 (
  some 0) (
  some (-1))) (
  iteP y2 (
  some 1) (
  iteP (decide (a0<a1)) (
  some (-1)) (
  iteP (decide (a0>a1)) (
  some 1) (
  some 0))))
def Qkr (fuel:Nat) (a0:Int):Option (Int) :=
  joinP (λ (s1:(Int×Int)) =>
  joinP (λ (s2:(Int×Int)) =>
  iteP (decide (s2.1≥256)) (
  letP (IntKind.i64.wrap (s2.2+8)) λ x1 =>
  bindP (idx ([0,1,2,2,3,3,3,3,4,4,4,4,4,4,4,4,5,5,5,5,5,5,5,5,5,5,5,5,5,5,5,5,6,6,6,6,6,6,6,6,6,6,6,6,6,6,6,6,6,6,6,6,6,6,6,6,6,6,6,6,6,6,6,6,7,7,7,7,7,7,7,7,7,7,7,7,7,7,7,7,7,7,7,7,7,7,7,7,7,7,7,7,7,7,7,7,7,7,7,7,7,7,7,7,7,7,7,7,7,7,7,7,7,7,7,7,7,7,7,7,7,7,7,7,7,7,7,7,8,8,8,8,8,8,8,8,8,8,8,8,8,8,8,8,8,8,8,8,8,8,8,8,8,8,8,8,8,8,8,8,8,8,8,8,8,8,8,8,8,8,8,8,8,8,8,8,8,8,8,8,8,8,8,8,8,8,8,8,8,8,8,8,8,8,8,8,8,8,8,8,8,8,8,8,8,8,8,8,8,8,8,8,8,8,8,8,8,8,8,8,8,8,8,8,8,8,8,8,8,8,8,8,8,8,8,8,8,8,8,8,8,8,8,8,8,8,8,8,8,8,8,8,8,8,8,8]) (IntKind.u8.wrap (bShr .u64 s2.1 8))) λ x2 =>
  letP (IntKind.i64.wrap (x1+(IntKind.i64.wrap x2))) λ x3 =>
  some x3) (
  bindP (idx ([0,1,2,2,3,3,3,3,4,4,4,4,4,4,4,4,5,5,5,5,5,5,5,5,5,5,5,5,5,5,5,5,6,6,6,6,6,6,6,6,6,6,6,6,6,6,6,6,6,6,6,6,6,6,6,6,6,6,6,6,6,6,6,6,7,7,7,7,7,7,7,7,7,7,7,7,7,7,7,7,7,7,7,7,7,7,7,7,7,7,7,7,7,7,7,7,7,7,7,7,7,7,7,7,7,7,7,7,7,7,7,7,7,7,7,7,7,7,7,7,7,7,7,7,7,7,7,7,8,8,8,8,8,8,8,8,8,8,8,8,8,8,8,8,8,8,8,8,8,8,8,8,8,8,8,8,8,8,8,8,8,8,8,8,8,8,8,8,8,8,8,8,8,8,8,8,8,8,8,8,8,8,8,8,8,8,8,8,8,8,8,8,8,8,8,8,8,8,8,8,8,8,8,8,8,8,8,8,8,8,8,8,8,8,8,8,8,8,8,8,8,8,8,8,8,8,8,8,8,8,8,8,8,8,8,8,8,8,8,8,8,8,8,8,8,8,8,8,8,8,8,8,8,8,8,8]) (IntKind.u8.wrap s2.1)) λ x4 =>
  letP (IntKind.i64.wrap (s2.2+(IntKind.i64.wrap x4))) λ x5 =>
  some x5)) λ j2 =>
  iteP (decide (s1.1≥65536)) (
  letP (IntKind.i64.wrap (s1.2+16)) λ x6 =>
  j2 ((bShr .u64 s1.1 16),x6)) (
  j2 (s1.1,s1.2))) λ j1 =>
  iteP (decide (a0≥4294967296)) (
  j1 ((bShr .u64 a0 32),32)) (
  j1 (a0,0))
def Qkq (fuel:Nat) (a0:Int):Option (Int) :=
  bindP (Qkr fuel a0) λ y1 =>
  some y1
def Qaz {σ:Type} (fuel:Nat) (bd_:σ→Int→Option σ) (s_:σ) (a1:List Int):Option (σ) :=
  loopP (λ k1 (s1:(Int×σ)) =>
  iteP (decide (s1.1<(a1.length:Int))) (
  bindP (idx a1 s1.1) λ x1 =>
  bindP (bd_ s1.2 x1) λ y1 =>
  k1 ((IntKind.i64.wrap (s1.1+1)),y1)) (
  some s1.2)) fuel (0,s_)
def Qy (fuel:Nat) (a1_0:List Int):Option ((List Int)) :=
  bindP (Qaz fuel (λ (s1:((List Int))) (x1:Int) =>
  bindP (app 1 s1 ([x1])) λ x2 =>
  some (x2)) ([]) a1_0) λ y1 =>
  some y1
def Qx (fuel:Nat) (a0_0:List Int):Option ((List Int)) :=
  bindP (Qy fuel a0_0) λ y1 =>
  some y1
def Qcf (fuel:Nat) (a0:Int) (a1:Int) (a2:Sensor_):Option (Int) :=
  bindP (Qas fuel a2.Conversion.Signed a0) λ y1 =>
  bindP (Qas fuel a2.Conversion.Signed a1) λ y2 =>
  bindP (Qef fuel y1 y2) λ y3 =>
  some y3
def Qt (fuel:Nat) (a0:List Int) (a1:Int) (a2:Int) (a3_0:Sensor_):Option ((List Int)) :=
  letP (IntKind.i64.wrap (a1+1)) λ x1 =>
  loopP (λ k1 (s1:(Int×(List Int))) =>
  iteP (decide (s1.1<a2)) (
  loopP (λ k2 (s2:(Int×(List Int))) =>
  joinP (λ (s3:Bool) =>
  iteP s3 (
  bindP (idx s2.2 (IntKind.i64.wrap (s2.1-1))) λ x2 =>
  bindP (idx s2.2 s2.1) λ x3 =>
  letP (upd s2.2 s2.1 x2) λ d1 =>
  bindP (idx d1 (IntKind.i64.wrap (s2.1-1))) λ x4 =>
  letP (upd d1 (IntKind.i64.wrap (s2.1-1)) x3) λ d2 =>
  letP (IntKind.i64.wrap (s2.1-1)) λ x5 =>
  k2 (x5,d2)) (
  letP (IntKind.i64.wrap (s1.1+1)) λ x6 =>
  k1 (x6,s2.2))) λ j1 =>
  letP (decide (s2.1>a1)) λ x7 =>
  iteP x7 (
  bindP (idx s2.2 s2.1) λ x8 =>
  bindP (idx s2.2 (IntKind.i64.wrap (s2.1-1))) λ x9 =>
  bindP (Qcf fuel x8 x9 a3_0) λ y1 =>
  j1 (decide (y1<0))) (
  j1 (false))) fuel (s1.1,s1.2)) (
  some s1.2)) fuel (x1,a0)
def Qac (fuel:Nat) (a0:List Int) (a1:Int) (a2:Int) (a3:Int) (a4_0:Sensor_):Option ((List Int)) :=
  loopP (λ k1 (s1:Unit) =>
  letP (IntKind.i64.wrap (a2-a1)) λ x1 =>
  iteP (decide (x1≤12)) (
  bindP (Qt fuel a0 a1 a2 a4_0) λ y1 =>
  some y1) (
  iteP (a3==0) (
  none) (
  iteP (!true) (
  none) (
  none)))) fuel ()
def Qae (fuel:Nat) (a0:List Int) (a1_0:Sensor_):Option ((List Int)) :=
  bindP (Qkq fuel (IntKind.u64.wrap (a0.length:Int))) λ y1 =>
  bindP (Qac fuel a0 0 (a0.length:Int) y1 a1_0) λ y2 =>
  some y2
def Qm (fuel:Nat) (a0_0:List Int) (a1_0:Sensor_):Option ((List Int)) :=
  bindP (Qx fuel a0_0) λ y1 =>
  bindP (Qae fuel y1 a1_0) λ y2 =>
  some y2
def Qdw (fuel:Nat) (a0:Sensor_) (a1:Filter_):Option (Int×Bool) :=
  bindP (Qdi fuel a0 a1) λ y1 =>
  joinP (λ (s1:Bool) =>
  iteP s1 (
  some (0,false)) (
  bindP (Qdh fuel a1.Window) λ y2 =>
  bindP (Qm fuel y2 a0) λ y3 =>
  bindP (idx y3 (IntKind.i64.wrap (Int.tdiv (y3.length:Int) 2))) λ x1 =>
  some (x1,true))) λ j1 =>
  iteP (!y1) (
  j1 (true)) (
  j1 ((a1.Window.length:Int) != a0.Samples))
def Qdr (fuel:Nat) (a0:Sensor_):Option (Bool) :=
  iteP (!a0.Discrete) (
  bindP (Qbo fuel a0) λ y1 =>
  some y1) (
  some false)
def Qdp (fuel:Nat) (a0:Sensor_) (a1:Int) (a2:Int):Option (Int×Int) :=
  bindP (Qas fuel a0.Conversion.Signed a2) λ y1 =>
  bindP (idx a0.Limits.Raw a1) λ x1 =>
  bindP (chk (Nat.beq a0.Limits.Raw.length 6)) λ _ =>
  bindP (Qas fuel a0.Conversion.Signed x1) λ y2 =>
  iteP (decide (a1≤2)) (
  letP (IntKind.i64.wrap a0.HystLower) λ x2 =>
  some ((IntKind.i64.wrap (y2-y1)),x2)) (
  letP (IntKind.i64.wrap a0.HystUpper) λ x3 =>
  some ((IntKind.i64.wrap (y1-y2)),x3))
def Qeu (fuel:Nat) (a0:Sensor_) (a1:Int) (a2:Int):Option (Int) :=
  loopP (λ k1 (s1:(Int×Int)) =>
  iteP (decide (s1.2<6)) (
  bindP (chk (decide (0≤s1.2))) λ _ =>
  letP (bAnd .u8 (bShl .u8 1 s1.2) a0.Limits.Mask) λ x1 =>
  bindP (Qdp fuel a0 s1.2 a2) λ y1 =>
  joinP (λ (s2:Bool) =>
  iteP s2 (
  k1 ((bOr .u8 s1.1 x1),(IntKind.i64.wrap (s1.2+1)))) (
  k1 (s1.1,(IntKind.i64.wrap (s1.2+1))))) λ j1 =>
  iteP (decide (y1.1≥0)) (
  j1 (true)) (
  iteP ((bAnd .u8 a1 x1) != 0) (
  j1 (decide (y1.1≥(IntKind.i64.wrap (0-y1.2))))) (
  j1 (false)))) (
  some s1.1)) fuel (0,0)
def Qem (fuel:Nat) (a0:Sensor_) (a1:Int) (a2:Int):Option (Int×(List Change_)×Int) :=
  bindP (Qdr fuel a0) λ y1 =>
  letP (!y1) λ x1 =>
  iteP x1 (
  some (0,[],1)) (
  letP ((bAndNot .u8 a1 a0.Limits.Mask) != 0) λ x2 =>
  iteP x2 (
  some (0,[],2)) (
  bindP (Qeu fuel a0 a1 a2) λ y2 =>
  loopP (λ k1 (s1:(Int×(List Change_))) =>
  iteP (decide (s1.1<6)) (
  bindP (chk (decide (0≤s1.1))) λ _ =>
  iteP ((bAnd .u8 (bShr .u8 (bXor .u8 a1 y2) s1.1) 1)==1) (
  bindP (chk (decide (0≤s1.1))) λ _ =>
  bindP (app 16 s1.2 ([(⟨s1.1,(bAnd .u8 (bShr .u8 y2 s1.1) 1)==1⟩:Change_)])) λ x3 =>
  k1 ((IntKind.i64.wrap (s1.1+1)),x3)) (
  k1 ((IntKind.i64.wrap (s1.1+1)),s1.2))) (
  some (y2,s1.2,0))) fuel (0,[])))
def Qcc (fuel:Nat) (a0:Qd) (a1:Int) (a2:Sample_):Option ((List Change_)×Int×Qd) :=
  bindP (idx a0.sensors a1) λ x1 =>
  iteP x1.Discrete (
  joinP (λ (s1:((List Change_)×Qd)) =>
  some (s1.1,0,s1.2)) λ j1 =>
  iteP a2.OK (
  bindP (idx a0.states a1) λ x2 =>
  bindP (Qfj fuel x1 x2 a2.States) λ y1 =>
  letP (upd a0.states a1 y1.1) λ d1 =>
  j1 (y1.2.1,{ { { a0 with states:=d1 } with filters:=a0.filters } with states:=d1 })) (
  j1 ([],a0))) (
  bindP (idx a0.filters a1) λ x3 =>
  bindP (Qfh fuel x1 x3 a2.Raw a2.OK) λ y2 =>
  letP (upd a0.filters a1 y2.1) λ d2 =>
  bindP (idx d2 a1) λ x4 =>
  bindP (Qdw fuel x1 x4) λ y3 =>
  iteP (!y3.2) (
  some ([],0,{ { a0 with filters:=d2 } with states:=a0.states })) (
  bindP (idx a0.states a1) λ x5 =>
  bindP (Qem fuel x1 (IntKind.u8.wrap x5) y3.1) λ y4 =>
  bindP (idx a0.states a1) λ x6 =>
  letP (upd a0.states a1 (IntKind.u16.wrap y4.1)) λ d3 =>
  some (y4.2.1,y3.1,{ { a0 with filters:=d2 } with states:=d3 })))
def Qgl (fuel:Nat) (a0:Int) (a1:Int) (a2:Int) (a3:Bool):Option (Event_×Int) :=
  joinP (λ (s1:Bool) =>
  iteP s1 (
  some (Event_.z,2)) (
  some ((⟨0,0,32,a0,a1,111,!a3,[(IntKind.u8.wrap a2),255,255]⟩:Event_),0))) λ j1 =>
  iteP (decide (a2<0)) (
  j1 (true)) (
  j1 (decide (a2>14)))
def Qei (fuel:Nat) (a0:Int) (a1:Int) (a2:Int) (a3:Bool) (a4:Int) (a5:Int):Option (Event_×Int) :=
  joinP (λ (s1:Bool) =>
  iteP s1 (
  some (Event_.z,2)) (
  bindP (idx ([0,2,4,7,9,11]) a2) λ x1 =>
  some ((⟨0,0,32,a0,a1,1,!a3,[(IntKind.u8.wrap (80+x1)),a4,a5]⟩:Event_),0))) λ j1 =>
  iteP (decide (a2<0)) (
  j1 (true)) (
  j1 (decide (a2≥6)))
def Qes (fuel:Nat) (a0:Sensor_) (a1:List Change_) (a2:Int):Option ((List Event_)) :=
  loopP (λ k1 (s1:(Int×(List Event_))) =>
  iteP (decide (s1.1<(a1.length:Int))) (
  bindP (idx a1 s1.1) λ x1 =>
  joinP (λ (s2:Int) =>
  bindP (chk (decide (0≤x1.Index))) λ _ =>
  iteP ((bAnd .u16 (bShr .u16 s2 x1.Index) 1)==0) (
  k1 ((IntKind.i64.wrap (s1.1+1)),s1.2)) (
  joinP (λ (s3:Event_) =>
  bindP (app 20 s1.2 ([s3])) λ x2 =>
  k1 ((IntKind.i64.wrap (s1.1+1)),x2)) λ j2 =>
  iteP a0.Discrete (
  bindP (Qgl fuel a0.Type_ a0.Number x1.Index x1.Asserted) λ y1 =>
  j2 (y1.1)) (
  bindP (idx a0.Limits.Raw x1.Index) λ x3 =>
  bindP (chk (Nat.beq a0.Limits.Raw.length 6)) λ _ =>
  bindP (Qei fuel a0.Type_ a0.Number x1.Index x1.Asserted a2 x3) λ y2 =>
  j2 (y2.1)))) λ j1 =>
  iteP x1.Asserted (
  j1 (a0.Assert)) (
  j1 (a0.Deassert))) (
  some s1.2)) fuel (0,[])
def Qci (fuel:Nat) (a0:Sample_) (a1:Sensor_):Option (Bool) :=
  letP (a0.Number==a1.Number) λ x1 =>
  some x1
def Qn (fuel:Nat) (a0:List Sample_) (a1_0:Sensor_):Option (Int) :=
  loopP (λ k1 (s1:Int) =>
  iteP (decide (s1<(a0.length:Int))) (
  bindP (idx a0 s1) λ x1 =>
  bindP (Qci fuel x1 a1_0) λ y1 =>
  iteP y1 (
  some s1) (
  k1 ((IntKind.i64.wrap (s1+1))))) (
  some (-1))) fuel (0)
def Qbd (fuel:Nat) (a0:Qd) (a1:List Sample_) (a2:List Entity_) (a3:Bool):Option ((List Event_)×Int×Qd) :=
  bindP (Qbw fuel a0 a1) λ y1 =>
  iteP (y1 != 0) (
  some ([],y1,a0)) (
  loopP (λ k1 (s1:(Int×Qd×(List Event_))) =>
  iteP (decide (s1.1<(a0.sensors.length:Int))) (
  bindP (idx a0.sensors s1.1) λ x1 =>
  bindP (Qdo fuel s1.2.1.l a2 x1.Entity) λ y2 =>
  joinP (λ (s2:Bool) =>
  iteP s2 (
  bindP (idx s1.2.1.filters s1.1) λ x2 =>
  letP (upd s1.2.1.filters s1.1 Filter_.z) λ d1 =>
  k1 ((IntKind.i64.wrap (s1.1+1)),{ { { { s1.2.1 with filters:=d1 } with states:=s1.2.1.states } with filters:=d1 } with states:=s1.2.1.states },s1.2.2)) (
  bindP (Qn fuel a1 x1) λ y3 =>
  joinP (λ (s3:Sample_) =>
  bindP (Qcc fuel s1.2.1 s1.1 s3) λ y4 =>
  bindP (Qes fuel x1 y4.1 y4.2.1) λ y5 =>
  bindP (app 20 s1.2.2 y5) λ x3 =>
  k1 ((IntKind.i64.wrap (s1.1+1)),y4.2.2,x3)) λ j2 =>
  iteP (decide (y3≥0)) (
  bindP (idx a1 y3) λ x4 =>
  j2 (x4)) (
  j2 ((⟨x1.Number,false,0,0⟩:Sample_))))) λ j1 =>
  iteP (!y2.1) (
  j1 (true)) (
  iteP x1.HostOn (
  j1 (!a3)) (
  j1 (false)))) (
  some (s1.2.2,0,s1.2.1))) fuel (0,a0,[]))
def Qgg (fuel:Nat) (a0:Qc):Option (Bool) :=
  some a0.down
def Qbk (fuel:Nat) (a0:Qb) (ad:Qc):Option (Bool×Qb×Qc) :=
  joinP (λ (s1:Bool) =>
  iteP s1 (
  some (true,(⟨false,0,0,false,0,0,0,0,[],false,0,false,true⟩:Qb),ad)) (
  some (a0.ended,a0,ad))) λ j1 =>
  iteP a0.ended (
  j1 (true)) (
  bindP (chk a0.d) λ _ =>
  bindP (Qgg fuel ad) λ y1 =>
  j1 (y1))
def Qck (fuel:Nat) (a0:Qc):Option (Bool×Qc) :=
  letP ({ a0 with steps:=(IntKind.i64.wrap (a0.steps+1)) }) λ d1 =>
  iteP (decide (d1.left>0)) (
  letP ({ d1 with left:=(IntKind.i64.wrap (d1.left-1)) }) λ d2 =>
  letP ({ d2 with down:=d2.left==0 }) λ d3 =>
  some (d3.down,{ { d3 with bytes:=a0.bytes } with wear:=a0.wear })) (
  some (d1.down,{ { d1 with bytes:=a0.bytes } with wear:=a0.wear }))
def Qct (fuel:Nat) (a0:Qc) (a1:Int):Option (Int×Qc) :=
  iteP a0.down (
  some (10,a0)) (
  joinP (λ (s1:Bool) =>
  iteP s1 (
  some (2,a0)) (
  bindP (idx a0.wear a1) λ x1 =>
  letP (upd a0.wear a1 (IntKind.i64.wrap (x1+1))) λ d1 =>
  bindP (Qck fuel ({ a0 with wear:=d1 })) λ y1 =>
  joinP (λ (s2:Int) =>
  bindP (chk (decide ((0:Int)≤(IntKind.i64.wrap (a1*y1.2.size))∧(IntKind.i64.wrap (a1*y1.2.size))≤(IntKind.i64.wrap ((IntKind.i64.wrap (a1+1))*y1.2.size))∧(IntKind.i64.wrap ((IntKind.i64.wrap (a1+1))*y1.2.size))≤(y1.2.bytes.length:Int)))) λ _ =>
  bindP (chk (decide ((0:Int)≤(IntKind.i64.wrap (a1*y1.2.size))∧(IntKind.i64.wrap (a1*y1.2.size))≤(IntKind.i64.wrap ((IntKind.i64.wrap (a1+1))*y1.2.size))∧(IntKind.i64.wrap ((IntKind.i64.wrap (a1+1))*y1.2.size))≤(y1.2.bytes.length:Int)))) λ _ =>
  loopP (λ k1 (s3:(Int×Qc)) =>
  iteP (decide (s3.1<((IntKind.i64.wrap ((IntKind.i64.wrap (a1+1))*y1.2.size))-(IntKind.i64.wrap (a1*y1.2.size))))) (
  bindP (chk (decide ((0:Int)≤(IntKind.i64.wrap (a1*y1.2.size))∧(IntKind.i64.wrap (a1*y1.2.size))≤(IntKind.i64.wrap ((IntKind.i64.wrap (a1+1))*y1.2.size))∧(IntKind.i64.wrap ((IntKind.i64.wrap (a1+1))*y1.2.size))≤(s3.2.bytes.length:Int)))) λ _ =>
  bindP (chk (decide ((0:Int)≤s3.1∧s3.1<(IntKind.i64.wrap ((IntKind.i64.wrap (a1+1))*y1.2.size))-(IntKind.i64.wrap (a1*y1.2.size))))) λ _ =>
  bindP (idx s3.2.bytes ((IntKind.i64.wrap (a1*y1.2.size))+s3.1)) λ x2 =>
  bindP (chk (decide ((0:Int)≤(IntKind.i64.wrap (a1*y1.2.size))∧(IntKind.i64.wrap (a1*y1.2.size))≤(IntKind.i64.wrap ((IntKind.i64.wrap (a1+1))*y1.2.size))∧(IntKind.i64.wrap ((IntKind.i64.wrap (a1+1))*y1.2.size))≤(s3.2.bytes.length:Int)))) λ _ =>
  bindP (chk (decide ((0:Int)≤s3.1∧s3.1<(IntKind.i64.wrap ((IntKind.i64.wrap (a1+1))*y1.2.size))-(IntKind.i64.wrap (a1*y1.2.size))))) λ _ =>
  letP (upd s3.2.bytes ((IntKind.i64.wrap (a1*y1.2.size))+s3.1) (bOr .u8 x2 s2)) λ d2 =>
  k1 ((IntKind.i64.wrap (s3.1+1)),{ { { { s3.2 with bytes:=d2 } with wear:=s3.2.wear } with bytes:=d2 } with wear:=s3.2.wear })) (
  iteP y1.1 (
  some (10,s3.2)) (
  some (0,s3.2)))) fuel (0,y1.2)) λ j2 =>
  iteP y1.1 (
  j2 (y1.2.torn)) (
  j2 (255)))) λ j1 =>
  iteP (decide (a1<0)) (
  j1 (true)) (
  letP (decide (a1≥(a0.wear.length:Int))) λ x3 =>
  j1 (x3)))
def Qcv (fuel:Nat) (a0:Int):Option ((List Int)) :=
  some ([(IntKind.u8.wrap a0),(IntKind.u8.wrap (bShr .i64 a0 8)),(IntKind.u8.wrap (bShr .i64 a0 16)),(IntKind.u8.wrap (bShr .i64 a0 24))])
def Qao (fuel:Nat) (a0:Qc) (a1:Int) (a2:List Int):Option (Int×Qc) :=
  iteP a0.down (
  some (10,a0)) (
  bindP (Qbn fuel a0 a1 (a2.length:Int)) λ y1 =>
  letP (!y1) λ x1 =>
  iteP x1 (
  some (2,a0)) (
  loopP (λ k1 (s1:(Int×Qc)) =>
  iteP (decide (s1.1<(a2.length:Int))) (
  bindP (idx a2 s1.1) λ x2 =>
  bindP (Qck fuel s1.2) λ y2 =>
  iteP y2.1 (
  bindP (idx y2.2.bytes (IntKind.i64.wrap (a1+s1.1))) λ x3 =>
  letP (upd y2.2.bytes (IntKind.i64.wrap (a1+s1.1)) (bAnd .u8 x3 (bOr .u8 x2 y2.2.torn))) λ d1 =>
  some (10,{ { y2.2 with bytes:=d1 } with wear:=y2.2.wear })) (
  bindP (idx y2.2.bytes (IntKind.i64.wrap (a1+s1.1))) λ x4 =>
  letP (upd y2.2.bytes (IntKind.i64.wrap (a1+s1.1)) (bAnd .u8 x4 x2)) λ d2 =>
  k1 ((IntKind.i64.wrap (s1.1+1)),{ { { { y2.2 with bytes:=d2 } with wear:=y2.2.wear } with bytes:=d2 } with wear:=y2.2.wear }))) (
  some (0,s1.2))) fuel (0,a0)))
def Qbv (fuel:Nat) (a0:Qe) (a1:Int):Option (Bool) :=
  letP (decide (a0.sequence<a1)) λ x1 =>
  some x1
def Qp (fuel:Nat) (a0:List Qe) (a1_0:Int):Option (Int) :=
  loopP (λ k1 (s1:Int) =>
  iteP (decide (s1<(a0.length:Int))) (
  bindP (idx a0 s1) λ x1 =>
  bindP (Qbv fuel x1 a1_0) λ y1 =>
  iteP y1 (
  some s1) (
  k1 ((IntKind.i64.wrap (s1+1))))) (
  some (-1))) fuel (0)
def Ql (fuel:Nat) (a0:List Qe) (a1_0:Int):Option ((List Qe)) :=
  bindP (Qp fuel a0 a1_0) λ y1 =>
  iteP (y1==(-1)) (
  some a0) (
  letP (IntKind.i64.wrap (y1+1)) λ x1 =>
  loopP (λ k1 (s1:(Int×Int×(List Qe))) =>
  iteP (decide (s1.2.1<(s1.2.2.length:Int))) (
  bindP (idx s1.2.2 s1.2.1) λ x2 =>
  bindP (Qbv fuel x2 a1_0) λ y2 =>
  iteP (!y2) (
  bindP (idx s1.2.2 s1.1) λ x3 =>
  letP (upd s1.2.2 s1.1 x2) λ d1 =>
  letP (IntKind.i64.wrap (s1.1+1)) λ x4 =>
  letP (IntKind.i64.wrap (s1.2.1+1)) λ x5 =>
  k1 (x4,x5,d1)) (
  letP (IntKind.i64.wrap (s1.2.1+1)) λ x6 =>
  k1 (s1.1,x6,s1.2.2))) (
  bindP (sub s1.2.2 s1.1 s1.2.2.length) λ x7 =>
  none)) fuel (y1,x1,a0))
def Qcl (fuel:Nat) (a0:Qb) (a1:Int) (ad:Qc):Option (Int×Qb×Qc) :=
  letP (IntKind.i64.wrap (a0.newest+1)) λ x1 =>
  iteP (decide (x1>2147483648)) (
  some (3,a0,ad)) (
  bindP (chk (decide (a0.sectors≠0))) λ _ =>
  letP (IntKind.i64.wrap (a0.first+(Int.tmod (IntKind.i64.wrap (x1-1)) a0.sectors))) λ x2 =>
  bindP (chk a0.d) λ _ =>
  bindP (Qw fuel ad) λ y1 =>
  letP (IntKind.i64.wrap (x2*y1)) λ x3 =>
  bindP (Qw fuel ad) λ y2 =>
  bindP (Qcj fuel ad x3 y2) λ y3 =>
  joinP (λ (s1:Bool) =>
  joinP (λ (s2:(Int×Qc)) =>
  joinP (λ (s3:(Int×Qc)) =>
  joinP (λ (s4:(Int×Qc)) =>
  iteP (s4.1==0) (
  letP ({ a0 with newest:=x1 }) λ d1 =>
  letP ({ d1 with tail:=a1 }) λ d2 =>
  letP ({ d2 with used:=0 }) λ d3 =>
  bindP (Ql fuel a0.records a1) λ y4 =>
  some (s4.1,{ { d3 with d:=a0.d } with records:=y4 },s4.2)) (
  some (s4.1,a0,s4.2))) λ j4 =>
  iteP (s3.1==0) (
  bindP (Qao fuel s3.2 (IntKind.i64.wrap (x3+10)) ([0])) λ y5 =>
  j4 (y5.1,y5.2)) (
  j4 (s3.1,s3.2))) λ j3 =>
  iteP (s2.1==0) (
  bindP (Qcv fuel x1) λ y6 =>
  bindP (Qcv fuel a1) λ y7 =>
  bindP (app 1 y6 y7) λ x4 =>
  bindP (app 1 x4 ([(IntKind.u8.wrap a0.next),(IntKind.u8.wrap (bShr .u16 a0.next 8))])) λ x5 =>
  bindP (Qao fuel s2.2 x3 x5) λ y8 =>
  j3 (y8.1,y8.2)) (
  j3 (s2.1,s2.2))) λ j2 =>
  iteP s1 (
  bindP (Qct fuel ad x2) λ y9 =>
  j2 (y9.1,y9.2)) (
  j2 (y3.2,ad))) λ j1 =>
  iteP (y3.2==0) (
  bindP (Qcq fuel y3.1) λ y10 =>
  j1 (!y10)) (
  j1 (false)))
def Qdc (fuel:Nat) (a0:Qb) (ad:Qc):Option (Int×Qb×Qc) :=
  iteP (decide ((IntKind.i64.wrap ((IntKind.i64.wrap (a0.newest+1))-(max a0.tail 1)))>(IntKind.i64.wrap (a0.sectors-2)))) (
  iteP (!a0.overwrite) (
  letP ({ a0 with full:=true }) λ d1 =>
  some (9,{ { d1 with d:=a0.d } with records:=a0.records },ad)) (
  letP (IntKind.i64.wrap ((max a0.tail 1)+1)) λ x1 =>
  bindP (Qcl fuel a0 x1 ad) λ y1 =>
  some (y1.1,y1.2.1,y1.2.2))) (
  bindP (Qcl fuel a0 (max a0.tail 1) ad) λ y2 =>
  some (y2.1,y2.2.1,y2.2.2))
def Qft (fuel:Nat) (a0:Event_):Option ((List Int)×Int) :=
  bindP (Qcb fuel a0) λ y1 =>
  iteP (!y1) (
  some ([],1)) (
  joinP (λ (s1:Int) =>
  bindP (idx a0.Data 0) λ x1 =>
  bindP (chk (Nat.beq a0.Data.length 3)) λ _ =>
  bindP (idx a0.Data 1) λ x2 =>
  bindP (chk (Nat.beq a0.Data.length 3)) λ _ =>
  bindP (idx a0.Data 2) λ x3 =>
  bindP (chk (Nat.beq a0.Data.length 3)) λ _ =>
  some ([(IntKind.u8.wrap a0.ID),(IntKind.u8.wrap (bShr .u16 a0.ID 8)),2,(IntKind.u8.wrap a0.Time),(IntKind.u8.wrap (bShr .u32 a0.Time 8)),(IntKind.u8.wrap (bShr .u32 a0.Time 16)),(IntKind.u8.wrap (bShr .u32 a0.Time 24)),(IntKind.u8.wrap a0.Generator),(IntKind.u8.wrap (bShr .u16 a0.Generator 8)),4,a0.SensorType,a0.Sensor,s1,x1,x2,x3],0)) λ j1 =>
  iteP a0.Deassert (
  j1 ((bOr .u8 a0.Type_ 128))) (
  j1 (a0.Type_)))
def Qcr (fuel:Nat) (a0:Qb) (a1:Event_) (ad:Qc):Option (Int×Int×Qb×Qc) :=
  bindP (Qbk fuel a0 ad) λ y1 =>
  iteP y1.1 (
  some (0,10,y1.2.1,y1.2.2)) (
  bindP (Qcb fuel a1) λ y2 =>
  joinP (λ (s1:Bool) =>
  iteP s1 (
  some (0,1,y1.2.1,y1.2.2)) (
  joinP (λ (s2:Bool) =>
  joinP (λ (s3:(Qb×Qc)) =>
  letP ({ a1 with ID:=s3.1.next }) λ d1 =>
  bindP (Qft fuel d1) λ y3 =>
  bindP (chk s3.1.d) λ _ =>
  bindP (chk (decide (s3.1.sectors≠0))) λ _ =>
  bindP (Qw fuel s3.2) λ y4 =>
  letP (IntKind.i64.wrap ((IntKind.i64.wrap ((IntKind.i64.wrap ((IntKind.i64.wrap (s3.1.first+(Int.tmod (IntKind.i64.wrap (s3.1.newest-1)) s3.1.sectors)))*y4))+11))+(IntKind.i64.wrap (s3.1.used*17)))) λ x1 =>
  bindP (app 1 y3.1 ([0])) λ x2 =>
  bindP (Qao fuel s3.2 x1 x2) λ y5 =>
  iteP (y5.1 != 0) (
  bindP (Qbk fuel s3.1 y5.2) λ y6 =>
  some (0,y5.1,y6.2.1,y6.2.2)) (
  bindP (app 32 s3.1.records ([(⟨s3.1.newest,d1⟩:Qe)])) λ x3 =>
  letP ({ s3.1 with used:=(IntKind.i64.wrap (s3.1.used+1)) }) λ d2 =>
  bindP (Qbl fuel d1.ID) λ y7 =>
  letP ({ d2 with next:=y7 }) λ d3 =>
  some (d1.ID,0,{ { d3 with d:=s3.1.d } with records:=x3 },y5.2))) λ j3 =>
  iteP s2 (
  bindP (Qdc fuel y1.2.1 y1.2.2) λ y8 =>
  iteP (y8.1 != 0) (
  bindP (Qbk fuel y8.2.1 y8.2.2) λ y9 =>
  some (0,y8.1,y9.2.1,y9.2.2)) (
  j3 (y8.2.1,y8.2.2))) (
  j3 (y1.2.1,y1.2.2))) λ j2 =>
  bindP (chk y1.2.1.d) λ _ =>
  letP (y1.2.1.newest==0) λ x4 =>
  iteP x4 (
  j2 (true)) (
  bindP (Qw fuel y1.2.2) λ y10 =>
  bindP (Qby fuel y10) λ y11 =>
  j2 (y1.2.1.used==y11)))) λ j1 =>
  iteP (!y2) (
  j1 (true)) (
  j1 (a1.ID != 0)))
def Qds (fuel:Nat) (a0:Qb):Option (Int) :=
  letP (a0.records.length:Int) λ x1 =>
  some x1
def Qju (fuel:Nat)  : Option (Bool) :=
  bindP (Qfo fuel ([(⟨1,1,0,[116],Entity_.z,false,(⟨1,false,1,0,0,0,[]⟩:Conversion_),(⟨8,(upd (List.replicate 6 0) (3:Int) 80)⟩:Thresholds_),0,0,0,8,0,false,1⟩:Sensor_)]) ([])) λ y1 =>
  bindP (Qhb fuel 2 64) λ y2 =>
  iteP y1.1.isNone (
  none) (
  iteP y2.1.isNone (
  none) (
  iteP (y1.2 != 0) (
  none) (
  iteP (y2.2 != 0) (
  none) (
  bindP y2.1 λ x1 =>
  bindP (Qda fuel x1 0 2 false) λ y3 =>
  bindP y1.1 λ x2 =>
  bindP (Qbd fuel x2 ([(⟨1,true,80,0⟩:Sample_)]) ([]) true) λ y4 =>
  iteP y3.1.isNone (
  none) (
  iteP (y3.2 != 0) (
  none) (
  iteP (y4.2.1 != 0) (
  none) (
  iteP ((y4.1.length:Int) != 1) (
  none) (
  bindP (idx y4.1 0) λ x3 =>
  bindP y3.1 λ x4 =>
  bindP (Qcr fuel x4 x3 x1) λ y5 =>
  iteP (y5.2.1==0) (
  iteP (y5.1==1) (
  bindP (Qds fuel y5.2.2.1) λ y6 =>
  letP (y6==1) λ x5 =>
  some x5) (
  none)) (
  none)))))))))
def Qir (fuel:Nat) (a0:List Int):Option (Bool) :=
  letP (decide ((a0.length:Int)≤600)) λ x1 =>
  some x1
def Qia (fuel:Nat) (a0:List Int):Option (Qg) :=
  some (⟨a0,0⟩:Qg)
def Qhn (fuel:Nat) (a0:Int) (a1:Int):Option (Int) :=
  bindP (chk (decide (a1≠0))) λ _ =>
  iteP (decide ((Int.tmod a0 a1)<0)) (
  letP (IntKind.i64.wrap ((Int.tmod a0 a1)+a1)) λ x1 =>
  some x1) (
  some (Int.tmod a0 a1))
def Qk (fuel:Nat) (a0:Qg) (a1:Int):Option (Int×Qg) :=
  iteP (decide (a0.At≥(a0.L.length:Int))) (
  some (0,a0)) (
  letP ({ a0 with At:=(IntKind.i64.wrap (a0.At+1)) }) λ d1 =>
  bindP (idx d1.L (IntKind.i64.wrap (d1.At-1))) λ x1 =>
  bindP (Qhn fuel x1 a1) λ y1 =>
  some (y1,d1))
def Qaf (fuel:Nat) (a0:Qg) (a1:Int):Option (Bool×Qg) :=
  bindP (Qk fuel a0 a1) λ y1 =>
  letP (y1.1==(IntKind.i64.wrap (a1-1))) λ x1 =>
  some (x1,y1.2)
def Qbg (fuel:Nat) (a0:Qg):Option (Int×Qg) :=
  letP ([0,1,127,128,254,255,15,240]) λ d1 =>
  bindP (Qaf fuel a0 3) λ y1 =>
  iteP y1.1 (
  bindP (Qk fuel y1.2 8) λ y2 =>
  bindP (idx d1 y2.1) λ x1 =>
  bindP (chk (Nat.beq d1.length 8)) λ _ =>
  some (x1,y2.2)) (
  bindP (Qk fuel y1.2 256) λ y3 =>
  some ((IntKind.u8.wrap y3.1),y3.2))
def Qep (fuel:Nat) (a0:Qg) (a1:List Int) (a2:Int):Option ((List Int)×Qg) :=
  loopP (λ k1 (s1:((List Int)×Int×Qg)) =>
  iteP (decide (s1.2.1<a2)) (
  bindP (Qk fuel s1.2.2 (a1.length:Int)) λ y1 =>
  bindP (sub a1 y1.1 (IntKind.i64.wrap (y1.1+1))) λ x1 =>
  bindP (cat s1.1 x1) λ x2 =>
  letP (IntKind.i64.wrap (s1.2.1+1)) λ x3 =>
  k1 (x2,x3,y1.2)) (
  some (s1.1,s1.2.2))) fuel ([],0,a0)
def Qbb (fuel:Nat) (a0:Qg):Option (Entity_×Qg) :=
  bindP (Qk fuel a0 4) λ y1 =>
  bindP (Qk fuel y1.2 2) λ y2 =>
  some ((⟨(IntKind.u8.wrap (IntKind.i64.wrap (1+y1.1))),(IntKind.u8.wrap y2.1)⟩:Entity_),y2.2)
def Qgi (fuel:Nat) (a0:Bool):Option (Int) :=
  iteP a0 (
  some (-128)) (
  some 0)
def Qgs (fuel:Nat) (a0:Int):Option (Int) :=
  letP (IntKind.u8.wrap (Int.tmod (IntKind.i64.wrap (a0+256)) 256)) λ x1 =>
  some x1
def Qej (fuel:Nat) (a0:Qg):Option (Int×Qg) :=
  letP ([0,1,(-1),1000000,(-1000000),1000000000000,(-1000000000000),500000]) λ d1 =>
  bindP (Qk fuel a0 3) λ y1 =>
  letP (y1.1==0) λ x1 =>
  iteP x1 (
  bindP (Qk fuel y1.2 8) λ y2 =>
  bindP (idx d1 y2.1) λ x2 =>
  bindP (chk (Nat.beq d1.length 8)) λ _ =>
  some (x2,y2.2)) (
  letP (y1.1==1) λ x3 =>
  iteP x3 (
  bindP (Qk fuel y1.2 2000001) λ y3 =>
  letP (IntKind.i64.wrap (y3.1-1000000)) λ x4 =>
  some (x4,y3.2)) (
  bindP (Qk fuel y1.2 2000001) λ y4 =>
  bindP (Qk fuel y4.2 1000) λ y5 =>
  letP (IntKind.i64.wrap ((IntKind.i64.wrap ((IntKind.i64.wrap (y4.1-1000000))*1000))*(IntKind.i64.wrap (1+y5.1)))) λ x5 =>
  some (x5,y5.2)))
def Qce (fuel:Nat) (a0:Qg):Option (Conversion_×Qg) :=
  bindP (Qk fuel a0 5) λ y1 =>
  bindP (Qaf fuel y1.2 2) λ y2 =>
  iteP ((IntKind.i64.wrap (1+y1.1)) != 5) (
  bindP (Qk fuel y2.2 1024) λ y3 =>
  bindP (Qk fuel y3.2 1024) λ y4 =>
  bindP (Qaf fuel y4.2 2) λ y5 =>
  joinP (λ (s1:(Qg×Conversion_)) =>
  bindP (Qk fuel s1.1 7) λ y6 =>
  letP ({ s1.2 with K1:=(IntKind.i64.wrap (y6.1-3)) }) λ d1 =>
  bindP (Qk fuel y6.2 7) λ y7 =>
  letP ({ d1 with K2:=(IntKind.i64.wrap (y7.1-3)) }) λ d2 =>
  some ({ d2 with Points:=[] },y7.2)) λ j1 =>
  iteP y5.1 (
  bindP (Qk fuel y5.2 21) λ y8 =>
  bindP (Qk fuel y8.2 41) λ y9 =>
  j1 (y9.2,(⟨(IntKind.i64.wrap (1+y1.1)),y2.1,(IntKind.i64.wrap (y8.1-10)),(IntKind.i64.wrap (y9.1-20)),0,0,[]⟩:Conversion_))) (
  j1 (y5.2,(⟨(IntKind.i64.wrap (1+y1.1)),y2.1,(IntKind.i64.wrap (y3.1-512)),(IntKind.i64.wrap (y4.1-512)),0,0,[]⟩:Conversion_)))) (
  bindP (Qk fuel y2.2 11) λ y10 =>
  letP (IntKind.i64.wrap (2+y10.1)) λ x1 =>
  bindP (Qgi fuel y2.1) λ y11 =>
  bindP (Qk fuel y10.2 40) λ y12 =>
  letP (IntKind.i64.wrap (y11+y12.1)) λ x2 =>
  loopP (λ k1 (s2:(Int×Int×Qg×(List Point_))) =>
  iteP (decide (s2.2.1<x1)) (
  bindP (Qgs fuel s2.1) λ y13 =>
  bindP (Qej fuel s2.2.2.1) λ y14 =>
  bindP (app 16 s2.2.2.2 ([(⟨y13,y14.1⟩:Point_)])) λ x3 =>
  bindP (Qk fuel y14.2 18) λ y15 =>
  letP (IntKind.i64.wrap (s2.1+(IntKind.i64.wrap (1+y15.1)))) λ x4 =>
  letP (IntKind.i64.wrap (s2.2.1+1)) λ x5 =>
  k1 (x4,x5,y15.2,x3)) (
  some ((⟨(IntKind.i64.wrap (1+y1.1)),y2.1,0,0,0,0,s2.2.2.2⟩:Conversion_),s2.2.2.1))) fuel (x2,0,y12.2,[]))
def Qig (fuel:Nat) (a0:Int) (a1:Int):Option (Bool) :=
  bindP (chk (decide (0≤(IntKind.u64.wrap a1)))) λ _ =>
  letP ((Int.tmod (bShr .u16 a0 (IntKind.u64.wrap a1)) 2)==1) λ x1 =>
  some x1
def Qcd (fuel:Nat) (a0:Qg) (a1:Bool):Option (Thresholds_×Qg) :=
  bindP (Qk fuel a0 64) λ y1 =>
  bindP (Qgi fuel a1) λ y2 =>
  bindP (Qk fuel y1.2 40) λ y3 =>
  letP (IntKind.i64.wrap (y2+y3.1)) λ x1 =>
  letP ([2,1,0,3,4,5]) λ d1 =>
  loopP (λ k1 (s1:(Int×Int×Qg×Thresholds_)) =>
  iteP (decide (s1.2.1<6)) (
  joinP (λ (s2:Int) =>
  bindP (idx d1 s1.2.1) λ x2 =>
  bindP (chk (Nat.beq d1.length 6)) λ _ =>
  bindP (Qig fuel (IntKind.u16.wrap s1.2.2.2.Mask) x2) λ y4 =>
  iteP y4 (
  bindP (idx d1 s1.2.1) λ x3 =>
  bindP (chk (Nat.beq d1.length 6)) λ _ =>
  bindP (Qgs fuel s2) λ y5 =>
  bindP (idx s1.2.2.2.Raw x3) λ x4 =>
  bindP (chk (Nat.beq s1.2.2.2.Raw.length 6)) λ _ =>
  letP ({ s1.2.2.2 with Raw:=upd s1.2.2.2.Raw x3 y5 }) λ d2 =>
  bindP (Qk fuel s1.2.2.1 36) λ y6 =>
  letP (IntKind.i64.wrap (s2+y6.1)) λ x5 =>
  letP (IntKind.i64.wrap (s1.2.1+1)) λ x6 =>
  k1 (x5,x6,y6.2,d2)) (
  letP (IntKind.i64.wrap (s1.2.1+1)) λ x7 =>
  k1 (s2,x7,s1.2.2.1,s1.2.2.2))) λ j1 =>
  iteP (s1.2.1==3) (
  letP (IntKind.i64.wrap (s1.1+1)) λ x8 =>
  j1 (x8)) (
  j1 (s1.1))) (
  some (s1.2.2.2,s1.2.2.1))) fuel (x1,0,y3.2,(⟨(IntKind.u8.wrap y1.1),(List.replicate 6 0)⟩:Thresholds_))
def Qdv (fuel:Nat) (a0:Qg) (a1:Int):Option (Sensor_×Qg) :=
  bindP (Qk fuel a0 4) λ y1 =>
  bindP (Qbg fuel y1.2) λ y2 =>
  bindP (Qk fuel y2.2 16) λ y3 =>
  bindP (Qep fuel y3.2 ([67,80,85,32,84,101,109,112,46,48,49,57]) (IntKind.i64.wrap (1+y3.1))) λ y4 =>
  bindP (Qbb fuel y4.2) λ y5 =>
  bindP (Qaf fuel y5.2 4) λ y6 =>
  bindP (Qaf fuel y6.2 3) λ y7 =>
  iteP y7.1 (
  bindP (Qk fuel y7.2 32768) λ y8 =>
  bindP (Qk fuel y8.2 4) λ y9 =>
  bindP (Qk fuel y9.2 4) λ y10 =>
  bindP (Qk fuel y10.2 300) λ y11 =>
  some ((⟨a1,(IntKind.u8.wrap (IntKind.i64.wrap (1+y1.1))),y2.1,y4.1,y5.1,true,Conversion_.z,Thresholds_.z,0,0,(IntKind.u16.wrap y8.1),(bAndNot .u16 (IntKind.u16.wrap y8.1) (IntKind.u16.wrap y9.1)),(bAndNot .u16 (IntKind.u16.wrap y8.1) (IntKind.u16.wrap (IntKind.i64.wrap (y10.1*y11.1)))),y6.1,1⟩:Sensor_),y11.2)) (
  bindP (Qk fuel y7.2 3) λ y12 =>
  bindP (Qce fuel y12.2) λ y13 =>
  bindP (Qcd fuel y13.2 y13.1.Signed) λ y14 =>
  bindP (Qk fuel y14.2 5) λ y15 =>
  bindP (Qk fuel y15.2 5) λ y16 =>
  bindP (Qaf fuel y16.2 12) λ y17 =>
  joinP (λ (s1:(Qg×Sensor_)) =>
  letP (IntKind.u16.wrap s1.2.Limits.Mask) λ x1 =>
  letP ({ s1.2 with Assert:=x1 }) λ d1 =>
  letP ({ d1 with Deassert:=x1 }) λ d2 =>
  bindP (Qaf fuel s1.1 3) λ y18 =>
  iteP y18.1 (
  bindP (Qk fuel y18.2 64) λ y19 =>
  letP ({ d2 with Assert:=(bAndNot .u16 x1 (IntKind.u16.wrap y19.1)) }) λ d3 =>
  bindP (Qk fuel y19.2 64) λ y20 =>
  letP ({ d3 with Deassert:=(bAndNot .u16 x1 (IntKind.u16.wrap y20.1)) }) λ d4 =>
  some (d4,y20.2)) (
  some (d2,y18.2))) λ j1 =>
  iteP y17.1 (
  bindP (Qbg fuel y17.2) λ y21 =>
  j1 (y21.2,(⟨a1,(IntKind.u8.wrap (IntKind.i64.wrap (1+y1.1))),y2.1,y4.1,y5.1,false,y13.1,y14.1,(IntKind.u8.wrap y15.1),y21.1,0,0,0,y6.1,(IntKind.i64.wrap (1+(IntKind.i64.wrap (2*y12.1))))⟩:Sensor_))) (
  j1 (y17.2,(⟨a1,(IntKind.u8.wrap (IntKind.i64.wrap (1+y1.1))),y2.1,y4.1,y5.1,false,y13.1,y14.1,(IntKind.u8.wrap y15.1),(IntKind.u8.wrap y16.1),0,0,0,y6.1,(IntKind.i64.wrap (1+(IntKind.i64.wrap (2*y12.1))))⟩:Sensor_))))
def Qde (fuel:Nat) (a0:Qg) (a1:Int):Option ((List Sensor_)×Qg) :=
  bindP (Qk fuel a0 20) λ y1 =>
  bindP (Qk fuel y1.2 (IntKind.i64.wrap (a1+1))) λ y2 =>
  loopP (λ k1 (s1:(Int×Int×Qg×(List Sensor_))) =>
  iteP (decide (s1.2.1>0)) (
  bindP (Qdv fuel s1.2.2.1 (IntKind.u8.wrap s1.1)) λ y3 =>
  bindP (app 136 s1.2.2.2 ([y3.1])) λ x1 =>
  bindP (Qk fuel y3.2 5) λ y4 =>
  letP (IntKind.i64.wrap (s1.1+(IntKind.i64.wrap (1+y4.1)))) λ x2 =>
  letP (IntKind.i64.wrap (s1.2.1-1)) λ x3 =>
  k1 (x2,x3,y4.2,x1)) (
  some (s1.2.2.2,s1.2.2.1))) fuel (y1.1,y2.1,y2.2,[])
def Qgj (fuel:Nat) (a0:Qg) (a1:Int):Option ((List Sensor_)×Qg) :=
  bindP (Qde fuel a0 a1) λ y1 =>
  loopP (λ k1 (s1:(Int×(List Sensor_))) =>
  iteP (decide (s1.1<(s1.2.length:Int))) (
  bindP (idx s1.2 s1.1) λ x1 =>
  bindP (idx s1.2 s1.1) λ x2 =>
  joinP (λ (s2:Int) =>
  bindP (idx s1.2 s1.1) λ x3 =>
  letP (upd s1.2 s1.1 ({ x3 with Assert:=s2 })) λ d1 =>
  bindP (idx d1 s1.1) λ x4 =>
  letP (upd d1 s1.1 ({ x4 with Deassert:=s2 })) λ d2 =>
  bindP (idx d2 s1.1) λ x5 =>
  letP (upd d2 s1.1 ({ x5 with Samples:=1 })) λ d3 =>
  letP (IntKind.i64.wrap (s1.1+1)) λ x6 =>
  k1 (x6,d3)) λ j1 =>
  iteP (!x2.Discrete) (
  bindP (idx s1.2 s1.1) λ x7 =>
  letP (IntKind.u16.wrap x7.Limits.Mask) λ x8 =>
  j1 (x8)) (
  j1 (x1.States))) (
  some (s1.2,y1.2))) fuel (0,y1.1)
def Qdu (fuel:Nat) (a0:List Int) (a1:Int):Option (Int) :=
  loopP (λ k1 (s1:Int) =>
  iteP (decide (s1<(a0.length:Int))) (
  bindP (idx a0 s1) λ x1 =>
  iteP (a1==x1) (
  some s1) (
  k1 ((IntKind.i64.wrap (s1+1))))) (
  some (-1))) fuel (0)
def Qel (fuel:Nat) (a0:Event_):Option (Int×Bool×Bool) :=
  letP (a0.Type_==1) λ x1 =>
  iteP x1 (
  bindP (idx a0.Data 0) λ x2 =>
  bindP (chk (Nat.beq a0.Data.length 3)) λ _ =>
  bindP (Qdu fuel ([0,2,4,7,9,11]) (IntKind.u8.wrap (x2-80))) λ y1 =>
  iteP (decide (y1≥0)) (
  some (y1,true,true)) (
  some (0,false,false))) (
  joinP (λ (s1:Bool) =>
  iteP s1 (
  bindP (idx a0.Data 0) λ x3 =>
  bindP (chk (Nat.beq a0.Data.length 3)) λ _ =>
  some ((IntKind.i64.wrap x3),false,true)) (
  some (0,false,false))) λ j1 =>
  iteP (a0.Type_==111) (
  bindP (idx a0.Data 0) λ x4 =>
  bindP (chk (Nat.beq a0.Data.length 3)) λ _ =>
  letP (decide (x4≤14)) λ x5 =>
  j1 (x5)) (
  j1 (false)))
def Qex (fuel:Nat) (a0:Sensor_):Option (Int) :=
  letP (bOr .u16 a0.States (IntKind.u16.wrap a0.Limits.Mask)) λ x1 =>
  some x1
def Qdx (fuel:Nat) (a0:Sensor_) (a1:Event_):Option (Bool) :=
  letP (a0.Number==a1.Sensor) λ x1 =>
  some x1
def Qq (fuel:Nat) (a0:List Sensor_) (a1_0:Event_):Option (Int) :=
  loopP (λ k1 (s1:Int) =>
  iteP (decide (s1<(a0.length:Int))) (
  bindP (idx a0 s1) λ x1 =>
  bindP (Qdx fuel x1 a1_0) λ y1 =>
  iteP y1 (
  some s1) (
  k1 ((IntKind.i64.wrap (s1+1))))) (
  some (-1))) fuel (0)
def Qcy (fuel:Nat) (a0:List Sensor_) (a1:List Event_):Option ((List Int)×Int) :=
  bindP (Qed fuel a0) λ y1 =>
  iteP (y1 != 0) (
  some ([],y1)) (
  bindP (mk 2 0 (a0.length:Int)) λ x1 =>
  loopP (λ k1 (s1:(Int×(List Int))) =>
  iteP (decide (s1.1<(a1.length:Int))) (
  bindP (idx a1 s1.1) λ x2 =>
  bindP (Qel fuel x2) λ y2 =>
  bindP (Qq fuel a0 x2) λ y3 =>
  joinP (λ (s2:Bool) =>
  iteP s2 (
  k1 ((IntKind.i64.wrap (s1.1+1)),s1.2)) (
  bindP (idx s1.2 y3) λ x3 =>
  bindP (chk (decide (0≤y2.1))) λ _ =>
  letP (upd s1.2 y3 (bOr .u16 x3 (bShl .u16 1 y2.1))) λ d1 =>
  iteP x2.Deassert (
  bindP (idx d1 y3) λ x4 =>
  bindP (chk (decide (0≤y2.1))) λ _ =>
  letP (upd d1 y3 (bAndNot .u16 x4 (bShl .u16 1 y2.1))) λ d2 =>
  k1 ((IntKind.i64.wrap (s1.1+1)),d2)) (
  k1 ((IntKind.i64.wrap (s1.1+1)),d1)))) λ j1 =>
  letP (!y2.2.2) λ x5 =>
  iteP x5 (
  j1 (true)) (
  letP (decide (y3<0)) λ x6 =>
  iteP x6 (
  j1 (true)) (
  bindP (idx a0 y3) λ x7 =>
  letP (x7.Type_ != x2.SensorType) λ x8 =>
  iteP x8 (
  j1 (true)) (
  letP (x7.Discrete==y2.2.1) λ x9 =>
  iteP x9 (
  j1 (true)) (
  bindP (Qex fuel x7) λ y4 =>
  bindP (chk (decide (0≤y2.1))) λ _ =>
  j1 ((bAnd .u16 (bShr .u16 y4 y2.1) 1)==0)))))) (
  some (s1.2,0))) fuel (0,x1))
def Qbh (fuel:Nat) (a0:Qd) (a1:Int) (a2:Int):Option (Int×Qd) :=
  bindP (Qak fuel a0 a1) λ y1 =>
  letP (decide (y1<0)) λ x1 =>
  iteP x1 (
  some (8,a0)) (
  bindP (idx a0.sensors y1) λ x2 =>
  bindP (Qex fuel x2) λ y2 =>
  letP ((bAndNot .u16 a2 y2) != 0) λ x3 =>
  iteP x3 (
  some (2,a0)) (
  bindP (idx a0.states y1) λ x4 =>
  letP (upd a0.states y1 a2) λ d1 =>
  some (0,{ a0 with states:=d1 })))
def Qgd (fuel:Nat) (a0:List Sensor_) (a1:List Event_):Option ((Option Qd)) :=
  bindP (Qfo fuel a0 ([])) λ y1 =>
  bindP (Qcy fuel a0 a1) λ y2 =>
  joinP (λ (s1:Bool) =>
  iteP s1 (
  some none) (
  loopP (λ k1 (s2:(Int×(Option Qd))) =>
  iteP (decide (s2.1<(a0.length:Int))) (
  bindP (idx a0 s2.1) λ x1 =>
  bindP (idx y2.1 s2.1) λ x2 =>
  bindP s2.2 λ x3 =>
  bindP (Qbh fuel x3 x1.Number x2) λ y3 =>
  iteP (y3.1 != 0) (
  some none) (
  letP (IntKind.i64.wrap (s2.1+1)) λ x4 =>
  k1 (x4,(some y3.2)))) (
  some s2.2)) fuel (0,y1.1))) λ j1 =>
  iteP y1.1.isNone (
  j1 (true)) (
  iteP (y1.2 != 0) (
  j1 (true)) (
  iteP (y2.2 != 0) (
  j1 (true)) (
  j1 ((y2.1.length:Int) != (a0.length:Int)))))
def Qeq (fuel:Nat) (a0:Qg) (a1:Sensor_):Option (Int×Qg) :=
  bindP (Qaf fuel a0 3) λ y1 =>
  iteP y1.1 (
  bindP (Qbg fuel y1.2) λ y2 =>
  some (y2.1,y2.2)) (
  bindP (Qk fuel y1.2 6) λ y3 =>
  bindP (idx a1.Limits.Raw y3.1) λ x1 =>
  bindP (chk (Nat.beq a1.Limits.Raw.length 6)) λ _ =>
  bindP (Qk fuel y3.2 9) λ y4 =>
  letP (IntKind.u8.wrap (Int.tmod (IntKind.i64.wrap ((IntKind.i64.wrap ((IntKind.i64.wrap x1)+y4.1))+252)) 256)) λ x2 =>
  some (x2,y4.2))
def Qdb (fuel:Nat) (a0:Qg) (a1:List Sensor_):Option ((List Sample_)×Qg) :=
  loopP (λ k1 (s1:(Int×Qg×(List Sample_))) =>
  iteP (decide (s1.1<(a1.length:Int))) (
  bindP (idx a1 s1.1) λ x1 =>
  bindP (Qaf fuel s1.2.1 8) λ y1 =>
  iteP y1.1 (
  letP (IntKind.i64.wrap (s1.1+1)) λ x2 =>
  k1 (x2,y1.2,s1.2.2)) (
  bindP (Qaf fuel y1.2 6) λ y2 =>
  joinP (λ (s2:Bool) =>
  joinP (λ (s3:(Qg×Sample_)) =>
  joinP (λ (s4:Bool) =>
  joinP (λ (s5:(Qg×Sample_)) =>
  bindP (Qaf fuel s5.1 150) λ y3 =>
  joinP (λ (s6:(Qg×Sample_)) =>
  bindP (app 6 s1.2.2 ([s6.2])) λ x3 =>
  letP (IntKind.i64.wrap (s1.1+1)) λ x4 =>
  k1 (x4,s6.1,x3)) λ j5 =>
  iteP y3.1 (
  bindP (Qbg fuel y3.2) λ y4 =>
  letP ({ s5.2 with Raw:=y4.1 }) λ d1 =>
  bindP (Qk fuel y4.2 65536) λ y5 =>
  letP ({ d1 with States:=(IntKind.u16.wrap y5.1) }) λ d2 =>
  bindP (Qbg fuel y5.2) λ y6 =>
  letP ({ d2 with Number:=y6.1 }) λ d3 =>
  j5 (y6.2,d3)) (
  j5 (y3.2,s5.2))) λ j4 =>
  iteP s4 (
  bindP (Qeq fuel s3.1 x1) λ y7 =>
  letP ({ s3.2 with Raw:=y7.1 }) λ d4 =>
  j4 (y7.2,d4)) (
  j4 (s3.1,s3.2))) λ j3 =>
  iteP s3.2.OK (
  j3 (!x1.Discrete)) (
  j3 (false))) λ j2 =>
  iteP s2 (
  bindP (Qk fuel y2.2 32768) λ y8 =>
  j2 (y8.2,(⟨x1.Number,!y2.1,0,(bAnd .u16 (IntKind.u16.wrap y8.1) x1.States)⟩:Sample_))) (
  j2 (y2.2,(⟨x1.Number,!y2.1,0,0⟩:Sample_)))) λ j1 =>
  iteP (!y2.1) (
  j1 (x1.Discrete)) (
  j1 (false)))) (
  some (s1.2.2,s1.2.1))) fuel (0,a0,[])
def Qcu (fuel:Nat) (a0:Qg) (a1:Int):Option ((List Entity_)×Qg) :=
  bindP (Qk fuel a0 (IntKind.i64.wrap (a1+1))) λ y1 =>
  loopP (λ k1 (s1:(Int×Qg×(List Entity_))) =>
  iteP (decide (s1.1>0)) (
  bindP (Qbb fuel s1.2.1) λ y2 =>
  bindP (app 2 s1.2.2 ([y2.1])) λ x1 =>
  letP (IntKind.i64.wrap (s1.1-1)) λ x2 =>
  k1 (x2,y2.2,x1)) (
  some (s1.2.2,s1.2.1))) fuel (y1.1,y1.2,[])
def Qdq (fuel:Nat) (a0:Qc) (a1:Int) (a2:Int):Option (Qc) :=
  iteP (!a0.down) (
  letP ({ a0 with left:=(max a1 0) }) λ d1 =>
  letP ({ d1 with torn:=a2 }) λ d2 =>
  some ({ { d2 with bytes:=a0.bytes } with wear:=a0.wear })) (
  some a0)
def Qan (fuel:Nat) (a0:Qb):Option ((List Event_)) :=
  loopP (λ k1 (s1:(Int×(List Event_))) =>
  iteP (decide (s1.1<(a0.records.length:Int))) (
  bindP (idx a0.records s1.1) λ x1 =>
  bindP (app 20 s1.2 ([x1.event])) λ x2 =>
  k1 ((IntKind.i64.wrap (s1.1+1)),x2)) (
  some s1.2)) fuel (0,[])
def Qgu (fuel:Nat) (a0:List Event_):Option ((List Event_)) :=
  loopP (λ k1 (s1:(Int×(List Event_))) =>
  iteP (decide (s1.1<(a0.length:Int))) (
  bindP (idx a0 s1.1) λ x1 =>
  letP ({ x1 with ID:=0 }) λ d1 =>
  bindP (app 20 s1.2 ([d1])) λ x2 =>
  letP (IntKind.i64.wrap (s1.1+1)) λ x3 =>
  k1 (x3,x2)) (
  some s1.2)) fuel (0,[])
def Qdl (fuel:Nat) (a0:List Event_) (a1:List Event_):Option (Bool) :=
  iteP ((a0.length:Int) != (a1.length:Int)) (
  some false) (
  loopP (λ k1 (s1:Int) =>
  iteP (decide (s1<(a0.length:Int))) (
  bindP (idx a0 s1) λ x1 =>
  bindP (idx a1 s1) λ x2 =>
  iteP (!Event_.eqb x1 x2) (
  some false) (
  letP (IntKind.i64.wrap (s1+1)) λ x3 =>
  k1 (x3))) (
  some true)) fuel (0))
def Qcg (fuel:Nat) (a0:Qc):Option (Qc) :=
  letP ({ a0 with down:=false }) λ d1 =>
  letP ({ d1 with left:=0 }) λ d2 =>
  some ({ { d2 with bytes:=a0.bytes } with wear:=a0.wear })
def Qbz (fuel:Nat) (a0:Qd) (a1:Int):Option (Int×Bool) :=
  bindP (Qak fuel a0 a1) λ y1 =>
  iteP (decide (y1<0)) (
  some (0,false)) (
  bindP (idx a0.states y1) λ x1 =>
  some (x1,true))
def Qgm (fuel:Nat) (a0:List Int) (a1:List (List Int)) (a2:List Int) (a3:List Int):Option (Bool) :=
  bindP (Qju fuel) λ y1 =>
  iteP (!y1) (
  some false) (
  bindP (Qir fuel a0) λ y2 =>
  joinP (λ (s1:Bool) =>
  iteP s1 (
  some true) (
  bindP (Qia fuel a0) λ y3 =>
  bindP (Qgj fuel y3 4) λ y4 =>
  bindP (Qhb fuel 14 1024) λ y5 =>
  joinP (λ (s2:Bool) =>
  iteP s2 (
  some false) (
  bindP y5.1 λ x1 =>
  bindP (Qda fuel x1 2 12 false) λ y6 =>
  bindP (Qgd fuel y4.1 ([])) λ y7 =>
  joinP (λ (s3:Bool) =>
  iteP s3 (
  some false) (
  loopP (λ k1 (s4:(Int×Qc×(List Event_)×(Option Qb)×(Option Qd))) =>
  iteP (decide (s4.1≤(a1.length:Int))) (
  bindP (Qia fuel a0) λ y8 =>
  joinP (λ (s5:((Option Qg))) =>
  bindP s5 λ x2 =>
  bindP (Qdb fuel x2 y4.1) λ y9 =>
  bindP (Qcu fuel y9.2 1) λ y10 =>
  joinP (λ (s6:Int) =>
  joinP (λ (s7:Bool) =>
  joinP (λ (s8:Qc) =>
  bindP s4.2.2.2.2 λ x3 =>
  bindP (Qbd fuel x3 y9.1 y10.1 true) λ y11 =>
  iteP (y11.2.1 != 0) (
  letP (IntKind.i64.wrap (s4.1+1)) λ x4 =>
  k1 (x4,s8,s4.2.2.1,s4.2.2.2.1,(some y11.2.2))) (
  joinP (λ (s9:(Qc×(List Event_)×(Option Qb)×(Option Qd))) =>
  bindP s9.2.2.1 λ x5 =>
  bindP (Qan fuel x5) λ y12 =>
  bindP (Qgu fuel y12) λ y13 =>
  bindP (Qdl fuel y13 s9.2.1) λ y14 =>
  iteP (!y14) (
  some false) (
  letP (IntKind.i64.wrap (s4.1+1)) λ x6 =>
  k1 (x6,s9.1,s9.2.1,(some x5),s9.2.2.2))) λ j8 =>
  loopP (λ k2 (s10:(Int×Qc×(List Event_)×(Option Qb))) =>
  iteP (decide (s10.1<(y11.1.length:Int))) (
  bindP (idx y11.1 s10.1) λ x7 =>
  bindP s10.2.2.2 λ x8 =>
  bindP (Qcr fuel x8 x7 s10.2.1) λ y15 =>
  iteP (y15.2.1==0) (
  bindP (idx y11.1 s10.1) λ x9 =>
  bindP (app 20 s10.2.2.1 ([x9])) λ x10 =>
  letP (IntKind.i64.wrap (s10.1+1)) λ x11 =>
  k2 (x11,y15.2.2.2,x10,(some y15.2.2.1))) (
  iteP (y15.2.1==9) (
  bindP (Qan fuel y15.2.2.1) λ y16 =>
  bindP (Qgu fuel y16) λ y17 =>
  bindP (Qdl fuel y17 s10.2.2.1) λ y18 =>
  some y18) (
  iteP (y15.2.1 != 10) (
  some false) (
  bindP (Qcg fuel y15.2.2.2) λ y19 =>
  bindP (Qda fuel y19 2 12 false) λ y20 =>
  joinP (λ (s11:Bool) =>
  iteP s11 (
  some false) (
  bindP y20.1 λ x12 =>
  bindP (Qds fuel x12) λ y21 =>
  joinP (λ (s12:((List Event_))) =>
  bindP (Qan fuel x12) λ y22 =>
  bindP (Qgd fuel y4.1 y22) λ y23 =>
  iteP y23.isNone (
  some false) (
  j8 (y19,s12,(some x12),y23))) λ j10 =>
  iteP (y21==(IntKind.i64.wrap ((s10.2.2.1.length:Int)+1))) (
  bindP (idx y11.1 s10.1) λ x13 =>
  bindP (app 20 s10.2.2.1 ([x13])) λ x14 =>
  j10 (x14)) (
  j10 (s10.2.2.1)))) λ j9 =>
  iteP y20.1.isNone (
  j9 (true)) (
  j9 (y20.2 != 0)))))) (
  j8 (s10.2.1,s10.2.2.1,s10.2.2.2,(some y11.2.2)))) fuel (0,s8,s4.2.2.1,s4.2.2.2.1))) λ j7 =>
  iteP s7 (
  bindP (idx a2 s4.1) λ x15 =>
  bindP (Qhn fuel x15 120) λ y24 =>
  bindP (Qdq fuel s4.2.1 (IntKind.i64.wrap (1+y24)) s6) λ y25 =>
  j7 (y25)) (
  j7 (s4.2.1))) λ j6 =>
  iteP (decide (s4.1<(a2.length:Int))) (
  j6 (decide (s4.1<(a1.length:Int)))) (
  j6 (false))) λ j5 =>
  iteP (decide (s4.1<(a3.length:Int))) (
  bindP (idx a3 s4.1) λ x16 =>
  j5 (x16)) (
  j5 (0))) λ j4 =>
  iteP (decide (s4.1<(a1.length:Int))) (
  bindP (idx a1 s4.1) λ x17 =>
  iteP (decide ((x17.length:Int)>100)) (
  some true) (
  bindP (idx a1 s4.1) λ x18 =>
  bindP (Qia fuel x18) λ y26 =>
  j4 ((some y26)))) (
  j4 ((some y8)))) (
  bindP s4.2.2.2.1 λ x19 =>
  bindP (Qan fuel x19) λ y27 =>
  bindP (Qcy fuel y4.1 y27) λ y28 =>
  joinP (λ (s13:Bool) =>
  iteP s13 (
  some false) (
  loopP (λ k3 (s14:(Int×(Option Qd))) =>
  iteP (decide (s14.1<(y4.1.length:Int))) (
  bindP (idx y4.1 s14.1) λ x20 =>
  bindP s14.2 λ x21 =>
  bindP (Qbz fuel x21 x20.Number) λ y29 =>
  joinP (λ (s15:Bool) =>
  iteP s15 (
  some false) (
  letP (IntKind.i64.wrap (s14.1+1)) λ x22 =>
  k3 (x22,(some x21)))) λ j12 =>
  iteP (!y29.2) (
  j12 (true)) (
  bindP (idx y28.1 s14.1) λ x23 =>
  j12 (y29.1 != x23))) (
  some true)) fuel (0,s4.2.2.2.2))) λ j11 =>
  iteP (y28.2 != 0) (
  j11 (true)) (
  j11 ((y28.1.length:Int) != (y4.1.length:Int))))) fuel (0,x1,[],y6.1,y7))) λ j3 =>
  iteP y6.1.isNone (
  j3 (true)) (
  iteP (y6.2 != 0) (
  j3 (true)) (
  j3 (y7.isNone))))) λ j2 =>
  iteP y5.1.isNone (
  j2 (true)) (
  j2 (y5.2 != 0)))) λ j1 =>
  iteP (!y2) (
  j1 (true)) (
  iteP (decide ((a1.length:Int)>25)) (
  j1 (true)) (
  iteP (decide ((a2.length:Int)>25)) (
  j1 (true)) (
  j1 (decide ((a3.length:Int)>25))))))
end Lift
