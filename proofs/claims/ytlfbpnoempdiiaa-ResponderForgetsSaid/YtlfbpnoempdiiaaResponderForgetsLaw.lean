/- The plain law of ResponderForgets. uses: base lists sum8 ev messages mreplies mparse mparser mround mtyped mcanon gen2 codes2 resp resp2 same25 resp3 resp4 awake25
-/
import Derived.Test.YtlfbpnoempdiiaaAwake25
import Derived.Test.YtlfbpnoempdiiaaResp4
set_option linter.unusedVariables false
set_option linter.unusedSimpArgs false
namespace Lift
open Go
theorem law25_ResponderForgets_true (a0 a1 a2 : Int) (a3 : List Int) (o0 : okI .u16 a0) (o1 : okI .u8 a1) (o2 : okI .u8 a2) (o3 : okL (okI .u8) a3) : ∃ fuel, law25_ResponderForgets fuel a0 a1 a2 a3 = some true := by
  refine ⟨10000, Ev.isTrue ?_⟩
  unfold law25_ResponderForgets
  have hf : 6000 < 10000 := by omega
  have h16 : 0 ≤ a0 ∧ a0 ≤ 65535 := by
    have := o0
    simp [okI, Lit.wf, IntKind.min, IntKind.max, IntKind.bits, IntKind.signed] at this
    omega
  have hb1 : byte a1 := okI_u8.1 o1
  have hb2 : byte a2 := okI_u8.1 o2
  have hb3 : ∀ y ∈ a3, byte y := fun x hx => okI_u8.1 (o3.2 x hx)
  obtain ⟨p0, p1⟩ := hb1
  refine Ev.to law25_awake_eq (Ev.iteF rfl (Ev.dec (fun _ => Ev.ret rfl) (fun hl => ?_)))
  obtain ⟨tm, vm, to⟩ := rqm_ok (fr := 64) (cm := 1) (sq := 0) (d := a3) (by omega) (by omega) (show byte 1 from ⟨by decide, by decide⟩) (by omega) (by omega) (by omega) hb3
  rw [show (⟨32, 64, 6, 1, 0, 0, 0, 0, a3⟩ : Message_) = rqm 64 1 0 a3 from rfl]
  generalize rqm 64 1 0 a3 = m at tm vm to
  rw [wr (n := a0) (by omega), wr (n := a1) (by omega), wr (n := a0 + a1) (by omega)]
  have v0 : SV ⟨32, [], []⟩ := nil_V (by omega) (by omega)
  have t0 : ST ⟨32, [], []⟩ := nil_T (show byte 32 from ⟨by decide, by decide⟩)
  have hb := (mbytes_small vm.1 tm).1
  obtain ⟨e1, v1⟩ := acc_new v0 (m := m) ⟨vm, to⟩ tm (now := a0) (by omega) (by omega) (fun q hq => (by cases hq)) (by simp) (by simp [fmem])
  have t1 := (sacc_T t0 hb a0).1
  rw [e1] at t1
  refine Ev.to (mRequest_eq (by omega) tm) (Ev.to (sNew_eq _ _) ?_)
  rw [mreq_of vm, if_pos (by omega)]
  refine Ev.to (sAcc_eq hf t0 hb a0) ?_
  rw [e1]
  obtain ⟨y, _, ty, vy, e2, v2, _⟩ := done_ok v1 t1 (m := m) (rest := []) rfl hb2 (data := a3) (by omega) hb3 (now := a0) (by omega) (by omega)
  have t2 := (sdone_T t1 hb2 hb3 a0).1
  rw [e2] at t2
  refine Ev.to (sDone_eq hf t1 hb2 hb3 (by omega) a0) ?_
  rw [e2]
  have eK : fmem (fmem (⟨32, [], []⟩ : Responder_).Memory a0) a0 ++ [(⟨m, mbytes y, a0 + 100⟩ : Memory_)] = [⟨m, mbytes y, a0 + 100⟩] := rfl
  refine Ev.join (fun s => s = false) (fun s hs => Ev.iteF hs ?_) (fun j hj => Ev.bneF rfl (Ev.bneF rfl (Ev.bneF rfl (hj _ rfl))))
  simp only [eK] at t2 v2 ⊢
  refine Ev.to (sAcc_eq hf t2 hb (a0 + a1)) ?_
  by_cases h100 : a1 < 100
  · have ef : fmem [(⟨m, mbytes y, a0 + 100⟩ : Memory_)] (a0 + a1) = [⟨m, mbytes y, a0 + 100⟩] := by
      simp only [fmem, List.filter_cons, List.filter_nil]
      rw [if_pos (decide_eq_true (by omega))]
    obtain ⟨k, hk, _, e3⟩ := acc_mem v2 (m := m) ⟨vm, to⟩ tm (now := a0 + a1) (by omega) (by omega) (k := ⟨m, mbytes y, a0 + 100⟩) (by rw [ef]; simp) ⟨rfl, rfl, rfl, rfl, rfl, rfl, rfl, rfl⟩
    have hk' : k = ⟨m, mbytes y, a0 + 100⟩ := by
      have := hk
      simp only [ef, List.mem_singleton] at this
      exact this
    subst hk'
    rw [e3]
    refine Ev.to (sNext_eq hf (sfresh_ST t2 _)) ?_
    rw [snext_nil rfl]
    exact Ev.bneF rfl (Ev.decT h100 (Ev.join (fun s => s = true) (fun s hs => Ev.ret hs) (fun j hj => Ev.beqT rfl (Ev.letP (hj _ rfl)))))
  · have ef : fmem [(⟨m, mbytes y, a0 + 100⟩ : Memory_)] (a0 + a1) = [] := by
      simp only [fmem, List.filter_cons, List.filter_nil]
      rw [if_neg (by simp; omega)]
    have ea : allq (sfresh (⟨32, [], [⟨m, mbytes y, a0 + 100⟩]⟩ : Responder_) (a0 + a1)) = [] := by
      show ([] : List Message_) ++ (fmem [(⟨m, mbytes y, a0 + 100⟩ : Memory_)] (a0 + a1)).map (fun k => k.Request) = []
      rw [ef]; rfl
    obtain ⟨e3, v3⟩ := acc_new v2 (m := m) ⟨vm, to⟩ tm (now := a0 + a1) (by omega) (by omega) (fun q hq => by rw [ea] at hq; cases hq) (by simp) (by simp only [ef]; simp)
    have t3 := (sacc_T t2 hb (a0 + a1)).1
    rw [e3] at t3
    rw [e3]
    refine Ev.to (sNext_eq hf t3) ?_
    rw [snext_cons v3 (m := m) (rest := []) rfl]
    refine Ev.bneF rfl (Ev.decF h100 (Ev.to (mpar_eq (by omega) hb) (Ev.beqT rfl (Ev.iteT rfl ?_))))
    rw [show mparse false (mbytes m) = (m, 0) from mparse_back vm.1 tm false (by simpa using vm.2)]
    exact Ev.to (sMsg_eq tm.da tm.da) (Ev.ret (by simp))
end Lift
