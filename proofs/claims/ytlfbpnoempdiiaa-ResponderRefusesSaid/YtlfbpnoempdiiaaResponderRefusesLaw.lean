/- The plain law of ResponderRefuses. uses: base lists sum8 ev messages mreplies mparse mparser mround mtyped mcanon gen2 codes2 resp resp2 same25 resp3 resp4 awake25
-/
import Derived.Test.YtlfbpnoempdiiaaAwake25
import Derived.Test.YtlfbpnoempdiiaaResp4
set_option linter.unusedVariables false
set_option linter.unusedSimpArgs false
namespace Lift
open Go
def rq (j : Nat) : Message_ := rqm 64 1 (j : Int) []
def yy (j : Nat) : Message_ := (mreply (rq j) 0 []).1
def kk (j : Nat) : Memory_ := ⟨rq j, mbytes (yy j), (j : Int) + 100⟩
def rr (i : Nat) : Responder_ := ⟨32, [], (List.range i).map kk⟩
theorem fmem_all {l : List Memory_} {now : Int} (h : ∀ k ∈ l, now < k.Until) : fmem l now = l :=
  List.filter_eq_self.2 (fun k hk => decide_eq_true (h k hk))
theorem kk_kept {i : Nat} {now : Int} (h : now < 100) : fmem ((List.range i).map kk) now = (List.range i).map kk := by
  refine fmem_all (fun k hk => ?_)
  obtain ⟨j, hj, rfl⟩ := List.mem_map.1 hk
  show now < (j : Int) + 100
  omega
theorem rr_fresh {i : Nat} {now : Int} (h : now < 100) : sfresh (rr i) now = rr i := by
  unfold sfresh
  show (⟨32, [], fmem ((List.range i).map kk) now⟩ : Responder_) = _
  rw [kk_kept h]; rfl
theorem rr_all {i : Nat} : allq (rr i) = (List.range i).map rq := by
  show [] ++ ((List.range i).map kk).map (fun k => k.Request) = _
  rw [List.nil_append, List.map_map]; rfl
theorem rq_ok {j : Nat} (h : j < 64) : MT (rq j) ∧ ReqV 32 (rq j) :=
  rqm_ok (by omega) (by omega) (show byte 1 from ⟨by decide, by decide⟩) (by omega) (by omega) (by simp) (fun x hx => (by cases hx))
theorem rr_succ {i : Nat} : rr (i + 1) = ⟨32, [], (List.range i).map kk ++ [kk i]⟩ := by
  unfold rr; rw [List.range_succ, List.map_append]; rfl
theorem law25_ResponderRefuses_true (a0 : Int) (a1 : List Int) (o0 : okI .u8 a0) (o1 : okL (okI .u8) a1) : ∃ fuel, law25_ResponderRefuses fuel a0 a1 = some true := by
  refine ⟨10000, Ev.isTrue ?_⟩
  unfold law25_ResponderRefuses
  have hf : 6000 < 10000 := by omega
  have hb0 : byte a0 := okI_u8.1 o0
  have hb1 : ∀ y ∈ a1, byte y := fun x hx => okI_u8.1 (o1.2 x hx)
  have b32 : byte 32 := ⟨by decide, by decide⟩
  have b0 : byte 0 := ⟨by decide, by decide⟩
  refine Ev.to law25_awake_eq (Ev.iteF rfl (Ev.dec (fun _ => Ev.ret rfl) (fun hl => ?_)))
  refine Ev.to (sNew_eq _ _) ?_
  rw [if_pos (by omega)]
  refine Ev.bneF rfl ?_
  refine Ev.count 16 (fun i (s : Int × Responder_ × List (List Int)) => s.1 = (i : Int) ∧ s.2.1 = rr i ∧ s.2.2 = (List.range i).map (fun j => mbytes (rq j)) ∧ SV (rr i) ∧ ST (rr i)) (by omega) ⟨rfl, rfl, rfl, nil_V (by omega) (by omega), nil_T b32⟩ (fun i s hi hI self hself => ?_)
  obtain ⟨n, r, all⟩ := s
  obtain ⟨h1, h2, h3, h4, h5⟩ := hI
  simp only at h1 h2 h3
  subst h1 h2 h3
  simp only
  by_cases hil : i < 16
  · obtain ⟨tm, vm⟩ := rq_ok (j := i) (by omega)
    have hb := (mbytes_small vm.1.1 tm).1
    have e1 : message_Request 10000 (⟨32, 64, 6, 1, 0, 0, (i : Int), 0, []⟩ : Message_) = some (mbytes (rq i), 0) := by
      rw [show (⟨32, 64, 6, 1, 0, 0, (i : Int), 0, []⟩ : Message_) = rq i from rfl, mRequest_eq (by omega) tm, mreq_of vm.1]
    refine Ev.decT (by omega) (Ev.to e1 (Ev.to (sAcc_eq hf h5 hb (i : Int)) ?_))
    have t1 := (sacc_T h5 hb (i : Int)).1
    obtain ⟨ek, vk⟩ := acc_new h4 (m := rq i) vm tm (now := (i : Int)) (by omega) (by omega) (fun q hq hc => by
      rw [rr_fresh (by omega), rr_all] at hq
      obtain ⟨j, hj, rfl⟩ := List.mem_map.1 hq
      have hj2 := List.mem_range.1 hj
      have hs : (j : Int) = (i : Int) := hc.2.2.2.2.2.2.1
      omega) (by simp [rr]) (by
      show 0 + (fmem ((List.range i).map kk) (i : Int)).length < 16
      rw [kk_kept (by omega)]; simp; omega)
    have e2 : (⟨(rr i).Own, (rr i).Queue ++ [rq i], fmem (rr i).Memory (i : Int)⟩ : Responder_) = ⟨32, [rq i], (List.range i).map kk⟩ := by
      show (⟨32, [rq i], fmem ((List.range i).map kk) (i : Int)⟩ : Responder_) = _
      rw [kk_kept (by omega)]
    rw [e2] at ek vk
    rw [ek] at t1 ⊢
    obtain ⟨y, ey, ty, vy, e3, v2, _⟩ := done_ok vk t1 (m := rq i) (rest := []) rfl (code := 0) b0 (data := []) (by simp) (fun x hx => (by cases hx)) (now := (i : Int)) (by omega) (by omega)
    have t2 := (sdone_T t1 (code := 0) b0 (data := []) (fun x hx => (by cases hx)) (i : Int)).1
    have hy : y = yy i := by unfold yy; rw [ey]
    subst hy
    have e4 : (⟨32, [], fmem ((List.range i).map kk) (i : Int) ++ [⟨rq i, mbytes (yy i), (i : Int) + 100⟩]⟩ : Responder_) = rr (i + 1) := by
      rw [kk_kept (by omega), rr_succ]; rfl
    simp only at e3 v2 t2
    rw [e4] at e3 v2
    rw [e3] at t2
    refine Ev.to (sDone_eq hf t1 b0 (fun x hx => (by cases hx)) (by simp) (i : Int)) ?_
    rw [e3]
    refine Ev.join (fun s => s = false) (fun s hs => Ev.iteF hs ?_) (fun j hj => Ev.bneF rfl (Ev.bneF rfl (Ev.bneF rfl (hj _ rfl))))
    refine Ev.to (app_ok (by simp; omega)) (Ev.letP ?_)
    rw [wi i (by omega)]
    refine hself _ hil ⟨rfl, rfl, ?_, v2, t2⟩
    rw [List.range_succ, List.map_append]; rfl
  · have hie : i = 16 := by omega
    subst hie
    obtain ⟨tm, vm⟩ := rqm_ok (fr := 66) (cm := 2) (sq := 0) (d := a1) (by omega) (by omega) (show byte 2 from ⟨by decide, by decide⟩) (by omega) (by omega) (by omega) hb1
    have hb := (mbytes_small vm.1.1 tm).1
    have hne : ∀ q ∈ allq (rr 16), ¬ isame q (rqm 66 2 0 a1) := by
      intro q hq hc
      rw [rr_all] at hq
      obtain ⟨j, hj, rfl⟩ := List.mem_map.1 hq
      have hs : (64 : Int) = 66 := hc.2.1
      omega
    have hne2 : ∀ now, ∀ q ∈ allq (sfresh (rr 16) now), ¬ isame q (rqm 66 2 0 a1) := fun now q hq => hne q ((allq_fresh (rr 16) now).subset hq)
    simp only [show (⟨32, 66, 6, 2, 0, 0, 0, 0, a1⟩ : Message_) = rqm 66 2 0 a1 from rfl]
    have e1 : message_Request 10000 (rqm 66 2 0 a1) = some (mbytes (rqm 66 2 0 a1), 0) := by rw [mRequest_eq (by omega) tm, mreq_of vm.1]
    obtain ⟨y, ey, ty, vy, e2, e3, _, e5⟩ := reply_ok vm.1 tm (code := 192) (show byte 192 from ⟨by decide, by decide⟩) (data := []) (by simp) (fun x hx => (by cases hx))
    have hbusy := acc_busy h4 vm tm (now := 16) (by omega) (by omega) (hne2 16) (.inr (by
      show 0 + (fmem ((List.range 16).map kk) 16).length = 16
      rw [kk_kept (by omega)]; simp))
    rw [rr_fresh (by omega), ey] at hbusy
    simp only at hbusy
    rw [e2] at hbusy
    have hyb := (mbytes_small vy ty).1
    refine Ev.decF (by omega) (Ev.to e1 (Ev.to (sAcc_eq hf h5 hb 16) ?_))
    rw [hbusy]
    refine Ev.to (mpas_eq (by omega) hyb) ?_
    rw [e3]
    have hlen : (((List.range 16).map (fun j => mbytes (rq j))).length : Int) = 16 := by simp
    rw [hlen]
    have hw : IntKind.i64.wrap a0 = a0 := wr (by have := hb0.1; have := hb0.2; omega)
    have hmod : Int.tmod a0 16 = ((a0.toNat % 16 : Nat) : Int) := by
      rw [Int.tmod_eq_emod_of_nonneg hb0.1]; have := hb0.1; omega
    have hk : a0.toNat % 16 < 16 := Nat.mod_lt _ (by omega)
    rw [hw, hmod]
    generalize a0.toNat % 16 = k at hk
    obtain ⟨tk, vk⟩ := rq_ok (j := k) (by omega)
    have hbk := (mbytes_small vk.1.1 tk).1
    have hx : idx ((List.range 16).map (fun j => mbytes (rq j))) (k : Int) = some (mbytes (rq k)) := by
      rw [idx_nat, List.getElem?_map, List.getElem?_range hk]; rfl
    obtain ⟨k', hk', _, e6⟩ := acc_mem h4 vk tk (now := 16) (by omega) (by omega) (k := kk k) (by
      show kk k ∈ fmem ((List.range 16).map kk) 16
      rw [kk_kept (by omega)]
      exact List.mem_map.2 ⟨k, List.mem_range.2 hk, rfl⟩) ⟨rfl, rfl, rfl, rfl, rfl, rfl, rfl, rfl⟩
    have hrep : 0 < k'.Reply.length := by
      have h7 : k' ∈ fmem ((List.range 16).map kk) 16 := hk'
      rw [kk_kept (by omega)] at h7
      obtain ⟨j, hj, rfl⟩ := List.mem_map.1 h7
      have hj2 := List.mem_range.1 hj
      obtain ⟨tj, vj⟩ := rq_ok (j := j) (by omega)
      obtain ⟨z, ez, tz, vz, _⟩ := reply_ok vj.1 tj (code := 0) b0 (data := []) (by simp) (fun x hx => (by cases hx))
      have hz : yy j = z := by unfold yy; rw [ez]
      show 0 < (mbytes (yy j)).length
      rw [hz]
      have := (mbytes_small vz tz).2.1
      omega
    obtain ⟨e7, v7⟩ := acc_new h4 vm tm (now := 100) (by omega) (by omega) (hne2 100) (by simp [rr]) (by
      have h8 : (List.range 16).map kk = kk 0 :: (List.range' 1 15).map kk := rfl
      show 0 + (fmem ((List.range 16).map kk) 100).length < 16
      rw [h8]
      have h9 : fmem (kk 0 :: (List.range' 1 15).map kk) 100 = fmem ((List.range' 1 15).map kk) 100 := rfl
      rw [h9]
      have := fmem_len ((List.range' 1 15).map kk) 100
      simp at this
      omega)
    have t7 := (sacc_T h5 hb 100).1
    rw [e7] at t7
    refine Ev.chk rfl (Ev.to hx (Ev.to (sAcc_eq hf h5 hbk 16) (Ev.to (sAcc_eq hf h5 hb 100) ?_)))
    rw [e6, e7]
    refine Ev.to (sNext_eq hf t7) ?_
    rw [snext_cons v7 (m := rqm 66 2 0 a1) (rest := []) rfl]
    refine Ev.beqT rfl (Ev.beqT rfl (Ev.beqT rfl (Ev.beqT rfl (Ev.beqT rfl (Ev.beqT e5 (Ev.decT (by simp only; omega) (Ev.beqT rfl (Ev.iteT rfl (Ev.to (sValid_eq hf h5) (Ev.ret (sval_iff.2 h4)))))))))))
end Lift
