import Derived.Test.YtahlmfpllhmjoaaGreatDoorCarg
set_option linter.unusedVariables false
set_option linter.unusedSimpArgs false
namespace Lift
open Go
structure SM (m:Message_):Prop where
  mt:MT m
  mv:MV m
  fn:m.Function % 2=0
theorem SM.req {m:Message_} (h:SM m):mreq m=(mbytes m,0):=by unfold mreq;rw [if_pos ⟨h.mv,h.fn⟩]
theorem SM.ok {m:Message_} (h:SM m) {k i:Nat} (hk:0<k) (hk2:k≤64) (hi:i<8):(mg k i m).ok:=by
  obtain ⟨a,b,c⟩:=mbytes_small h.mv h.mt
  have e2:endp (10+(i:Int))=true:=by simp only [endp,decide_eq_true_eq];omega
  have e3:(0:Int)≤1∧(1:Int)<8:=by decide
  exact ⟨hk,hk2,by simp only [mg];omega,by simp only [mg];omega,a.2,e2,e3⟩
theorem SM.split {m:Message_} (h:SM m) {k i:Nat} (hk:0<k) (hk2:k≤64) (hi:i<8):splitR 9 (10+(i:Int)) true 1 (k:Int) (mbytes m)=(pksOf k i m,0):=by
  obtain ⟨a,b,c⟩:=mbytes_small h.mv h.mt
  unfold splitR
  have e1:¬ (endp 9=false∨endp (10+(i:Int))=false):=by
    have e2:endp (10+(i:Int))=true:=by simp only [endp,decide_eq_true_eq];omega
    rw [e2];decide
  rw [if_neg e1,if_neg (by omega),if_neg (by omega),if_neg (by omega)]
  rfl
theorem SM.parse {m:Message_} (h:SM m):mparse false (mbytes m)=(m,0):=mparse_back h.mv h.mt false (by simpa using h.fn)
theorem MD.sm {m:Message_} (h:MD false m) {i:Nat} (hi:i<8) {d:List Int} (hd:∀ x∈d,byte x) (hl:(d.length:Int)≤20):SM { m with From:=64+(i:Int),Data:=d }:=by
  obtain ⟨t,v,f,_,_⟩:=h
  obtain ⟨v1,v2,v3,v4,v5,v6,v7,v8,v9,v10,v11,v12,v13⟩:=v
  refine ⟨⟨t.to,⟨by simp only;omega,by simp only;omega⟩,t.fn,t.cm,t.cd,t.tu,t.fu,t.sq,hd,by simp only;omega⟩,⟨v1,v2,by simp only;omega,by simp only;omega,v5,v6,v7,v8,v9,v10,v11,by simp only;omega,v13⟩,by simpa using f⟩
theorem put_fr {ms:List bus_master} {i:Nat} {m:bus_master} (hi:i<8) (h:ms[i]?=some m) (hq:m.queue.length<16) {p:Packet_} (hp:GP p):put ms (i:Int) (frm i p)=(0,ms.set i { m with queue:=m.queue++[fr i p] }):=put_fine h (frm_valid hp hi) hq
end Lift
