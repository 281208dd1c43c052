import Derived.Test.YtahlmfpllhmjoaaGreatDoorCare
set_option linter.unusedVariables false
set_option linter.unusedSimpArgs false
namespace Lift
open Go
def frm (i:Nat) (p:Packet_):Frame_:=⟨16,64+(i:Int),(encR p).1⟩
def fr (i:Nat) (p:Packet_):List Int:=(encode (frm i p)).1
structure GP (p:Packet_):Prop where
  v:validB p=true
  b:∀ x∈p.Data,byte x
theorem GP.len {p:Packet_} (h:GP p):(encR p).1.length≤68:=by
  have:=validB_num h.v
  unfold encR
  rw [if_pos h.v]
  simp;omega
theorem frm_valid {p:Packet_} (h:GP p) {i:Nat} (hi:i<8):valid (frm i p)=true:=by
  have:=h.len
  exact valid_iff.2 ⟨⟨by simp [frm],by simp [frm]⟩,⟨by simp only [frm];omega,by simp only [frm];omega⟩,by simp only [frm];omega⟩
theorem frm_byte {p:Packet_} (h:GP p) (i:Nat):∀ x∈(frm i p).Data,byte x:=encR_byte h.v h.b
theorem fr_fb {p:Packet_} (h:GP p) {i:Nat} (hi:i<8):FB (fr i p):=enc_fb (frm_valid h hi) (frm_byte h i)
theorem fr_dec {p:Packet_} (h:GP p) {i:Nat} (hi:i<8):decode (fr i p)=(frm i p,0):=by
  have hv:=frm_valid h hi
  have:fr i p=body (frm i p)++[crc8 (body (frm i p))]:=by simp [fr,encode,hv]
  rw [this];exact decode_body hv
theorem fr_from {p q:Packet_} (hp:GP p) (hq:GP q) {i j:Nat} (hi:i<8) (hj:j<8) (e:fr i p=fr j q):i=j:=by
  have h1:=fr_dec hp hi
  rw [e,fr_dec hq hj] at h1
  simp only [Prod.mk.injEq,frm,Frame_.mk.injEq] at h1
  omega
theorem mg_gp {k i:Nat} {m:Message_} (h:(mg k i m).ok) {t:Nat} (ht:t<(mg k i m).N):GP ((mg k i m).p t)∧PK ((mg k i m).p t)∨¬ i<8:=by
  by_cases hi:i<8
  · left
    have hv:=h.v ht
    refine ⟨⟨hv,λ x hx=>h.mb x ?_⟩,hv,rfl,?_,rfl,rfl⟩
    · exact List.mem_of_mem_drop (List.mem_of_mem_take hx)
    · simp only [Mg.p,pkt,mg];omega
  · exact .inr hi
end Lift
