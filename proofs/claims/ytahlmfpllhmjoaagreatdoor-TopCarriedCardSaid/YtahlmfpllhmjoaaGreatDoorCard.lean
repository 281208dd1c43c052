import Derived.Test.YtahlmfpllhmjoaaGreatDoorCarc
set_option linter.unusedVariables false
set_option linter.unusedSimpArgs false
namespace Lift
open Go
structure Mg where
  frm:Int
  ow:Bool
  tag:Int
  k:Nat
  m:List Int
def Mg.N (g:Mg):Nat:=nsp g.k g.m
def Mg.p (g:Mg) (i:Nat):Packet_:=pkt 9 g.frm g.ow g.tag g.k g.m i
def Mg.o (g:Mg) (j:Nat):fragment_open:=⟨⟨g.frm,g.ow,g.tag,g.m.take (j*g.k)⟩,((piece g.k g.m 0).length:Int),(((j+3) % 4:Nat):Int)⟩
structure Mg.ok (g:Mg):Prop where
  k1:0<g.k
  k2:g.k≤64
  m1:0<g.m.length
  m2:g.m.length≤500
  mb:∀ x∈g.m,byte x
  e:endp g.frm=true
  t:0≤g.tag∧g.tag<8
theorem Mg.ok.v {g:Mg} (h:g.ok) {i:Nat} (hi:i<g.N):validB (g.p i)=true:=by
  have h1:=(nsp_lt h.k1).1 hi
  have hpl:=piece_len (k:=g.k) (xs:=g.m) (i:=i)
  have hk:=h.k1
  have hk2:=h.k2
  have hn:vnum (g.p i)=true:=decide_eq_true ⟨by simp only [Mg.p,pkt];omega,by simp only [Mg.p,pkt];omega,h.t.1,h.t.2,by show 1≤(piece g.k g.m i).length;rw [hpl];omega,by show (piece g.k g.m i).length≤64;rw [hpl];omega⟩
  show (endp 9&&(endp g.frm&&vnum _))=true
  rw [hn,h.e];decide
theorem one_first {g:Mg} (h:g.ok) (st:Option fragment_open):one st (g.p 0)=if g.N=1 then (⟨g.frm,g.ow,g.tag,g.m⟩,true,0,none) else (Whole_.z,false,0,some (g.o 1)):=by
  have hpos:0<g.N:=nsp_pos h.k1 h.m1
  have hlast:=nsp_last h.k1 (xs:=g.m) (i:=0) (by simpa using h.m1)
  unfold one
  rw [if_pos (by simp [Mg.p,pkt])]
  have hend:(g.p 0).End=decide (0+1=g.N):=rfl
  rw [hend]
  simp only [Nat.zero_mul,Nat.zero_add] at hlast
  by_cases hN:g.N=1
  · rw [if_pos (by simp [hN]),if_pos hN]
    have hm:g.m.take g.k=g.m:=List.take_of_length_le (hlast.1 hN.symm)
    simp only [wof,Mg.p,pkt,piece,Nat.zero_mul,List.drop_zero,hm]
  · rw [if_neg (by simp;omega),if_neg hN]
    simp only [oof,wof,Mg.p,Mg.o,pkt,piece,Nat.zero_mul,List.drop_zero,Nat.one_mul]
theorem one_next {g:Mg} (h:g.ok) {i:Nat} (hi:1≤i) (hN:i<g.N):one (some (g.o i)) (g.p i)=if i+1=g.N then (⟨g.frm,g.ow,g.tag,g.m⟩,true,0,none) else (Whole_.z,false,0,some (g.o (i+1))):=by
  have hk:=h.k1
  have hk2:=h.k2
  have hm2:=h.m2
  have h1:=(nsp_lt hk).1 hN
  have hlast:=nsp_last hk h1
  have hpl:=piece_len (k:=g.k) (xs:=g.m) (i:=i)
  have hpl0:=piece_len (k:=g.k) (xs:=g.m) (i:=0)
  simp only [Nat.zero_mul,Nat.sub_zero] at hpl0
  have htake:g.m.take (i*g.k)++piece g.k g.m i=g.m.take ((i+1)*g.k):=by rw [piece,Nat.add_mul,Nat.one_mul,List.take_add]
  have hb:bad (g.o i) (g.p i)=false:=by
    have s1:((g.p i).Sequence != ((g.o i).last+1) % 4)=false:=by
      simp only [Mg.p,Mg.o,pkt,bne_eq_false_iff_eq];omega
    have s2:decide ((g.o i).size<((g.p i).Data.length:Int))=false:=by
      simp only [Mg.o,Mg.p,pkt,hpl,hpl0,decide_eq_false_iff_not];omega
    have s3:(decide (((g.p i).Data.length:Int)<(g.o i).size)&&!(g.p i).End)=false:=by
      by_cases hN:i+1=g.N
      · have:(g.p i).End=true:=decide_eq_true hN
        rw [this];simp
      · have:¬ g.m.length≤i*g.k+g.k:=λ h=>hN (hlast.2 h)
        have:decide (((g.p i).Data.length:Int)<(g.o i).size)=false:=by
          simp only [Mg.o,Mg.p,pkt,hpl,hpl0,decide_eq_false_iff_not];omega
        rw [this];rfl
    simp only [bad,s1,s2,s3];rfl
  have hlen:(g.o i).whole.Data.length=i*g.k:=by simp only [Mg.o,List.length_take];omega
  have hg2:(grown (g.o i) (g.p i)).whole=⟨g.frm,g.ow,g.tag,g.m.take ((i+1)*g.k)⟩:=by simp only [grown,Mg.o,Mg.p,pkt,htake]
  have e1:(i+1)*g.k=i*g.k+g.k:=by rw [Nat.add_mul,Nat.one_mul]
  unfold one
  rw [if_neg (by simp [Mg.p,pkt];omega)]
  simp only [hb]
  rw [if_neg (by simp),if_neg (by rw [hlen];simp only [Mg.p,pkt,hpl];omega)]
  have hend:(g.p i).End=decide (i+1=g.N):=rfl
  rw [hend]
  by_cases hN:i+1=g.N
  · rw [if_pos (by simpa using hN),if_pos hN,hg2,List.take_of_length_le (by have:=hlast.1 hN;omega)]
  · rw [if_neg (by simpa using hN),if_neg hN]
    have:grown (g.o i) (g.p i)=⟨(grown (g.o i) (g.p i)).whole,((piece g.k g.m 0).length:Int),((i % 4:Nat):Int)⟩:=rfl
    rw [this,hg2]
    have:g.o (i+1)=⟨⟨g.frm,g.ow,g.tag,g.m.take ((i+1)*g.k)⟩,((piece g.k g.m 0).length:Int),((i % 4:Nat):Int)⟩:=by
      simp only [Mg.o,fragment_open.mk.injEq,true_and];omega
    rw [this]
end Lift
