import Derived.Test.YtahlmfpllhmjoaaGreatDoorLiftP
import Derived.Test.YtahlmfpllhmjoaaGreatDoorPlain
set_option linter.unusedVariables false
set_option linter.unusedSimpArgs false
namespace Lift
open Go
def byte (v:Int):Prop:=0≤v∧v≤255
def it {α:Type} (f:α→α):Nat→α→α
  | 0,x=>x
  | n+1,x=>f (it f n x)
theorem it_eq {α:Type} {f g:α→α} {P:α→Prop} (h:∀ x,P x→f x=g x∧P (f x)) {x:α} (hx:P x):∀ n,it f n x=it g n x∧P (it f n x)
  | 0=>⟨rfl,hx⟩
  | n+1=>by
    obtain ⟨e,hp⟩:=it_eq h hx n
    simp only [it]
    exact ⟨by rw [(h _ hp).1,e],(h _ hp).2⟩
theorem xor_byte {a b:Int} (ha:byte a) (hb:byte b):bXor .u8 a b=bXor .i64 a b∧byte (bXor .u8 a b):=by
  obtain ⟨m,rfl⟩:∃ n:Nat,a=n:=⟨a.toNat,by have:=ha.1;omega⟩
  obtain ⟨n,rfl⟩:∃ n:Nat,b=n:=⟨b.toNat,by have:=hb.1;omega⟩
  have h1:=ha.2
  have h2:=hb.2
  rw [xor_u8 (by omega) (by omega),xor_i64 (by omega) (by omega)]
  have:=Nat.xor_lt_two_pow (n:=8) (show m<2 ^ 8 by omega) (show n<2 ^ 8 by omega)
  exact ⟨rfl,by constructor<;>omega⟩
def Small (l:List Int):Prop:=l.length≤5000∧∀ x∈l,byte x
theorem fold_eq {α β:Type} {f g:α→β→α} {P:α→Prop} (l:List β) (h:∀ s x,P s→x∈l→f s x=g s x∧P (f s x)):∀ s,P s→l.foldl f s=l.foldl g s∧P (l.foldl f s):=by
  induction l with
  | nil=>intro s hs;exact ⟨rfl,hs⟩
  | cons x l ih =>
    intro s hs
    obtain ⟨e,hp⟩:=h s x hs (by simp)
    simp only [List.foldl_cons]
    have:=ih (λ s y hs hy=>h s y hs (by simp [hy])) _ hp
    rw [← e];exact this
theorem wi (i:Nat) (h:i≤100000):IntKind.i64.wrap ((i:Int)+1)=(i:Int)+1:=w_i64 (by omega) (by omega)
def f8 (v:Int):Int:=bXor .u8 (bShl .u8 v 1) (IntKind.u8.wrap ((bShr .u8 v 7)*7))
def r8 (v:Int):Int:=if IntKind.i64.wrap (2*v)≥256 then bXor .i64 (IntKind.i64.wrap (IntKind.i64.wrap (2*v)-256)) 7 else IntKind.i64.wrap (2*v)
theorem f8_fin:∀ v:Fin 256,f8 (v.val:Int)=r8 (v.val:Int)∧0≤f8 (v.val:Int)∧f8 (v.val:Int)≤255:=by decide +kernel
theorem f8_eq {v:Int} (h:byte v):f8 v=r8 v∧byte (f8 v):=by
  obtain ⟨n,rfl⟩:∃ n:Nat,v=n:=⟨v.toNat,by have:=h.1;omega⟩
  have:=f8_fin ⟨n,by have:=h.2;omega⟩
  exact ⟨this.1,this.2⟩
def crc8 (l:List Int):Int:=l.foldl (λ s x=>it f8 8 (bXor .u8 s x)) 0
def crc8r (l:List Int):Int:=l.foldl (λ s x=>it r8 8 (bXor .i64 s x)) 0
theorem crc8_step {s x:Int} (hs:byte s) (hx:byte x):it f8 8 (bXor .u8 s x)=it r8 8 (bXor .i64 s x)∧byte (it f8 8 (bXor .u8 s x)):=by
  obtain ⟨e,hb⟩:=xor_byte hs hx
  rw [← e];exact it_eq (λ _=>f8_eq) hb 8
theorem crc8_eq {l:List Int} (h:Small l):crc8 l=crc8r l∧byte (crc8 l) :=
  fold_eq l (λ s x hs hx=>crc8_step hs (h.2 x hx)) 0 ⟨by decide,by decide⟩
theorem checksum_CRC8_eq {fuel:Nat} {l:List Int} (h:Small l) (hf:5000<fuel):checksum_CRC8 fuel l=some (crc8 l):=by
  have hl:=h.1
  unfold checksum_CRC8
  refine fold_run (λ s x=>it f8 8 (bXor .u8 s x)) byte ⟨by decide,by decide⟩ (λ s x hs hx=>(crc8_step hs (h.2 x hx)).2) (by omega) (λ s i x hs hx k=>?_) (λ k=>by simp [crc8])
  have hi:=lt_len hx
  simp only [show ((i:Int)<(l.length:Int)) by omega,decide_true,iteP_true,idx_nat,hx,bindP_some]
  refine loop_run (λ j=>(it f8 j (bXor .u8 s x),(j:Int))) 8 rfl (by omega) (λ j hj k2=>?_) (λ k2=>?_)
  · simp only [show ((j:Int)<8) by omega,decide_true,iteP_true,letP_eq,wi j (by omega)];rfl
  · simp only [show ¬ (((8:Nat):Int)<8) by omega,decide_false,iteP_false,wi i (by omega)]
theorem app_ok {α:Type} {b:Nat} {l m:List α} (h:(l.length+m.length)*b≤140737488355328):app b l m=some (l++m):=by simp [app,h]
theorem sub_ok {α:Type} {l:List α} {a b:Nat} (h1:a≤b) (h2:b≤l.length):sub l (a:Int) (b:Int)=some ((l.drop a).take (b-a)):=by
  have:(0:Int)≤a∧(a:Int)≤b∧(b:Int)≤l.length:=by omega
  simp [sub,this]
theorem sub_take {α:Type} {l:List α} {b:Int} (h1:0≤b) (h2:b≤l.length):sub l 0 b=some (l.take b.toNat):=by
  obtain ⟨n,rfl⟩:=Int.eq_ofNat_of_zero_le h1
  have:=sub_ok (l:=l) (a:=0) (b:=n) (by omega) (by omega)
  simpa using this
theorem clone_eq {fuel:Nat} {l:List Int} (h:l.length≤100000):slices_Clone_byte_byte fuel l=some l:=by
  unfold slices_Clone_byte_byte
  rw [app_ok (by simp;omega)];simp
theorem wl' {l:List Int} {k:Int} (h:l.length≤100000) (h1:0≤k) (h2:k≤100000):IntKind.i64.wrap ((l.length:Int)-k)=(l.length:Int)-k:=w_i64 (by omega) (by omega)
def last (l:List Int):Int:=l.getLastD 0
theorem idx_last {l:List Int} (h:l≠[]):idx l ((l.length:Int)-1)=some (last l):=by
  have hl:0<l.length:=by cases l with | nil=>exact absurd rfl h | cons _ _=>simp
  have e:((l.length:Int)-1)=((l.length-1:Nat):Int):=by omega
  rw [e,idx_nat,last,List.getLastD_eq_getLast?,List.getLast?_eq_getElem?]
  have : l[l.length - 1]? = some (l[l.length - 1]'(by omega)) := by simp
  rw [this];rfl
theorem Small.take {l:List Int} (h:Small l) (n:Nat):Small (l.take n):=⟨by have:=h.1;simp;omega,λ x hx=>h.2 x (List.mem_of_mem_take hx)⟩
theorem Small.drop {l:List Int} (h:Small l) (n:Nat):Small (l.drop n):=⟨by have:=h.1;simp;omega,λ x hx=>h.2 x (List.mem_of_mem_drop hx)⟩
theorem list_ext_all {a b:List Int} (hl:a.length=b.length) (h:∀ i:Nat,i<a.length→a[i]?=b[i]?):a=b:=by
  apply List.ext_getElem?
  intro i
  by_cases hi:i<a.length
  · exact h i hi
  · rw [List.getElem?_eq_none (by omega),List.getElem?_eq_none (by omega)]
theorem same_loop {a b:List Int} (hl:a.length=b.length) (ha:a.length≤100000) {fuel:Nat} (hf:a.length<fuel) {step:(Int→Option Bool)→Int→Option Bool}
    (hs:∀ (i:Nat) x y,a[i]?=some x→b[i]?=some y→∀ k,step k (i:Int)=if x=y then k ((i:Int)+1) else some false) (he:∀ k,step k (a.length:Int)=some true):loopP step fuel 0=some (decide (a=b)):=by
  by_cases hab:a=b
  · subst hab
    refine (loop_run (init:=0) (s:=λ i=>((i:Nat):Int)) a.length rfl hf (λ i hi k=>?_) he).trans (by simp)
    have hx : a[i]? = some (a[i]'hi) := by simp
    rw [hs i _ _ hx hx k];simp
  · -- the first place where they differ
    have hne:∃ i:Nat,i<a.length∧a[i]?≠b[i]?:=by
      refine Classical.byContradiction λ hn=>hab (list_ext_all hl λ i hi=>?_)
      exact Classical.byContradiction λ h2=>hn ⟨i,hi,h2⟩
    have hmin:∃ i:Nat,i<a.length∧a[i]?≠b[i]?∧∀ j,j<i→a[j]?=b[j]?:=by
      obtain ⟨i,hi,hd⟩:=hne
      induction i using Nat.strongRecOn with
      | _ i ih =>
        by_cases hc:∃ j,j<i∧a[j]?≠b[j]?
        · obtain ⟨j,hj,hjd⟩:=hc
          exact ih j hj (by omega) hjd
        · exact ⟨i,hi,hd,λ j hj=>Classical.byContradiction λ h2=>hc ⟨j,hj,h2⟩⟩
    obtain ⟨i,hi,hd,hb⟩:=hmin
    obtain ⟨x,hx⟩:∃ x,a[i]?=some x:=⟨_,List.getElem?_eq_getElem hi⟩
    obtain ⟨y,hy⟩:∃ y,b[i]?=some y:=⟨_,List.getElem?_eq_getElem (by omega)⟩
    have hxy:x≠y:=λ e=>hd (by rw [hx,hy,e])
    refine (loop_run (init:=0) (s:=λ i=>((i:Nat):Int)) i rfl (by omega) (λ j hj k=>?_) (λ k=>(hs i x y hx hy k).trans (if_neg hxy))).trans (by simp [hab])
    obtain ⟨z,hz⟩:∃ z,a[j]?=some z:=⟨_,List.getElem?_eq_getElem (by omega)⟩
    rw [hs j _ _ hz (by rw [← hb j hj];exact hz) k];simp
theorem Same_eq {fuel:Nat} {a b:List Int} (ha:a.length≤100000) (hf:a.length<fuel):ref01_Same fuel a b=some (decide (a=b)):=by
  unfold ref01_Same
  by_cases hl:a.length=b.length
  · have e0:((a.length:Int) != (b.length:Int))=false:=by simp [hl]
    rw [e0,iteP_false]
    refine same_loop hl ha hf (λ i x y hx hy k=>?_) (λ k=>?_)
    · have hi:=lt_len hx
      simp only [show ((i:Int)<(a.length:Int)) by omega,decide_true,iteP_true,idx_nat,hx,hy,bindP_some,letP_eq,wi i (by omega),iteP_eq]
      by_cases e:x=y<;>simp [e]
    · simp
  · have e0:((a.length:Int) != (b.length:Int))=true:=by simp;omega
    rw [e0,iteP_true]
    have:a≠b:=λ e=>hl (by rw [e])
    simp [this]
theorem sub_drop {l:List Int} {b:Int} (h1:0≤b) (h2:b≤l.length):sub l b (l.length:Int)=some (l.drop b.toNat):=by
  obtain ⟨n,rfl⟩:=Int.eq_ofNat_of_zero_le h1
  have:=sub_ok (l:=l) (a:=n) (b:=l.length) (by omega) (by omega)
  rw [this];congr 1
  rw [List.take_of_length_le (by simp)];rfl
theorem SealCRC8_eq {fuel:Nat} {l:List Int} (h:Small l) (hf:5000<fuel):checksum_SealCRC8 fuel l=some (l++[crc8 l]):=by
  have:=h.1
  unfold checksum_SealCRC8
  rw [clone_eq (by omega),bindP_some,checksum_CRC8_eq h hf,bindP_some,app_ok (by simp;omega)];rfl
def openC (l:List Int):List Int×Int:=if l=[] then ([],4) else if crc8 (l.take (l.length-1))=last l then (l.take (l.length-1),0) else ([],5)
theorem OpenCRC8_eq {fuel:Nat} {l:List Int} (h:Small l) (hf:5000<fuel):checksum_OpenCRC8 fuel l=some (openC l):=by
  have hl:=h.1
  unfold checksum_OpenCRC8 openC
  by_cases h0:l=[]
  · subst h0;rfl
  · have hp:0<l.length:=by cases l with | nil=>exact absurd rfl h0 | cons _ _=>simp
    have e1:((l.length:Int)-1).toNat=l.length-1:=by omega
    have ed:decide (((l.length:Int)-1)<0)=false:=by simp;omega
    simp only [letP_eq,wl' (show l.length≤100000 by omega) (show (0:Int)≤1 by omega) (show (1:Int)≤100000 by omega),ed,iteP_false,h0,if_false]
    rw [sub_take (by omega) (by omega),bindP_some,e1,checksum_CRC8_eq (h.take _) hf,bindP_some,idx_last h0,bindP_some]
    by_cases hs:crc8 (l.take (l.length-1))=last l
    · simp only [hs,bne_self_eq_false,iteP_false,if_true]
      rw [bindP_some,clone_eq (by simp;omega),bindP_some]
    · have e:(crc8 (l.take (l.length-1)) != last l)=true:=by simpa using hs
      simp only [e,iteP_true,hs,if_false]
def addr (a:Int):Bool:=decide (8≤a)&&decide (a≤119)
def valid (f:Frame_):Bool:=addr f.To&&(addr f.From&&decide (f.Data.length≤72))
theorem address_eq (fuel:Nat) (a:Int):frame_address fuel a=some (addr a):=by
  unfold frame_address addr
  by_cases h:8≤a<;>simp [h]
theorem Valid_eq (fuel:Nat) (f:Frame_):frame_Valid fuel f=some (valid f):=by
  unfold frame_Valid valid
  rw [address_eq,address_eq]
  cases addr f.To<;>cases addr f.From<;>simp
  omega
def head (f:Frame_):List Int:=[2*f.To,15,f.Data.length+1,2*f.From+1]
def body (f:Frame_):List Int:=head f++f.Data
def encode (f:Frame_):List Int×Int:=if valid f then (body f++[crc8 (body f)],0) else ([],1)
theorem valid_iff {f:Frame_}:valid f=true↔(8≤f.To∧f.To≤119)∧(8≤f.From∧f.From≤119)∧f.Data.length≤72:=by
  simp [valid,addr]
theorem body_small {f:Frame_} (h:valid f=true) (hd:∀ x∈f.Data,byte x):Small (body f):=by
  obtain ⟨⟨h1,h2⟩,⟨h3,h4⟩,h5⟩:=valid_iff.1 h
  refine ⟨by simp [body,head];omega,λ x hx=>?_⟩
  simp only [body,head,List.cons_append,List.nil_append,List.mem_cons] at hx
  rcases hx with rfl | rfl | rfl | rfl | hx
  · constructor<;>omega
  · constructor<;>omega
  · constructor<;>omega
  · constructor<;>omega
  · exact hd x hx
theorem Encode_eq {fuel:Nat} {f:Frame_} (hd:∀ x∈f.Data,byte x) (hf:5000<fuel):frame_Encode fuel f=some (encode f):=by
  unfold frame_Encode encode
  rw [Valid_eq,bindP_some]
  cases h:valid f with
  | false=>rfl
  | true =>
    obtain ⟨⟨h1,h2⟩,⟨h3,h4⟩,h5⟩:=valid_iff.1 h
    have e1:IntKind.u8.wrap (2*f.To)=2*f.To:=by rw [w_u8];omega
    have e2:IntKind.u8.wrap (IntKind.i64.wrap ((f.Data.length:Int)+1))=(f.Data.length:Int)+1:=by rw [w_i64 (by omega) (by omega),w_u8];omega
    have e3:IntKind.u8.wrap (IntKind.u8.wrap (2*f.From)+1)=2*f.From+1:=by rw [w_u8,w_u8];omega
    rw [e1,e2,e3]
    simp only [Bool.not_true,iteP_false,if_true]
    rw [app_ok (by simp;omega),bindP_some]
    show bindP (checksum_SealCRC8 fuel (body f)) _=_
    rw [SealCRC8_eq (body_small h hd) hf];rfl
def decode (l:List Int):Frame_×Int :=
  if l.length<5 then (Frame_.z,4) else if crc8 (l.take (l.length-1))≠last l then (Frame_.z,5) else
    match l.take (l.length-1) with
    | b0::b1::b2::b3::D =>
      if b0 % 2=0∧b1=15∧b2=(l.length:Int)-4∧b3 % 2=1 then
        (if addr (b0 / 2)&&addr (b3 / 2) then (if D.length≤72 then (⟨b0 / 2,b3 / 2,D⟩,0) else (Frame_.z,3)) else (Frame_.z,13))
      else (Frame_.z,6)
    | _=>(Frame_.z,4)
theorem take_four {l:List Int} (h:¬ l.length<5):∃ b0 b1 b2 b3 D,l.take (l.length-1)=b0::b1::b2::b3::D∧D.length=l.length-5:=by
  have hlen:(l.take (l.length-1)).length=l.length-1:=by simp
  match hm:l.take (l.length-1),hlen with
  | b0::b1::b2::b3::D,hl=>exact ⟨b0,b1,b2,b3,D,rfl,by simp at hl;omega⟩
  | [],hl=>simp at hl;omega
  | [_],hl=>simp at hl;omega
  | [_,_],hl=>simp at hl;omega
  | [_,_,_],hl=>simp at hl;omega
theorem half {b:Int} (h:byte b):IntKind.u8.wrap (Int.tdiv b 2)=b / 2∧Int.tmod b 2=b % 2:=by
  obtain ⟨h1,h2⟩:=h
  rw [Int.tdiv_eq_ediv_of_nonneg h1,Int.tmod_eq_emod_of_nonneg h1,w_u8]
  omega
theorem Decode_eq {fuel:Nat} {l:List Int} (h:Small l) (hf:5000<fuel):frame_Decode fuel l=some (decode l):=by
  have hl:=h.1
  unfold frame_Decode decode
  by_cases h0:l.length<5
  · have ed:decide ((l.length:Int)<5)=true:=by simp;omega
    rw [ed,if_pos h0];rfl
  · have ed:decide ((l.length:Int)<5)=false:=by simp;omega
    have hne:l≠[]:=by intro e;subst e;simp at h0
    rw [ed,iteP_false,if_neg h0,OpenCRC8_eq h hf,bindP_some]
    by_cases hs:crc8 (l.take (l.length-1))=last l
    · have eo:openC l=(l.take (l.length-1),0):=by simp [openC,hne,hs]
      obtain ⟨b0,b1,b2,b3,D,hb,hD⟩:=take_four h0
      have hby:=(h.take (l.length-1)).2
      rw [hb] at hs hby eo ⊢
      rw [eo]
      have c0:=half (hby b0 (by simp))
      have c3:=half (hby b3 (by simp))
      obtain ⟨d1,d2⟩:=hby b2 (by simp)
      have i0:idx (b0::b1::b2::b3::D) 0=some b0:=rfl
      have i1:idx (b0::b1::b2::b3::D) 1=some b1:=rfl
      have i2:idx (b0::b1::b2::b3::D) 2=some b2:=rfl
      have i3:idx (b0::b1::b2::b3::D) 3=some b3:=rfl
      have sd:sub (b0::b1::b2::b3::D) 4 (b0::b1::b2::b3::D).length=some D:=by
        have:=sub_drop (l:=b0::b1::b2::b3::D) (b:=4) (by omega) (by simp;omega)
        simpa using this
      have hn:¬ crc8 (b0::b1::b2::b3::D)≠last l:=by simpa using hs
      have w2:IntKind.i64.wrap b2=b2:=w_i64 (by omega) (by omega)
      have wl4:IntKind.i64.wrap ((l.length:Int)-4)=(l.length:Int)-4:=w_i64 (by omega) (by omega)
      rw [if_neg hn]
      simp only [bne_self_eq_false,iteP_false,i0,i1,i2,i3,sd,bindP_some,c0.1,c0.2,c3.1,c3.2,w2,wl4,joinP_eq,letP_eq]
      rw [clone_eq (by omega),bindP_some]
      simp only [iteP_eq,address_eq,bindP_some]
      by_cases t0:b0 % 2=0
      · by_cases t1:b1=15
        · by_cases t2:b2=(l.length:Int)-4
          · by_cases t3:b3 % 2=1
            · have t3':¬ b3 % 2=0:=by omega
              cases a1:addr (b0 / 2)<;>cases a2:addr (b3 / 2)<;>by_cases t4:D.length≤72<;>simp [t0,t1,t2,t3,a1,a2,t4]<;>omega
            · have t3':b3 % 2=0:=by omega
              simp [t0,t1,t2,t3']
          · simp [t0,t1,t2]
        · simp [t0,t1]
      · simp [t0]
    · have eo:openC l=([],5):=by simp [openC,hne,hs]
      rw [eo,if_pos hs];rfl
theorem last_take {l:List Int} (h:l≠[]):l=l.take (l.length-1)++[last l]:=by
  have hl:0<l.length:=by cases l with | nil=>exact absurd rfl h | cons _ _=>simp
  have e : last l = l[l.length - 1]'(by omega) := by
    rw [last,List.getLastD_eq_getLast?,List.getLast?_eq_getElem?,List.getElem?_eq_getElem (by omega)];rfl
  rw [e]
  conv=>lhs;rw [← List.take_length (l:=l)]
  have:l.length=(l.length-1)+1:=by omega
  conv=>lhs;rw [this]
  rw [List.take_add_one,List.getElem?_eq_getElem (by omega)];rfl
theorem decode_encode {l:List Int} {f:Frame_} (h:Small l) (hd:decode l=(f,0)):valid f=true∧encode f=(l,0)∧∀ x∈f.Data,byte x:=by
  unfold decode at hd
  split at hd
  · simp at hd
  · rename_i h0
    split at hd
    · simp at hd
    · rename_i hs
      obtain ⟨b0,b1,b2,b3,D,hb,hD⟩:=take_four h0
      have hby:=(h.take (l.length-1)).2
      have hne:l≠[]:=by intro e;subst e;simp at h0
      have hsp:=last_take hne
      rw [hb] at hd hby hs hsp
      simp only at hd
      split at hd
      · rename_i hc
        obtain ⟨t0,t1,t2,t3⟩:=hc
        split at hd
        · rename_i ha
          split at hd
          · rename_i hl72
            simp only [Prod.mk.injEq,and_true] at hd
            subst hd
            simp only [Bool.and_eq_true,addr,decide_eq_true_eq] at ha
            have hv:valid ⟨b0 / 2,b3 / 2,D⟩=true:=valid_iff.2 ⟨by simpa using ha.1,by simpa using ha.2,hl72⟩
            have hbody:body ⟨b0 / 2,b3 / 2,D⟩=b0::b1::b2::b3::D:=by
              simp only [body,head,List.cons_append,List.nil_append,List.cons.injEq,and_true]
              refine ⟨by omega,t1.symm,by omega,by omega⟩
            refine ⟨hv,?_,λ x hx=>hby x (by simp [hx])⟩
            unfold encode
            rw [hv,hbody]
            simp only [if_true]
            have hs':crc8 (b0::b1::b2::b3::D)=last l:=by simpa using hs
            rw [hs',← hsp]
          · simp at hd
        · simp at hd
      · simp at hd
def cmpL:List Int→List Int→Int
  | [],[]=>0
  | [],_::_=>-1
  | _::_,[]=>1
  | x::a,y::b=>if x<y then -1 else if y<x then 1 else cmpL a b
theorem get_bytes (l:List Int) (i:Nat):(bytesI l)[i]! = ((Lib.bytesOf l)[i]?).getD default:=by
  have hs:(bytesI l).size=(Lib.bytesOf l).length:=by simp [bytesI,ByteArray.size]
  by_cases h:i<(Lib.bytesOf l).length
  · rw [getElem!_pos (bytesI l) i (by rw [hs];exact h)]
    simp [bytesI,h]
    rfl
  · rw [getElem!_neg (bytesI l) i (by rw [hs];exact h)]
    simp [List.getElem?_eq_none (Nat.le_of_not_lt h)]
theorem bsz (l:List Int):(bytesI l).size=l.length:=by simp [bytesI,ByteArray.size,Lib.bytesOf]
theorem ofNat_lt {x y:Int} (hx:byte x) (hy:byte y):(UInt8.ofNat x.toNat<UInt8.ofNat y.toNat↔x<y)∧(UInt8.ofNat x.toNat=UInt8.ofNat y.toNat↔x=y):=by
  obtain ⟨a1,a2⟩:=hx
  obtain ⟨b1,b2⟩:=hy
  constructor
  · rw [UInt8.lt_iff_toNat_lt];simp;omega
  · rw [← UInt8.toNat_inj];simp;omega
theorem cmpB_eq:∀ (a b:List Int),(∀ x∈a,byte x)→(∀ x∈b,byte x)→cmpB a b=cmpL a b
  | [],[],_,_=>rfl
  | [],y::b,_,_=>by unfold cmpB Extern.BytealgCompare.cmp;rw [bsz,bsz];simp [cmpL]
  | x::a,[],_,_=>by unfold cmpB Extern.BytealgCompare.cmp;rw [bsz,bsz];simp [cmpL]
  | x::a,y::b,ha,hb=>by
    have ih:=cmpB_eq a b (λ z hz=>ha z (by simp [hz])) (λ z hz=>hb z (by simp [hz]))
    obtain ⟨o1,o2⟩:=ofNat_lt (ha x (by simp)) (hb y (by simp))
    obtain ⟨o3,_⟩:=ofNat_lt (hb y (by simp)) (ha x (by simp))
    have sz:∀ (z:Int) (l:List Int),(bytesI (z::l)).size=(bytesI l).size+1:=λ z l=>by rw [bsz,bsz];rfl
    have g0:∀ (z:Int) (l:List Int),(bytesI (z::l))[0]! = UInt8.ofNat z.toNat:=λ z l=>by rw [get_bytes];simp [Lib.bytesOf]
    have gs:∀ (z:Int) (l:List Int) (i:Nat),(bytesI (z::l))[i+1]! = (bytesI l)[i]! := λ z l i=>by rw [get_bytes,get_bytes];simp [Lib.bytesOf]
    simp only [cmpL,← ih]
    unfold cmpB Extern.BytealgCompare.cmp
    rw [sz,sz,Nat.add_min_add_right,List.range_succ_eq_map,List.find?_cons,g0,g0]
    by_cases hxy:x=y
    · subst hxy
      have e:(UInt8.ofNat x.toNat != UInt8.ofNat x.toNat)=false:=by simp
      rw [e]
      simp only [Int.lt_irrefl,if_false]
      rw [List.find?_map]
      have ec:((λ i=>(bytesI (x::a))[i]! != (bytesI (x::b))[i]!) ∘ Nat.succ)=(λ i=>(bytesI a)[i]! != (bytesI b)[i]!):=by
        funext i;simp only [Function.comp,Nat.succ_eq_add_one,gs]
      rw [ec]
      cases List.find? (λ i=>(bytesI a)[i]! != (bytesI b)[i]!) (List.range (min (bytesI a).size (bytesI b).size)) with
      | none=>simp only [Option.map_none];simp
      | some i=>simp only [Option.map_some,Nat.succ_eq_add_one,gs]
    · have e:(UInt8.ofNat x.toNat != UInt8.ofNat y.toNat)=true:=by simp only [bne_iff_ne,ne_eq,o2];exact hxy
      rw [e]
      simp only [g0,o1]
      by_cases h:x<y
      · simp [h]
      · have:y<x:=by omega
        simp [h,this]
theorem cmpL_self:∀ a:List Int,cmpL a a=0
  | []=>rfl
  | x::a=>by simp [cmpL,cmpL_self a]
theorem Compare_eq (fuel:Nat) (a b:List Int) (ha:∀ x∈a,byte x) (hb:∀ x∈b,byte x):frame_Compare fuel a b=some (cmpL a b):=by
  unfold frame_Compare bytes_Compare
  rw [bindP_some,cmpB_eq a b ha hb]
theorem encode_ok {f:Frame_} (h:valid f=true) (hd:∀ x∈f.Data,byte x):encode f=(body f++[crc8 (body f)],0)∧(∀ x∈body f++[crc8 (body f)],byte x)∧5≤(body f++[crc8 (body f)]).length∧(body f++[crc8 (body f)]).length≤100:=by
  have hs:=body_small h hd
  obtain ⟨_,_,h5⟩:=valid_iff.1 h
  refine ⟨by simp [encode,h],λ x hx=>?_,by simp [body,head],by simp [body,head];omega⟩
  rcases List.mem_append.1 hx with hx | hx
  · exact hs.2 x hx
  · simp at hx;subst hx;exact (crc8_eq hs).2
theorem decode_body {f:Frame_} (hv:valid f=true):decode (body f++[crc8 (body f)])=(f,0):=by
  obtain ⟨⟨h1,h2⟩,⟨h3,h4⟩,h5⟩:=valid_iff.1 hv
  have hl:(body f++[crc8 (body f)]).length=f.Data.length+5:=by simp [body,head]
  have ht:(body f++[crc8 (body f)]).take ((body f++[crc8 (body f)]).length-1)=body f:=by simp
  have hla:last (body f++[crc8 (body f)])=crc8 (body f):=by simp [last,List.getLastD_eq_getLast?]
  unfold decode
  rw [ht,hla,hl]
  have c0:¬ (f.Data.length+5<5):=by omega
  rw [if_neg c0,if_neg (by simp)]
  have eb:body f=2*f.To::15::((f.Data.length:Int)+1)::(2*f.From+1)::f.Data:=rfl
  rw [eb]
  simp only
  have a1:2*f.To / 2=f.To:=by omega
  have a2:(2*f.From+1) / 2=f.From:=by omega
  have t1:addr f.To=true:=by simp [addr];omega
  have t2:addr f.From=true:=by simp [addr];omega
  rw [if_pos ⟨by omega,by simp,by push_cast;omega,by omega⟩,a1,a2,t1,t2,if_pos h5]
  rfl
theorem cmpL_zero:∀ a b:List Int,cmpL a b=0→a=b
  | [],[]=>λ _=>rfl
  | [],_::_=>λ h=>by simp [cmpL] at h
  | _::_,[]=>λ h=>by simp [cmpL] at h
  | x::a,y::b=>λ h=>by
    simp only [cmpL] at h
    split at h
    · omega
    · split at h
      · omega
      · rw [cmpL_zero a b h];congr 1;omega
def g8 (v:Int):Int:=if v % 2=1 then bXor .u8 v 7 / 2+128 else v / 2
theorem g8_fin:∀ v:Fin 256,g8 (f8 (v.val:Int))=(v.val:Int):=by decide +kernel
theorem f8_inj {v w:Int} (hv:byte v) (hw:byte w) (h:f8 v=f8 w):v=w:=by
  obtain ⟨a1,a2⟩:=hv
  obtain ⟨b1,b2⟩:=hw
  have e1:=g8_fin ⟨v.toNat,by omega⟩
  have e2:=g8_fin ⟨w.toNat,by omega⟩
  simp only at e1 e2
  rw [Int.toNat_of_nonneg a1] at e1
  rw [Int.toNat_of_nonneg b1] at e2
  rw [← e1,← e2,h]
theorem it_f8_inj:∀ (n:Nat) {v w:Int},byte v→byte w→it f8 n v=it f8 n w→v=w
  | 0,_,_,_,_,h=>h
  | n+1,v,w,hv,hw,h=>by
    have b1:=(it_eq (P:=byte) (f:=f8) (g:=r8) (λ x hx=>f8_eq hx) hv n).2
    have b2:=(it_eq (P:=byte) (f:=f8) (g:=r8) (λ x hx=>f8_eq hx) hw n).2
    exact it_f8_inj n hv hw (f8_inj b1 b2 h)
theorem xor_cancel {a b c:Int} (ha:byte a) (hb:byte b) (hc:byte c) (h:bXor .u8 a c=bXor .u8 b c):a=b:=by
  obtain ⟨x,rfl⟩:∃ n:Nat,a=n:=⟨a.toNat,by have:=ha.1;omega⟩
  obtain ⟨y,rfl⟩:∃ n:Nat,b=n:=⟨b.toNat,by have:=hb.1;omega⟩
  obtain ⟨z,rfl⟩:∃ n:Nat,c=n:=⟨c.toNat,by have:=hc.1;omega⟩
  have h1:=ha.2
  have h2:=hb.2
  have h3:=hc.2
  rw [xor_u8 (by omega) (by omega),xor_u8 (by omega) (by omega)] at h
  have h':x ^^^ z=y ^^^ z:=by omega
  have:x=y:=by
    have e:=congrArg (· ^^^ z) h'
    simpa [Nat.xor_assoc] using e
  rw [this]
theorem xor_comm8 {a b:Int} (ha:byte a) (hb:byte b):bXor .u8 a b=bXor .u8 b a:=by
  obtain ⟨x,rfl⟩:∃ n:Nat,a=n:=⟨a.toNat,by have:=ha.1;omega⟩
  obtain ⟨y,rfl⟩:∃ n:Nat,b=n:=⟨b.toNat,by have:=hb.1;omega⟩
  have h1:=ha.2
  have h2:=hb.2
  rw [xor_u8 (by omega) (by omega),xor_u8 (by omega) (by omega),Nat.xor_comm]
def st8 (s x:Int):Int:=it f8 8 (bXor .u8 s x)
theorem st8_byte {s x:Int} (hs:byte s) (hx:byte x):byte (st8 s x):=(crc8_step hs hx).2
theorem st8_ne {l:List Int} (hl:∀ x∈l,byte x):∀ {s t:Int},byte s→byte t→l.foldl st8 s=l.foldl st8 t→s=t:=by
  induction l with
  | nil=>intro s t _ _ h;exact h
  | cons x l ih =>
    intro s t hs ht h
    have hx:=hl x (by simp)
    have h1:=ih (λ y hy=>hl y (by simp [hy])) (st8_byte hs hx) (st8_byte ht hx) h
    exact xor_cancel hs ht hx (it_f8_inj 8 (xor_byte hs hx).2 (xor_byte ht hx).2 h1)
theorem st8_set {l:List Int} (hl:∀ x∈l,byte x) {i:Nat} {x v:Int} (hv:byte v):∀ {s:Int},byte s→l[i]?=some x→(l.set i v).foldl st8 s=l.foldl st8 s→v=x:=by
  induction l generalizing i with
  | nil=>intro s hs h;simp at h
  | cons y l ih =>
    intro s hs h he
    have hy:=hl y (by simp)
    have hl':∀ z∈l,byte z:=λ z hz=>hl z (by simp [hz])
    cases i with
    | zero =>
      simp at h
      subst h
      have h1:=st8_ne hl' (st8_byte hs hv) (st8_byte hs hy) (by simpa using he)
      have h2:=it_f8_inj 8 (xor_byte hs hv).2 (xor_byte hs hy).2 h1
      rw [xor_comm8 hs hv,xor_comm8 hs hy] at h2
      exact xor_cancel hv hy hs h2
    | succ i=>exact ih hl' (st8_byte hs hy) (by simpa using h) (by simpa using he)
theorem crc8_set {l:List Int} (hl:∀ x∈l,byte x) {i:Nat} {x v:Int} (hv:byte v) (h:l[i]?=some x) (he:crc8 (l.set i v)=crc8 l):v=x:=st8_set hl hv ⟨by decide,by decide⟩ h he
def oks (x:List Int):Bool:=(decode x).2==0
def FB (x:List Int):Prop:=(∀ b∈x,byte b)∧5≤x.length∧x.length≤100∧oks x=true
theorem fb_body {x:List Int} (h:FB x):∃ f,valid f=true∧x=body f++[crc8 (body f)]∧∀ b∈f.Data,byte b:=by
  obtain ⟨h1,h2,h3,h4⟩:=h
  unfold oks at h4
  rcases hdx:decode x with ⟨f,e⟩
  rw [hdx] at h4
  have h5:e=0:=by simpa using h4
  subst h5
  obtain ⟨a,b,c⟩:=decode_encode (l:=x) (f:=f) ⟨by omega,h1⟩ hdx
  unfold encode at b
  rw [if_pos a] at b
  exact ⟨f,a,(Prod.mk.inj b).1.symm,c⟩
theorem enc_fb {f:Frame_} (h:valid f=true) (hd:∀ x∈f.Data,byte x):FB (encode f).1:=by
  obtain ⟨e,h1,h2,h3⟩:=encode_ok h hd
  rw [e]
  have:=(valid_iff.1 h).2.2
  refine ⟨h1,h2,by simp [body,head];omega,?_⟩
  simp [oks,decode_body h]
theorem oks_set {x:List Int} (h:FB x) {i:Nat} {a v:Int} (hv:byte v) (hi:x[i]?=some a) (ho:oks (x.set i v)=true):v=a:=by
  obtain ⟨f,hf,rfl,hd⟩:=fb_body h
  have hb:∀ z∈body f,byte z:=λ z hz=>h.1 z (by simp [hz])
  unfold oks decode at ho
  split at ho
  · simp at ho
  · split at ho
    · simp at ho
    · rename_i _ hc
      have hc':=Classical.not_not.1 hc
      clear ho hc
      by_cases hl:i<(body f).length
      · have hs:(body f++[crc8 (body f)]).set i v=(body f).set i v++[crc8 (body f)]:=List.set_append_left i v hl
        rw [hs] at hc'
        have ht:((body f).set i v++[crc8 (body f)]).take (((body f).set i v++[crc8 (body f)]).length-1)=(body f).set i v:=by simp
        have hla:last ((body f).set i v++[crc8 (body f)])=crc8 (body f):=by simp [last,List.getLastD_eq_getLast?]
        rw [ht,hla] at hc'
        rw [List.getElem?_append_left hl] at hi
        exact crc8_set hb hv hi hc'
      · have hil:=lt_len hi
        have hie:i=(body f).length:=by simp at hil;omega
        subst hie
        have hs:(body f++[crc8 (body f)]).set (body f).length v=body f++[v]:=by rw [List.set_append_right _ _ (by omega)];simp
        rw [hs] at hc'
        have ht:(body f++[v]).take ((body f++[v]).length-1)=body f:=by simp
        have hla:last (body f++[v])=v:=by simp [last,List.getLastD_eq_getLast?]
        rw [ht,hla] at hc'
        simp at hi
        rw [← hc',hi]
def Ev {α:Type} (x:Option α) (Q:α→Prop):Prop:=∃ a,x=some a∧Q a
theorem Ev.ret {α:Type} {a:α} {Q:α→Prop} (h:Q a):Ev (some a) Q:=⟨a,rfl,h⟩
theorem Ev.bind {α β:Type} {x:Option α} {f:α→Option β} {P:α→Prop} {Q:β→Prop} (h:Ev x P) (k:∀ a,P a→Ev (f a) Q):Ev (bindP x f) Q:=by
  obtain ⟨a,rfl,p⟩:=h;exact k a p
theorem Ev.to {α β:Type} {x:Option α} {f:α→Option β} {a:α} {Q:β→Prop} (h:x=some a) (k:Ev (f a) Q):Ev (bindP x f) Q:=by
  rw [h];exact k
theorem Ev.chk {β:Type} {b:Bool} {f:Unit→Option β} {Q:β→Prop} (h:b=true) (k:Ev (f ()) Q):Ev (bindP (Lift.chk b) f) Q:=by
  rw [h];exact k
theorem Ev.letP {α β:Type} {a:α} {f:α→Option β} {Q:β→Prop} (k:Ev (f a) Q):Ev (Lift.letP a f) Q:=k
theorem Ev.letE {α β:Type} {a c:α} {f:α→Option β} {Q:β→Prop} (h:a=c) (k:Ev (f c) Q):Ev (Lift.letP a f) Q:=by subst h;exact k
theorem Ev.ite {β:Type} {b:Bool} {x y:Option β} {Q:β→Prop} (ht:b=true→Ev x Q) (hf:b=false→Ev y Q):Ev (iteP b x y) Q:=by
  cases b with
  | true=>exact ht rfl
  | false=>exact hf rfl
theorem Ev.iteT {β:Type} {b:Bool} {x y:Option β} {Q:β→Prop} (h:b=true) (k:Ev x Q):Ev (iteP b x y) Q:=by rw [h];exact k
theorem Ev.iteF {β:Type} {b:Bool} {x y:Option β} {Q:β→Prop} (h:b=false) (k:Ev y Q):Ev (iteP b x y) Q:=by rw [h];exact k
theorem Ev.dec {β:Type} {p:Prop} [Decidable p] {x y:Option β} {Q:β→Prop} (ht:p→Ev x Q) (hf:¬ p→Ev y Q):Ev (iteP (decide p) x y) Q :=
  Ev.ite (λ h=>ht (of_decide_eq_true h)) (λ h=>hf (of_decide_eq_false h))
theorem Ev.decT {β:Type} {p:Prop} [Decidable p] {x y:Option β} {Q:β→Prop} (h:p) (k:Ev x Q):Ev (iteP (decide p) x y) Q:=Ev.iteT (decide_eq_true h) k
theorem Ev.decF {β:Type} {p:Prop} [Decidable p] {x y:Option β} {Q:β→Prop} (h:¬ p) (k:Ev y Q):Ev (iteP (decide p) x y) Q:=Ev.iteF (decide_eq_false h) k
theorem Ev.beqT {α β:Type} [BEq α] [LawfulBEq α] {a b:α} {x y:Option β} {Q:β→Prop} (h:a=b) (k:Ev x Q):Ev (iteP (a==b) x y) Q:=Ev.iteT (by simpa using h) k
theorem Ev.bneF {α β:Type} [BEq α] [LawfulBEq α] {a b:α} {x y:Option β} {Q:β→Prop} (h:a=b) (k:Ev y Q):Ev (iteP (a != b) x y) Q:=Ev.iteF (by simpa using h) k
theorem Ev.not {β:Type} {b:Bool} {x y:Option β} {Q:β→Prop} (k:Ev (iteP b y x) Q):Ev (iteP (!b) x y) Q:=by cases b<;>exact k
theorem Ev.join {σ β:Type} {r:σ→Option β} {body:(σ→Option β)→Option β} {Q:β→Prop} (R:σ→Prop) (hr:∀ s,R s→Ev (r s) Q) (hb:∀ j:σ→Option β,(∀ s,R s→Ev (j s) Q)→Ev (body j) Q):Ev (joinP r body) Q:=hb r hr
theorem Ev.loop {σ β:Type} {step:(σ→Option β)→σ→Option β} {Q:β→Prop} (I:Nat→σ→Prop)
    (h:∀ n s,I n s→∀ self:σ→Option β,(∀ m s',m<n→I m s'→Ev (self s') Q)→Ev (step self s) Q):∀ {fuel n:Nat} {s:σ},n<fuel→I n s→Ev (loopP step fuel s) Q:=by
  intro fuel
  induction fuel with
  | zero=>intro n s hf _;omega
  | succ f ih=>intro n s hf hi;exact h n s hi _ (λ m s' hm hi'=>ih (by omega) hi')
theorem Ev.isTrue {x:Option Bool} (h:Ev x (λ b=>b=true)):x=some true:=by obtain ⟨a,e,rfl⟩:=h;exact e
def who {α:Type} (p:α→Bool):Nat→List α→List Int
  | _,[]=>[]
  | k,x::l=>if p x then (k:Int)::who p (k+1) l else who p (k+1) l
theorem who_app {α:Type} {p:α→Bool}:∀ (k:Nat) (a b:List α),who p k (a++b)=who p k a++who p (k+a.length) b
  | k,[],b=>by simp [who]
  | k,x::a,b=>by
    simp only [List.cons_append,who,who_app (k+1) a b,List.length_cons]
    rw [show k+1+a.length=k+(a.length+1) by omega]
    split<;>simp
theorem who_len {α:Type} {p:α→Bool}:∀ (k:Nat) (l:List α),(who p k l).length≤l.length
  | k,[]=>by simp [who]
  | k,x::l=>by
    have:=who_len (p:=p) (k+1) l
    simp only [who]
    split<;>simp<;>omega
theorem who_none {α:Type} {p:α→Bool}:∀ {k:Nat} {l:List α},(∀ x∈l,p x=false)→who p k l=[]
  | k,[],_=>rfl
  | k,x::l,h=>by
    have hx:=h x (by simp)
    simp only [who,hx]
    exact who_none (λ y hy=>h y (by simp [hy]))
theorem who_nil {α:Type} {p:α→Bool}:∀ {k:Nat} {l:List α},who p k l=[]→∀ x∈l,p x=false
  | k,[],_,x,hx=>by simp at hx
  | k,y::l,h,x,hx=>by
    simp only [who] at h
    split at h
    · simp at h
    · rename_i hy
      rcases List.mem_cons.1 hx with rfl | hx
      · simpa using hy
      · exact who_nil h x hx
theorem who_mem {α:Type} {p:α→Bool} {i:Int}:∀ {k:Nat} {l:List α},i∈who p k l↔∃ (n:Nat) (x:α),l[n]?=some x∧p x=true∧i=((k+n:Nat):Int)
  | k,[]=>by simp [who]
  | k,x::l=>by
    have ih:=who_mem (p:=p) (i:=i) (k:=k+1) (l:=l)
    have key:(∃ (n:Nat) (y:α),(x::l)[n]?=some y∧p y=true∧i=((k+n:Nat):Int))↔(p x=true∧i=(k:Int))∨∃ (n:Nat) (y:α),l[n]?=some y∧p y=true∧i=((k+1+n:Nat):Int):=by
      constructor
      · rintro ⟨n,y,h1,h2,h3⟩
        cases n with
        | zero=>simp at h1;subst h1;exact .inl ⟨h2,by simpa using h3⟩
        | succ n=>exact .inr ⟨n,y,by simpa using h1,h2,by rw [h3];congr 1;omega⟩
      · rintro (⟨h1,h2⟩ | ⟨n,y,h1,h2,h3⟩)
        · exact ⟨0,x,rfl,h1,by simpa using h2⟩
        · exact ⟨n+1,y,by simpa using h1,h2,by rw [h3];congr 1;omega⟩
    rw [key,← ih]
    simp only [who]
    split
    · rename_i hp;simp [hp]
    · rename_i hp;simp [hp]
theorem who_split {α:Type} {p:α→Bool}:∀ {k:Nat} {l:List α},who p k l≠[]→∃ mid x post,l=mid++x::post∧(∀ y∈mid,p y=false)∧p x=true∧who p k l=((k+mid.length:Nat):Int)::who p (k+mid.length+1) post
  | k,[],h=>absurd rfl h
  | k,x::l,h=>by
    by_cases hx:p x=true
    · exact ⟨[],x,l,rfl,by simp,hx,by simp [who,hx]⟩
    · have hx':p x=false:=by simpa using hx
      have h':who p (k+1) l≠[]:=by simpa [who,hx'] using h
      obtain ⟨mid,y,post,h1,h2,h3,h4⟩:=who_split h'
      refine ⟨x::mid,y,post,by rw [h1];rfl,?_,h3,?_⟩
      · intro z hz
        rcases List.mem_cons.1 hz with rfl | hz
        · exact hx'
        · exact h2 z hz
      · simp only [who,hx',Bool.false_eq_true,if_false,List.length_cons]
        rw [h4,show k+1+mid.length=k+(mid.length+1) by omega]
theorem who_next {α:Type} {p:α→Bool} {pre post:List α} (h:(who p 0 pre).length<(who p 0 (pre++post)).length) :
    ∃ mid x post',post=mid++x::post'∧(∀ y∈mid,p y=false)∧p x=true∧(who p 0 (pre++post))[(who p 0 pre).length]?=some (((pre++mid).length:Nat):Int) ∧
      (who p 0 (pre++mid++[x])).length=(who p 0 pre).length+1:=by
  rw [who_app] at h
  have hne:who p (0+pre.length) post≠[]:=by intro e;rw [e] at h;simp at h
  obtain ⟨mid,x,post',h1,h2,h3,h4⟩:=who_split hne
  refine ⟨mid,x,post',h1,h2,h3,?_,?_⟩
  · rw [who_app,h4,List.getElem?_append_right (Nat.le_refl _)];simp
  · rw [List.append_assoc,who_app,who_app,who_none h2];simp [who,h3]
theorem who_end {α:Type} {p:α→Bool} {pre post:List α} (h:¬ (who p 0 pre).length<(who p 0 (pre++post)).length):∀ x∈post,p x=false:=by
  rw [who_app,List.length_append] at h
  have:who p (0+pre.length) post=[]:=List.eq_nil_of_length_eq_zero (by omega)
  exact who_nil this
theorem idx_at {α:Type} {a b:List α} {x:α}:idx (a++x::b) ((a.length:Nat):Int)=some x:=by rw [idx_nat];simp
theorem upd_at {α:Type} {a b:List α} {x y:α}:upd (a++x::b) ((a.length:Nat):Int) y=a++y::b:=by
  unfold upd;simp
theorem app_one {α:Type} {b:Nat} {l:List α} {x:α} (h:l.length≤100000) (hb:b≤1000):app b l [x]=some (l++[x]):=by
  refine app_ok ?_
  have:(l.length+1)*b≤100001*1000:=Nat.mul_le_mul (by omega) hb
  simp;omega
structure MOk (m:bus_master):Prop where
  len:m.queue.length≤16
  lo:0≤m.tries
  hi:m.tries≤3
  fb:∀ x∈m.queue,FB x
structure BOk (ms:List bus_master):Prop where
  len:ms.length≤8
  ok:∀ m∈ms,MOk m
def wait (m:bus_master):Bool:=decide (m.queue≠[])
def ready (m:bus_master):Bool:=wait m&&!m.served
def fresh (m:bus_master):bus_master:={ m with served:=false }
def start (ms:List bus_master):List bus_master:=if ms.any ready||!ms.any wait then ms else ms.map fresh
theorem start_len (ms:List bus_master):(start ms).length=ms.length:=by unfold start;split<;>simp
theorem start_ok {ms:List bus_master} (h:BOk ms):BOk (start ms):=by
  refine ⟨by rw [start_len];exact h.len,?_⟩
  unfold start
  split
  · exact h.ok
  · intro m hm
    obtain ⟨x,hx,rfl⟩:=List.mem_map.1 hm
    obtain ⟨a,b,c,d⟩:=h.ok x hx
    exact ⟨a,b,c,d⟩
theorem ready_fresh (m:bus_master):ready (fresh m)=wait m:=by simp [ready,fresh];rfl
theorem who_map {α β:Type} {p:β→Bool} {f:α→β}:∀ (k:Nat) (l:List α),who p k (l.map f)=who (λ x=>p (f x)) k l
  | k,[]=>rfl
  | k,x::l=>by simp only [List.map_cons,who,who_map (k+1) l]
theorem who_congr {α:Type} {p q:α→Bool} (h:∀ x,p x=q x) (k:Nat) (l:List α):who p k l=who q k l:=by rw [funext h]
theorem qwait {m:bus_master}:((m.queue.length:Int)==0)=!wait m:=by
  unfold wait
  cases hq:m.queue with
  | nil=>simp
  | cons x l=>simp;omega
theorem taking_eq {fuel:Nat} {ms:List bus_master} (h:BOk ms) (hf:5000<fuel):bus_Bus_taking fuel ⟨ms⟩=some (who ready 0 (start ms),⟨start ms⟩):=by
  have hl:=h.len
  unfold bus_Bus_taking
  have second:∀ fuel:Nat,5000<fuel→loopP (λ k2 (s3:(Int×bus_Bus)) =>
      iteP (decide (s3.1<(ms.length:Int))) (
      bindP (idx s3.2.masters s3.1) λ x4 =>
      letP (upd s3.2.masters s3.1 ({ x4 with served:=false })) λ d1 =>
      k2 ((IntKind.i64.wrap (s3.1+1)),{ s3.2 with masters:=d1 })) (
      some (who wait 0 ms,s3.2))) fuel (0,⟨ms⟩)=some (who wait 0 ms,⟨ms.map fresh⟩):=by
    intro fuel hf
    refine loop_run (λ i=>((i:Int),(⟨(ms.take i).map fresh++ms.drop i⟩:bus_Bus))) ms.length (by simp) (by omega) (λ i hi k=>?_) (λ k=>?_)
    · have hd : ms.drop i = ms[i]'hi :: ms.drop (i + 1) := (List.drop_eq_getElem_cons hi)
      have hlen:((ms.take i).map fresh).length=i:=by simp;omega
      have e1 : idx ((ms.take i).map fresh ++ ms.drop i) (i : Int) = some (ms[i]'hi) := by
        rw [hd]; have := idx_at (a := (ms.take i).map fresh) (b := ms.drop (i + 1)) (x := ms[i]'hi); rwa [hlen] at this
      have e2:∀ y,upd ((ms.take i).map fresh++ms.drop i) (i:Int) y=(ms.take i).map fresh++y::ms.drop (i+1):=by
        intro y; rw [hd]; have := upd_at (a := (ms.take i).map fresh) (b := ms.drop (i + 1)) (x := ms[i]'hi) (y := y); rwa [hlen] at this
      have e3 : (ms.take (i + 1)).map fresh ++ ms.drop (i + 1) = (ms.take i).map fresh ++ fresh (ms[i]'hi) :: ms.drop (i + 1) := by
        rw [List.take_add_one,List.getElem?_eq_getElem hi,List.map_append,List.append_assoc];rfl
      simp only [show ((i:Int)<(ms.length:Int)) by omega,decide_true,iteP_true,e1,bindP_some,letP_eq,e2,wi i (by omega),e3,fresh]
      rfl
    · simp
  refine loop_run (λ i=>((i:Int),who wait 0 (ms.take i),who ready 0 (ms.take i))) ms.length (by simp [who]) (by omega) (λ i hi k=>?_) (λ k=>?_)
  · have hx : ms[i]? = some (ms[i]'hi) := by simp
    have htk : ms.take (i + 1) = ms.take i ++ [ms[i]'hi] := by rw [List.take_add_one, hx]; rfl
    have hti:(ms.take i).length=i:=by simp;omega
    have l1:=who_len (p:=wait) 0 (ms.take i)
    have l2:=who_len (p:=ready) 0 (ms.take i)
    simp only [show ((i:Int)<(ms.length:Int)) by omega,decide_true,iteP_true,idx_nat,hx,bindP_some,qwait,htk,who_app,hti,Nat.zero_add,wi i (by omega)]
    rw [app_one (by omega) (by omega),bindP_some,app_one (by omega) (by omega),bindP_some]
    cases hw : wait (ms[i]'hi) with
    | false=>simp [who,hw,ready]
    | true =>
      cases hs : (ms[i]'hi).served with
      | false=>simp [who,hw,ready,hs]
      | true=>simp [who,hw,ready,hs]
  · simp only [show ¬ ((ms.length:Int)<(ms.length:Int)) by omega,decide_false,iteP_false,List.take_length,joinP_eq]
    have hr:(who ready 0 ms).length>0↔ms.any ready=true:=by
      rw [List.any_eq_true]
      constructor
      · intro h0
        refine Classical.byContradiction λ hn=>?_
        have:=who_none (p:=ready) (k:=0) (l:=ms) (λ x hx=>by cases hx':ready x with | false=>rfl | true=>exact absurd ⟨x,hx,hx'⟩ hn)
        rw [this] at h0;simp at h0
      · rintro ⟨x,hx,hp⟩
        cases hw:who ready 0 ms with
        | nil=>have:=who_nil hw x hx;rw [hp] at this;simp at this
        | cons _ _=>simp
    have hw:(who wait 0 ms).length=0↔ms.any wait=false:=by
      constructor
      · intro h0
        rw [List.any_eq_false]
        intro x hx;have:=who_nil (List.eq_nil_of_length_eq_zero h0) x hx;simp [this]
      · intro h0
        rw [List.any_eq_false] at h0
        rw [who_none (λ x hx=>by simpa using h0 x hx)];rfl
    unfold start
    cases hr':ms.any ready with
    | true =>
      have:=hr.2 hr'
      rw [show decide (((who ready 0 ms).length:Int)>0)=true from decide_eq_true (by omega),iteP_true];simp
    | false =>
      have h0:¬ (who ready 0 ms).length>0:=λ h0=>by have:=hr.1 h0;rw [hr'] at this;simp at this
      rw [show decide (((who ready 0 ms).length:Int)>0)=false from decide_eq_false (by omega),iteP_false]
      cases hw':ms.any wait with
      | false =>
        have:=hw.2 hw'
        rw [show (((who wait 0 ms).length:Int)==0)=true by simp [this]];simp
      | true =>
        have h1:¬ (who wait 0 ms).length=0:=λ h1=>by have:=hw.1 h1;rw [hw'] at this;simp at this
        rw [show (((who wait 0 ms).length:Int)==0)=false by rw [beq_eq_false_iff_ne];omega]
        simp only [iteP_false,Bool.false_or,Bool.not_true,Bool.false_eq_true,if_false]
        rw [second fuel hf,who_map,who_congr ready_fresh]
def qhead (m:bus_master):List Int:=m.queue.headD []
def minL:List (List Int)→List Int
  | []=>[]
  | x::l=>l.foldl (λ b y=>if cmpL y b<0 then y else b) x
theorem minL_snoc {l:List (List Int)} {x:List Int} (h:l≠[]):minL (l++[x])=if cmpL x (minL l)<0 then x else minL l:=by
  cases l with
  | nil=>exact absurd rfl h
  | cons y l=>show (l++[x]).foldl _ y=_;rw [List.foldl_append];rfl
theorem minL_mem:∀ {l:List (List Int)},l≠[]→minL l∈l:=by
  intro l h
  have key:∀ (l:List (List Int)) (x:List Int),l.foldl (λ b y=>if cmpL y b<0 then y else b) x∈x::l:=by
    intro l
    induction l with
    | nil=>intro x;simp
    | cons y l ih =>
      intro x
      simp only [List.foldl_cons]
      have:=ih (if cmpL y x<0 then y else x)
      rcases List.mem_cons.1 this with h | h
      · rw [h];split<;>simp
      · exact List.mem_cons_of_mem _ (List.mem_cons_of_mem _ h)
  cases l with
  | nil=>exact absurd rfl h
  | cons x l=>exact key l x
def least (ms:List bus_master):List Int:=minL ((ms.filter ready).map qhead)
theorem ready_queue {m:bus_master} (h:ready m=true):∃ x q,m.queue=x::q∧qhead m=x:=by
  simp only [ready,wait,Bool.and_eq_true,decide_eq_true_eq] at h
  cases hq:m.queue with
  | nil=>exact absurd hq h.1
  | cons x q=>exact ⟨x,q,rfl,by simp [qhead,hq]⟩
theorem filter_next {pre mid:List bus_master} {x:bus_master} (hm:∀ y∈mid,ready y=false) (hx:ready x=true):(pre++mid++[x]).filter ready=pre.filter ready++[x]:=by
  have e:mid.filter ready=[]:=List.filter_eq_nil_iff.2 (λ y hy=>by simp [hm y hy])
  have e2:[x].filter ready=[x]:=by rw [List.filter_cons,hx];rfl
  rw [List.filter_append,List.filter_append,e,e2,List.append_nil]
theorem filter_ne {pre:List bus_master} (h:0<(who ready 0 pre).length):pre.filter ready≠[]:=by
  intro e
  rw [List.filter_eq_nil_iff] at e
  have:=who_none (p:=ready) (k:=0) (l:=pre) (λ x hx=>by simpa using e x hx)
  rw [this] at h;simp at h
theorem least_mem {ms:List bus_master} (h:ms.filter ready≠[]):∃ m∈ms,ready m=true∧qhead m=least ms:=by
  have:=minL_mem (l:=(ms.filter ready).map qhead) (by simpa using h)
  obtain ⟨m,hm,e⟩:=List.mem_map.1 this
  obtain ⟨h1,h2⟩:=List.mem_filter.1 hm
  exact ⟨m,h1,h2,e⟩
theorem head_fb {m:bus_master} (h:MOk m) (hr:ready m=true):FB (qhead m):=by
  obtain ⟨x,q,e1,e2⟩:=ready_queue hr
  rw [e2];exact h.fb x (by rw [e1];simp)
theorem least_fb {ms:List bus_master} (h:BOk ms) (hn:ms.filter ready≠[]):FB (least ms):=by
  obtain ⟨m,hm,hr,e⟩:=least_mem hn
  rw [← e];exact head_fb (h.ok m hm) hr
theorem first_eq {fuel:Nat} {a b:List bus_master} {m:bus_master} (hr:ready m=true):bus_Bus_Step_1_2 fuel ((a.length:Nat):Int) ⟨a++m::b⟩=some (qhead m):=by
  obtain ⟨x,q,e1,e2⟩:=ready_queue hr
  unfold bus_Bus_Step_1_2
  rw [idx_at,bindP_some,e1,e2];rfl
theorem first_get {fuel:Nat} {ms:List bus_master} {m:bus_master} {i:Nat} (h:ms[i]?=some m) (hr:ready m=true):bus_Bus_Step_1_2 fuel (i:Int) ⟨ms⟩=some (qhead m):=by
  obtain ⟨x,q,e1,e2⟩:=ready_queue hr
  unfold bus_Bus_Step_1_2
  rw [idx_nat]
  simp only [h,bindP_some,e1,e2];rfl
theorem Ev.eq {α:Type} {x:Option α} {a:α}:Ev x (λ b=>b=a)↔x=some a:=⟨λ ⟨b,e,h⟩=>by rw [e,h],λ h=>⟨a,h,rfl⟩⟩
theorem MinFunc_eq {fuel:Nat} {ms:List bus_master} (h:BOk ms) (hn:ms.filter ready≠[]) (hf:5000<fuel):Ev (slices_MinFunc_int_int_bus_Bus_Step_2 fuel (who ready 0 ms) ⟨ms⟩) (λ r=>∃ (i:Nat) (m:bus_master),r=(i:Int)∧ms[i]?=some m∧ready m=true∧qhead m=least ms):=by
  have hl:=h.len
  have hwl:=who_len (p:=ready) 0 ms
  have hpos:0<(who ready 0 ms).length:=by
    cases hw:who ready 0 ms with
    | nil=>exact absurd (List.filter_eq_nil_iff.2 (λ x hx=>by simp [who_nil hw x hx])) hn
    | cons _ _=>simp
  unfold slices_MinFunc_int_int_bus_Bus_Step_2
  refine Ev.iteF (by simp;omega) ?_
  obtain ⟨mid0,x0,post0,p1,p2,p3,p4,p5⟩:=who_next (p:=ready) (pre:=[]) (post:=ms) (by simpa [who] using hpos)
  simp only [List.nil_append] at p4 p5
  refine Ev.to (a:=((mid0.length:Nat):Int)) (by have:(who ready 0 ([]:List bus_master)).length=0:=rfl;rw [this] at p4;rw [show (0:Int)=((0:Nat):Int) from rfl,idx_nat];exact p4) ?_
  refine Ev.loop (λ r (s:Int×Int)=>∃ (pre post:List bus_master) (i:Nat) (m:bus_master),ms=pre++post∧s.2=((who ready 0 pre).length:Int)∧0<(who ready 0 pre).length∧r=(who ready 0 ms).length-(who ready 0 pre).length∧s.1=(i:Int)∧ms[i]?=some m∧ready m=true∧qhead m=least pre)
    (λ r s hi self hself=>?_) (n:=(who ready 0 ms).length-1) (by omega) ⟨mid0++[x0],post0,mid0.length,x0,by rw [p1];simp,by rw [p5];rfl,by rw [p5];exact Nat.succ_pos _,by rw [p5];simp [who],rfl,by rw [p1];simp,p3,by
      have:=filter_next (pre:=[]) p2 p3
      simp only [List.nil_append,List.filter_nil] at this
      unfold least;rw [this];simp [minL]⟩
  obtain ⟨pre,post,i,m,e1,e2,e3,e4,e5,e6,e7,e8⟩:=hi
  obtain ⟨s1,s2⟩:=s
  simp only at e2 e5
  subst e2 e5
  refine Ev.dec (λ hlt=>?_) (λ hge=>?_)
  · obtain ⟨mid,x,post',q1,q2,q3,q4,q5⟩:=who_next (p:=ready) (pre:=pre) (post:=post) (by rw [← e1];omega)
    rw [← e1] at q4
    have hxm:x∈ms:=by rw [e1,q1];simp
    have hmm:m∈ms:=List.mem_of_getElem? e6
    have hsp:ms=(pre++mid)++x::post':=by rw [e1,q1];simp
    refine Ev.to (a:=(((pre++mid).length:Nat):Int)) (by rw [idx_nat];exact q4) ?_
    have hc:bus_Bus_Step_2_2 fuel (((pre++mid).length:Nat):Int) (i:Int) ⟨ms⟩=some (cmpL (qhead x) (qhead m)):=by
      unfold bus_Bus_Step_2_2
      have ea:bus_Bus_Step_1_2 fuel (((pre++mid).length:Nat):Int) ⟨ms⟩=some (qhead x):=by rw [hsp];exact first_eq q3
      rw [ea,bindP_some,first_get e6 e7,bindP_some,Compare_eq fuel _ _ (head_fb (h.ok x hxm) q3).1 (head_fb (h.ok m hmm) e7).1];rfl
    refine Ev.to hc ?_
    have hls:least (pre++mid++[x])=if cmpL (qhead x) (qhead m)<0 then qhead x else qhead m:=by
      unfold least
      rw [filter_next q2 q3,List.map_append]
      have:=minL_snoc (l:=(pre.filter ready).map qhead) (x:=qhead x) (by simpa using filter_ne e3)
      simp only [List.map_cons,List.map_nil]
      rw [this,e8];rfl
    have hle:=who_len (p:=ready) 0 pre
    have hlm:pre.length≤ms.length:=by rw [e1];simp
    have hmono:(who ready 0 (pre++mid++[x])).length≤(who ready 0 ms).length:=by
      have:ms=(pre++mid++[x])++post':=by rw [e1,q1];simp
      have h2:=who_app (p:=ready) 0 (pre++mid++[x]) post'
      rw [← this] at h2
      rw [h2,List.length_append];exact Nat.le_add_right _ _
    refine Ev.dec (λ hc0=>?_) (λ hc0=>?_)
    · refine Ev.to (a:=(((pre++mid).length:Nat):Int)) (by rw [idx_nat];exact q4) ?_
      refine Ev.letP ?_
      rw [wi _ (by omega)]
      refine hself ((who ready 0 ms).length-((who ready 0 pre).length+1)) _ (by omega) ⟨pre++mid++[x],post',(pre++mid).length,x,by rw [e1,q1];simp,by rw [q5];simp,by omega,by rw [q5],rfl,by rw [hsp];simp,q3,by rw [hls,if_pos hc0]⟩
    · refine Ev.letP ?_
      rw [wi _ (by omega)]
      refine hself ((who ready 0 ms).length-((who ready 0 pre).length+1)) _ (by omega) ⟨pre++mid++[x],post',i,m,by rw [e1,q1];simp,by rw [q5];simp,by omega,by rw [q5],rfl,e6,e7,by rw [hls,if_neg hc0]⟩
  · have hno:=who_end (p:=ready) (pre:=pre) (post:=post) (by rw [← e1];omega)
    refine Ev.ret ⟨i,m,rfl,e6,e7,?_⟩
    rw [e8,e1]
    unfold least
    have e0:post.filter ready=[]:=List.filter_eq_nil_iff.2 (λ y hy=>by simp [hno y hy])
    rw [List.filter_append,e0,List.append_nil]
def arr (x:List Int) (f:Fault_):List Int :=
  if f.Kind=1 then [] else if f.Kind=2∧0≤f.Index∧f.Index<(x.length:Int) then upd x f.Index (bXor .u8 (x.getD f.Index.toNat 0) f.Mask) else x
theorem getD_idx {x:List Int} {i:Int} (h0:0≤i) (h1:i<(x.length:Int)):idx x i=some (x.getD i.toNat 0):=by
  obtain ⟨n,rfl⟩:=Int.eq_ofNat_of_zero_le h0
  rw [idx_nat]
  have:n<x.length:=by omega
  simp [this]
theorem arrive_eq {fuel:Nat} {x:List Int} {f:Fault_} (h:x.length≤100):bus_arrive fuel x f=some (arr x f):=by
  unfold bus_arrive arr
  by_cases hk:f.Kind=1
  · simp [hk]
  · simp only [show (f.Kind==1)=false by simpa using hk,iteP_false,clone_eq (show x.length≤100000 by omega),bindP_some,if_neg hk,joinP_eq]
    by_cases h2:f.Kind=2
    · simp only [show (f.Kind==2)=true by simpa using h2,iteP_true]
      by_cases h3:0≤f.Index
      · simp only [show decide (f.Index≥0)=true by simpa using h3,iteP_true]
        by_cases h4:f.Index<(x.length:Int)
        · simp only [decide_eq_true h4,iteP_true,getD_idx h3 h4,bindP_some,letP_eq];rw [if_pos ⟨h2,h3,h4⟩]
        · simp only [decide_eq_false h4,iteP_false];rw [if_neg (λ h=>h4 h.2.2)]
      · simp only [show decide (f.Index≥0)=false by simpa using h3,iteP_false];rw [if_neg (λ h=>h3 h.2.1)]
    · simp only [show (f.Kind==2)=false by simpa using h2,iteP_false];rw [if_neg (λ h=>h2 h.1)]
theorem arr_small {x:List Int} {f:Fault_} (h:FB x) (hm:byte f.Mask):Small (arr x f):=by
  obtain ⟨h1,h2,h3,_⟩:=h
  unfold arr
  split
  · exact ⟨by simp,by simp⟩
  · split
    · rename_i hc
      refine ⟨by simp [upd];omega,λ b hb=>?_⟩
      rcases List.mem_or_eq_of_mem_set hb with hb | rfl
      · exact h1 b hb
      · have hi:=getD_idx hc.2.1 hc.2.2
        have hmem:x.getD f.Index.toNat 0∈x:=by
          obtain ⟨_,_,h5⟩:=idx_some hi
          exact List.mem_of_getElem? h5
        exact (xor_byte (h1 _ hmem) hm).2
    · exact ⟨by omega,h1⟩
theorem set_self {α:Type} {l:List α} {i:Nat} {a:α} (h:l[i]?=some a):l.set i a=l:=by
  obtain ⟨hl,e⟩:=List.getElem?_eq_some_iff.1 h
  rw [← e];exact List.set_getElem_self hl
theorem arr_same {x:List Int} {f:Fault_} (h:FB x) (hm:byte f.Mask) (ho:oks (arr x f)=true):arr x f=x∧f.Kind≠1:=by
  unfold arr at ho ⊢
  split
  · rename_i hk
    rw [if_pos hk] at ho
    simp [oks,decode] at ho
  · rename_i hk
    rw [if_neg hk] at ho
    refine ⟨?_,hk⟩
    split
    · rename_i hc
      rw [if_pos hc] at ho
      have hi:=(idx_some (getD_idx hc.2.1 hc.2.2)).2.2
      have hb:=h.1 _ (List.mem_of_getElem? hi)
      have e:=oks_set h (xor_byte hb hm).2 hi ho
      unfold upd
      rw [e]
      exact set_self hi
    · rfl
def pickd (b:List Int) (m:bus_master):Bool:=ready m&&decide (qhead m=b)
def hit (ok:Bool) (m:bus_master):bus_master:=if ok||decide (4≤m.tries+1) then ⟨m.queue.tail,0,true⟩ else ⟨m.queue,m.tries+1,true⟩
def gone (m:bus_master):Bool:=decide (4≤m.tries+1)
def stepF (b:List Int) (ok:Bool) (m:bus_master):bus_master:=if pickd b m then hit ok m else m
def failF (b:List Int) (ok:Bool) (m:bus_master):Bool:=!ok&&(pickd b m&&gone m)
def stepD (ms:List bus_master) (f:Fault_):Delivery_:=⟨who (pickd (least ms)) 0 ms,arr (least ms) f,oks (arr (least ms) f),who (failF (least ms) (oks (arr (least ms) f))) 0 ms⟩
def stepM (ms:List bus_master) (f:Fault_):List bus_master:=ms.map (stepF (least ms) (oks (arr (least ms) f)))
def busy (ms:List bus_master):Bool:=ms.any wait
theorem hit_ok {ok:Bool} {m:bus_master} (h:MOk m):MOk (hit ok m):=by
  obtain ⟨h1,h2,h3,h4⟩:=h
  unfold hit
  split
  · refine ⟨by simp;omega,by simp,by simp,λ x hx=>h4 x (List.mem_of_mem_tail hx)⟩
  · rename_i hc
    simp only [Bool.or_eq_true,decide_eq_true_eq,not_or] at hc
    exact ⟨h1,by simp only;omega,by simp only;omega,h4⟩
theorem stepM_ok {ms:List bus_master} {f:Fault_} (h:BOk ms):BOk (stepM ms f):=by
  refine ⟨by simp [stepM];exact h.len,λ m hm=>?_⟩
  obtain ⟨x,hx,rfl⟩:=List.mem_map.1 hm
  unfold stepF
  split
  · exact hit_ok (h.ok x hx)
  · exact h.ok x hx
theorem cmpL_eq0 (a b:List Int) (h:cmpL a b=0):a=b:=cmpL_zero a b h
theorem busy_start {ms:List bus_master}:(start ms).filter ready=[]↔busy ms=false:=by
  unfold start busy
  split
  · rename_i hc
    constructor
    · intro h
      cases hw:ms.any wait with
      | false=>rfl
      | true =>
        rw [hw] at hc
        simp only [Bool.not_true,Bool.or_false] at hc
        obtain ⟨x,hx,hp⟩:=List.any_eq_true.1 hc
        rw [List.filter_eq_nil_iff] at h
        exact absurd hp (h x hx)
    · intro h
      rw [List.filter_eq_nil_iff]
      intro x hx hr
      have:=List.any_eq_false.1 h x hx
      simp only [ready,Bool.and_eq_true] at hr
      exact this hr.1
  · rename_i hc
    constructor
    · intro h
      rw [List.filter_eq_nil_iff] at h
      rw [List.any_eq_false]
      intro x hx hw
      exact h (fresh x) (List.mem_map_of_mem hx) (by rw [ready_fresh];exact hw)
    · intro h;rw [h] at hc;simp at hc
theorem who_filter {α:Type} {p:α→Bool} {k:Nat} {l:List α}:who p k l=[]↔l.filter p=[]:=by
  rw [List.filter_eq_nil_iff]
  constructor
  · intro h x hx;simp [who_nil h x hx]
  · intro h;exact who_none (λ x hx=>by simpa using h x hx)
theorem start_idle {ms:List bus_master} (h:busy ms=false):start ms=ms:=by
  unfold start
  unfold busy at h
  rw [h];simp
theorem Step_eq {fuel:Nat} {ms:List bus_master} {f:Fault_} (h:BOk ms) (hm:byte f.Mask) (hf:5000<fuel) :
    bus_Bus_Step fuel ⟨ms⟩ f=some (if busy ms then (stepD (start ms) f,true,⟨stepM (start ms) f⟩) else (Delivery_.z,false,⟨ms⟩)):=by
  refine Ev.eq.1 ?_
  unfold bus_Bus_Step
  refine Ev.to (taking_eq h hf) ?_
  cases hb:busy ms with
  | false =>
    have e0:=(who_filter (k:=0)).2 (busy_start.2 hb)
    refine Ev.iteT (by simp [e0]) (Ev.ret ?_)
    rw [start_idle hb];rfl
  | true =>
    have hn:(start ms).filter ready≠[]:=λ e=>by have:=busy_start.1 e;rw [hb] at this;simp at this
    have hS:=start_ok h
    generalize start ms=S at hn hS
    have hl:=hS.len
    have hwl:=who_len (p:=ready) 0 S
    refine Ev.iteF (by simp only;rw [beq_eq_false_iff_ne];intro e;exact hn ((who_filter (k:=0)).1 (List.eq_nil_of_length_eq_zero (by omega)))) ?_
    refine Ev.bind (MinFunc_eq hS hn hf) ?_
    rintro _ ⟨i,m,rfl,hi,hr,hh⟩
    refine Ev.to (first_get hi hr) ?_
    rw [hh]
    have hfb:=least_fb hS hn
    refine Ev.to (arrive_eq hfb.2.2.1) ?_
    refine Ev.to (Decode_eq (arr_small hfb hm) hf) ?_
    refine Ev.letP ?_
    have ha:((decode (arr (least S) f)).2==0)=oks (arr (least S) f):=rfl
    simp only [ha]
    show Ev _ (λ r=>r=(stepD S f,true,(⟨stepM S f⟩:bus_Bus)))
    unfold stepD stepM
    generalize oks (arr (least S) f)=ok
    generalize arr (least S) f=y
    have hbb:=hfb.1
    generalize least S=b at hbb
    have fid:∀ m:bus_master,ready m=false→stepF b ok m=m:=λ m hm=>by simp [stepF,pickd,hm]
    have pid:∀ m:bus_master,ready m=false→pickd b m=false:=λ m hm=>by simp [pickd,hm]
    have qid:∀ m:bus_master,ready m=false→failF b ok m=false:=λ m hm=>by simp [failF,pickd,hm]
    refine Ev.loop (λ r (s:Int×bus_Bus×(List Int)×(List Int))=>∃ (pre post:List bus_master),S=pre++post∧s=(((who ready 0 pre).length:Int),⟨pre.map (stepF b ok)++post⟩,who (pickd b) 0 pre,who (failF b ok) 0 pre)∧r=(who ready 0 S).length-(who ready 0 pre).length)
      (λ r s hi self hself=>?_) (n:=(who ready 0 S).length) (by omega) ⟨[],S,rfl,rfl,by simp [who]⟩
    obtain ⟨pre,post,e1,rfl,e4⟩:=hi
    have w1:=who_len (p:=ready) 0 pre
    have w2:=who_len (p:=pickd b) 0 pre
    have w3:=who_len (p:=failF b ok) 0 pre
    have hlp:pre.length≤S.length:=by rw [e1];simp
    refine Ev.dec (λ hlt=>?_) (λ hge=>?_)
    · simp only at hlt
      obtain ⟨mid,x,post',q1,q2,q3,q4,q5⟩:=who_next (p:=ready) (pre:=pre) (post:=post) (by rw [← e1];omega)
      rw [← e1] at q4
      have hxm:x∈S:=by rw [e1,q1];simp
      obtain ⟨qx,qs,qe,qh⟩:=ready_queue q3
      have hx:=hS.ok x hxm
      have hA:(pre.map (stepF b ok)++mid).length=(pre++mid).length:=by simp
      have hsp:pre.map (stepF b ok)++post=(pre.map (stepF b ok)++mid)++x::post':=by rw [q1];simp
      have hmid:mid.map (stepF b ok)=mid:=by
        conv=>rhs;rw [← List.map_id mid]
        exact List.map_congr_left (λ z hz=>fid z (q2 z hz))
      have hmono:(who ready 0 (pre++mid++[x])).length≤(who ready 0 S).length:=by
        have h1:S=(pre++mid++[x])++post':=by rw [e1,q1];simp
        have h2:=who_app (p:=ready) 0 (pre++mid++[x]) post'
        rw [← h1] at h2
        rw [h2,List.length_append];exact Nat.le_add_right _ _
      have hS2:S=(pre++mid++[x])++post':=by rw [e1,q1];simp
      have pm:who (pickd b) 0 (pre++mid++[x])=who (pickd b) 0 pre++(if pickd b x then [(((pre++mid).length:Nat):Int)] else []):=by
        rw [who_app,who_app,who_none (l:=mid) (λ z hz=>pid z (q2 z hz))]
        simp [who]
      have fm:who (failF b ok) 0 (pre++mid++[x])=who (failF b ok) 0 pre++(if failF b ok x then [(((pre++mid).length:Nat):Int)] else []):=by
        rw [who_app,who_app,who_none (l:=mid) (λ z hz=>qid z (q2 z hz))]
        simp [who]
      have mm:∀ y,(pre.map (stepF b ok)++mid)++y::post'=(pre++mid).map (stepF b ok)++y::post':=λ y=>by rw [List.map_append,hmid]
      have km:(pre++mid++[x]).map (stepF b ok)++post'=(pre.map (stepF b ok)++mid)++stepF b ok x::post':=by rw [mm,List.map_append];simp
      have next:∀ B D F,B=(pre.map (stepF b ok)++mid)++stepF b ok x::post'→D=who (pickd b) 0 pre++(if pickd b x then [(((pre++mid).length:Nat):Int)] else [])→F=who (failF b ok) 0 pre++(if failF b ok x then [(((pre++mid).length:Nat):Int)] else []) →
          Ev (self (IntKind.i64.wrap (((who ready 0 pre).length:Int)+1),⟨B⟩,D,F)) (λ r=>r=(⟨who (pickd b) 0 S,y,ok,who (failF b ok) 0 S⟩,true,⟨S.map (stepF b ok)⟩)):=by
        intro B D F hB hD hF
        refine hself ((who ready 0 S).length-((who ready 0 pre).length+1)) _ (by omega) ⟨pre++mid++[x],post',hS2,?_,by rw [q5]⟩
        rw [wi _ (by omega),q5,pm,fm,km,hB,hD,hF];rfl
      refine Ev.to (a:=(((pre++mid).length:Nat):Int)) (by rw [idx_nat];exact q4) ?_
      simp only
      rw [hsp,← hA]
      refine Ev.to (first_eq q3) ?_
      refine Ev.to (Compare_eq fuel _ _ (head_fb hx q3).1 hbb) ?_
      by_cases hc:qhead x=b
      · have hp:pickd b x=true:=by simp [pickd,q3,hc]
        refine Ev.iteF (by rw [hc,cmpL_self];rfl) ?_
        refine Ev.to (app_one (by omega) (by omega)) ?_
        refine Ev.to idx_at ?_
        refine Ev.letP ?_
        rw [upd_at]
        refine Ev.to idx_at (Ev.letP ?_)
        rw [upd_at]
        have hlo:=hx.lo
        have hhi:=hx.hi
        have wt:IntKind.i64.wrap (x.tries+1)=x.tries+1:=w_i64 (by omega) (by omega)
        simp only [wt]
        refine Ev.join (λ s=>s=(!ok&&decide (x.tries+1<4))) (λ s hs=>?_) (λ j hj=>?_)
        · subst hs
          refine Ev.ite (λ ht=>?_) (λ hnt=>?_)
          · simp only [Bool.and_eq_true,Bool.not_eq_true',decide_eq_true_eq] at ht
            have hg:gone x=false:=by simp only [gone,decide_eq_false_iff_not];omega
            refine next _ _ _ ?_ (by rw [if_pos hp,hA]) (by rw [if_neg (by simp [failF,hg]),List.append_nil])
            congr 2
            simp only [stepF,hp,if_true,hit]
            rw [if_neg (by simp only [ht.1,Bool.false_or,decide_eq_true_eq];omega)]
          · have hor:(ok||gone x)=true:=by
              cases hok:ok with
              | true=>rfl
              | false =>
                rw [hok] at hnt
                simp only [Bool.not_false,Bool.true_and,decide_eq_false_iff_not] at hnt
                simp only [gone,Bool.false_or,decide_eq_true_eq];omega
            have hst:stepF b ok x=⟨qs,0,true⟩:=by
              simp only [stepF,hp,if_true,hit]
              rw [if_pos (show (ok||decide (4≤x.tries+1))=true from hor),qe];rfl
            refine Ev.join (λ s=>s=who (failF b ok) 0 pre++(if failF b ok x then [(((pre++mid).length:Nat):Int)] else [])) (λ s hs=>?_) (λ j hj=>?_)
            · subst hs
              refine Ev.to idx_at (Ev.chk (by simp only [decide_eq_true_eq];rw [qe];simp;omega) (Ev.letP ?_))
              rw [upd_at]
              refine Ev.to idx_at (Ev.letP ?_)
              rw [upd_at]
              refine next _ _ _ ?_ (by rw [if_pos hp,hA]) rfl
              rw [hst,qe];rfl
            · refine Ev.ite (λ hno=>?_) (λ hyes=>?_)
              · have hok:ok=false:=by simpa using hno
                have hff:failF b ok x=true:=by simp only [failF,hp,hok];rw [hok] at hor;simpa using hor
                refine Ev.to (app_one (by omega) (by omega)) (hj _ ?_)
                rw [if_pos hff,hA]
              · have hok:ok=true:=by simpa using hyes
                refine hj _ ?_
                rw [if_neg (by simp [failF,hok]),List.append_nil]
        · refine Ev.ite (λ hno=>?_) (λ hyes=>?_)
          · have hok:ok=false:=by simpa using hno
            refine Ev.to idx_at (hj _ (by simp [hok]))
          · have hok:ok=true:=by simpa using hyes
            exact hj _ (by simp [hok])
      · have hp:pickd b x=false:=by simp [pickd,hc]
        have hf0:failF b ok x=false:=by simp [failF,hp]
        refine Ev.iteT (by rw [bne_iff_ne];exact λ e=>hc (cmpL_eq0 _ _ e)) ?_
        refine next _ _ _ ?_ (by simp [hp]) (by simp [hf0])
        simp [stepF,hp]
    · have hno:=who_end (p:=ready) (pre:=pre) (post:=post) (by rw [← e1];simp only at hge;omega)
      refine Ev.ret ?_
      have z1:who (pickd b) 0 S=who (pickd b) 0 pre:=by rw [e1,who_app,who_none (l:=post) (λ z hz=>pid z (hno z hz)),List.append_nil]
      have z2:who (failF b ok) 0 S=who (failF b ok) 0 pre:=by rw [e1,who_app,who_none (l:=post) (λ z hz=>qid z (hno z hz)),List.append_nil]
      have z3:S.map (stepF b ok)=pre.map (stepF b ok)++post:=by
        rw [e1,List.map_append]
        congr 1
        conv=>rhs;rw [← List.map_id post]
        exact List.map_congr_left (λ z hz=>fid z (hno z hz))
      rw [z1,z2,z3]
theorem New_eq (fuel:Nat) (n:Int):bus_New fuel n=some (if 1≤n∧n≤8 then (some ⟨List.replicate n.toNat bus_master.z⟩,0) else (none,2)):=by
  unfold bus_New
  simp only [joinP_eq]
  by_cases h1:n<1
  · simp only [decide_eq_true h1,iteP_true];rw [if_neg (by omega)]
  · simp only [decide_eq_false h1,iteP_false]
    by_cases h2:n>8
    · simp only [decide_eq_true h2,iteP_true];rw [if_neg (by omega)]
    · simp only [decide_eq_false h2,iteP_false]
      have:mk 40 bus_master.z n=some (List.replicate n.toNat bus_master.z):=by unfold mk;rw [if_pos ⟨by omega,by omega⟩]
      rw [this,bindP_some,if_pos (by omega)]
def newB (n:Nat):List bus_master:=List.replicate n bus_master.z
theorem z_ok:MOk bus_master.z:=⟨by simp [bus_master.z],by simp [bus_master.z],by simp [bus_master.z],by simp [bus_master.z]⟩
theorem newB_ok {n:Nat} (h:n≤8):BOk (newB n):=⟨by simpa [newB] using h,λ m hm=>by rw [List.eq_of_mem_replicate hm];exact z_ok⟩
theorem there_eq (fuel:Nat) (ms:List bus_master) (n:Int):bus_Bus_there fuel ⟨ms⟩ n=some (decide (0≤n∧n<(ms.length:Int))):=by
  unfold bus_Bus_there
  by_cases h1:0≤n<;>by_cases h2:n<(ms.length:Int)<;>simp [h1,h2]
def put (ms:List bus_master) (n:Int) (f:Frame_):Int×List bus_master :=
  if 0≤n∧n<(ms.length:Int) then
    (if valid f then (if (ms.getD n.toNat bus_master.z).queue.length<16 then (0,upd ms n { ms.getD n.toNat bus_master.z with queue:=(ms.getD n.toNat bus_master.z).queue++[(encode f).1] }) else (9,ms)) else (1,ms))
  else (2,ms)
theorem getD_at {α:Type} {ms:List α} {n:Int} {z:α} (h:0≤n∧n<(ms.length:Int)):idx ms n=some (ms.getD n.toNat z):=by
  obtain ⟨k,rfl⟩:=Int.eq_ofNat_of_zero_le h.1
  rw [idx_nat]
  have:k<ms.length:=by omega
  simp [this]
theorem getD_mem {α:Type} {ms:List α} {n:Int} {z:α} (h:0≤n∧n<(ms.length:Int)):ms.getD n.toNat z∈ms:=List.mem_of_getElem? (idx_some (getD_at h)).2.2
theorem enc_err {f:Frame_}:(encode f).2=if valid f then 0 else 1:=by unfold encode;split<;>rfl
theorem Submit_eq {fuel:Nat} {ms:List bus_master} {n:Int} {f:Frame_} (h:BOk ms) (hd:∀ x∈f.Data,byte x) (hf:5000<fuel):bus_Bus_Submit fuel ⟨ms⟩ n f=some ((put ms n f).1,⟨(put ms n f).2⟩):=by
  unfold bus_Bus_Submit put
  rw [there_eq,bindP_some]
  by_cases hn:0≤n∧n<(ms.length:Int)
  · simp only [decide_eq_true hn,Bool.not_true,iteP_false,Encode_eq hd hf,bindP_some,letP_eq,enc_err]
    rw [if_pos hn]
    have hm:=h.ok _ (getD_mem (z:=bus_master.z) hn)
    have hl:=hm.len
    cases hv:valid f with
    | false=>simp
    | true =>
      simp only [if_true,bne_self_eq_false,iteP_false,getD_at (z:=bus_master.z) hn,bindP_some]
      by_cases hq:(ms.getD n.toNat bus_master.z).queue.length<16
      · rw [show (((ms.getD n.toNat bus_master.z).queue.length:Int)==16)=false by rw [beq_eq_false_iff_ne];omega,iteP_false,app_one (by omega) (by omega),bindP_some,if_pos hq]
      · rw [show (((ms.getD n.toNat bus_master.z).queue.length:Int)==16)=true by rw [beq_iff_eq];omega,iteP_true,if_neg hq]
  · simp only [decide_eq_false hn,Bool.not_false,iteP_true]
    rw [if_neg hn]
theorem put_len (ms:List bus_master) (n:Int) (f:Frame_):(put ms n f).2.length=ms.length:=by
  unfold put
  split
  · split
    · split<;>simp [upd]
    · rfl
  · rfl
theorem put_ok {ms:List bus_master} {n:Int} {f:Frame_} (h:BOk ms) (hd:∀ x∈f.Data,byte x):BOk (put ms n f).2:=by
  refine ⟨by rw [put_len];exact h.len,?_⟩
  unfold put
  split
  · rename_i hn
    split
    · rename_i hv
      split
      · rename_i hq
        intro m hm
        simp only [upd] at hm
        rcases List.mem_or_eq_of_mem_set hm with hm | rfl
        · exact h.ok m hm
        · obtain ⟨a,b,c,d⟩:=h.ok _ (getD_mem (z:=bus_master.z) hn)
          refine ⟨by simp only [List.length_append,List.length_singleton];omega,b,c,λ x hx=>?_⟩
          rcases List.mem_append.1 hx with hx | hx
          · exact d x hx
          · simp at hx;subst hx;exact enc_fb hv hd
      · exact h.ok
    · exact h.ok
  · exact h.ok
def pend (ms:List bus_master) (n:Int):Int:=if 0≤n∧n<(ms.length:Int) then ((ms.getD n.toNat bus_master.z).queue.length:Int) else 0
theorem Pending_eq (fuel:Nat) (ms:List bus_master) (n:Int):bus_Bus_Pending fuel ⟨ms⟩ n=some (pend ms n):=by
  unfold bus_Bus_Pending pend
  rw [there_eq,bindP_some]
  by_cases hn:0≤n∧n<(ms.length:Int)
  · simp only [decide_eq_true hn,Bool.not_true,iteP_false,getD_at (z:=bus_master.z) hn,bindP_some];rw [if_pos hn]
  · simp only [decide_eq_false hn,Bool.not_false,iteP_true];rw [if_neg hn]
theorem put_fine {ms:List bus_master} {i:Nat} {m:bus_master} {f:Frame_} (hi:ms[i]?=some m) (hv:valid f=true) (hq:m.queue.length<16):put ms (i:Int) f=(0,ms.set i { m with queue:=m.queue++[(encode f).1] }):=by
  have hl:=lt_len hi
  unfold put
  rw [if_pos (by omega),if_pos hv]
  have:ms.getD ((i:Int)).toNat bus_master.z=m:=by simp [List.getD_eq_getElem?_getD,hi]
  rw [this,if_pos hq]
  simp [upd]
theorem start_q (ms:List bus_master):(start ms).map bus_master.queue=ms.map bus_master.queue∧(start ms).map bus_master.tries=ms.map bus_master.tries:=by
  unfold start
  split
  · exact ⟨rfl,rfl⟩
  · simp only [List.map_map];exact ⟨rfl,rfl⟩
def pot:List bus_master→Int
  | []=>0
  | m::ms=>(if m.queue=[] then 0 else 4*(m.queue.length:Int)-m.tries)+pot ms
theorem pot_nn:∀ {ms:List bus_master},(∀ m∈ms,MOk m)→0≤pot ms
  | [],_=>by simp [pot]
  | m::ms,h=>by
    have:=pot_nn (λ x hx=>h x (List.mem_cons_of_mem _ hx))
    obtain ⟨a,b,c,d⟩:=h m (by simp)
    unfold pot
    cases hq:m.queue with
    | nil=>simp;exact this
    | cons x q=>simp;omega
theorem pot_congr:∀ {ms ms':List bus_master},ms'.map bus_master.queue=ms.map bus_master.queue→ms'.map bus_master.tries=ms.map bus_master.tries→pot ms'=pot ms
  | [],[],_,_=>rfl
  | [],_::_,h,_=>by simp at h
  | _::_,[],h,_=>by simp at h
  | m::ms,m'::ms',h,h'=>by
    simp only [List.map_cons,List.cons.injEq] at h h'
    simp only [pot,h.1,h'.1,pot_congr h.2 h'.2]
theorem pot_step {b:List Int} {ok:Bool}:∀ {ms:List bus_master},(∀ m∈ms,MOk m)→pot (ms.map (stepF b ok))≤pot ms∧((∃ m∈ms,pickd b m=true)→pot (ms.map (stepF b ok))+1≤pot ms)
  | [],_=>by simp
  | m::ms,h=>by
    obtain ⟨i1,i2⟩:=pot_step (b:=b) (ok:=ok) (λ x hx=>h x (List.mem_cons_of_mem _ hx))
    obtain ⟨h1,h2,h3,h4⟩:=h m (by simp)
    cases hp:pickd b m with
    | false =>
      have e:stepF b ok m=m:=by simp [stepF,hp]
      simp only [List.map_cons,pot,e]
      refine ⟨by omega,?_⟩
      rintro ⟨x,hx,hxp⟩
      rcases List.mem_cons.1 hx with rfl | hx
      · rw [hp] at hxp;simp at hxp
      · have:=i2 ⟨x,hx,hxp⟩;omega
    | true =>
      have hr:ready m=true:=by simp only [pickd,Bool.and_eq_true] at hp;exact hp.1
      obtain ⟨x,q,e1,_⟩:=ready_queue hr
      have e:stepF b ok m=hit ok m:=by simp [stepF,hp]
      have key:(if (hit ok m).queue=[] then 0 else 4*((hit ok m).queue.length:Int)-(hit ok m).tries)+1≤4*(m.queue.length:Int)-m.tries:=by
        unfold hit
        split
        · simp only [e1,List.tail_cons]
          rw [e1] at h1
          cases q with
          | nil=>simp;omega
          | cons y q=>simp;omega
        · simp only [e1];simp;omega
      have e2:¬ m.queue=[]:=by rw [e1];simp
      simp only [List.map_cons,pot,e,if_neg e2]
      exact ⟨by omega,λ _=>by omega⟩
theorem busy_false {ms:List bus_master} (h:busy ms=false):∀ m∈ms,m.queue=[]:=by
  intro m hm
  have:=List.any_eq_false.1 h m hm
  simp only [wait,decide_eq_true_eq,Classical.not_not] at this
  exact this
theorem pick_ex {S:List bus_master} (hn:S.filter ready≠[]):∃ m∈S,pickd (least S) m=true:=by
  obtain ⟨m,h1,h2,h3⟩:=least_mem hn
  exact ⟨m,h1,by simp [pickd,h2,h3]⟩
end Lift
