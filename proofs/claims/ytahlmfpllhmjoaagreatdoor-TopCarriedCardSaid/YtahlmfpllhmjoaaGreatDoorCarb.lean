import Derived.Test.YtahlmfpllhmjoaaGreatDoorLiftP
import Derived.Test.YtahlmfpllhmjoaaGreatDoorPlain
import Derived.Test.YtahlmfpllhmjoaaGreatDoorCara
set_option linter.unusedVariables false
set_option linter.unusedSimpArgs false
namespace Lift
open Go
theorem loop_ex {σ β:Type} {step:(σ→Option β)→σ→Option β} (I:Nat→σ→Prop) (R:β→Prop) (h:∀ n s,I (n+1) s→∃ s',I n s'∧∀ k,step k s=k s') (h0:∀ s,I 0 s→∃ y,R y∧∀ k,step k s=some y) :
    ∀ (n fuel:Nat) (s:σ),n<fuel→I n s→∃ y,loopP step fuel s=some y∧R y
  | 0,0,_,hf,_=>by omega
  | 0,f+1,s,_,hi=>by
    obtain ⟨y,hy,hk⟩:=h0 s hi
    exact ⟨y,hk _,hy⟩
  | n+1,0,_,hf,_=>by omega
  | n+1,f+1,s,hf,hi=>by
    obtain ⟨s',hi',hk⟩:=h n s hi
    obtain ⟨y,hy,hr⟩:=loop_ex I R h h0 n f s' (by omega) hi'
    exact ⟨y,(hk _).trans hy,hr⟩
def DOk (d:made_Dice):Prop:=d.L.length≤5000∧0≤d.At∧d.At≤5000
theorem Mod_eq (fuel:Nat) {a m:Int} (h1:0<m) (h2:m≤10000000):made_Mod fuel a m=some (a % m):=by
  unfold made_Mod
  have hne:decide (m≠0)=true:=by simp;omega
  rw [hne,chk_true,bindP_some]
  have e:=Int.tmod_eq_emod (a:=a) (b:=m)
  have l1:=Int.emod_nonneg a (show m≠0 by omega)
  have l2:=Int.emod_lt_of_pos a h1
  by_cases h:Int.tmod a m<0
  · rw [show decide (Int.tmod a m<0)=true by simpa using h,iteP_true,letP_eq,w_i64 (by split at e<;>omega) (by split at e<;>omega)]
    congr 1
    split at e<;>omega
  · rw [show decide (Int.tmod a m<0)=false by simpa using h,iteP_false]
    congr 1
    split at e<;>omega
theorem Next_ok (fuel:Nat) {d:made_Dice} (h:DOk d) {m:Int} (h1:0<m) (h2:m≤10000000):∃ r d',made_Dice_Next fuel d m=some (r,d')∧0≤r∧r<m∧DOk d':=by
  obtain ⟨L1,L2,L3⟩:=h
  unfold made_Dice_Next
  by_cases hc:d.At≥(d.L.length:Int)
  · exact ⟨0,d,by rw [show decide (d.At≥(d.L.length:Int))=true by simpa using hc,iteP_true],by omega,h1,L1,L2,L3⟩
  · obtain ⟨n,hn⟩:∃ n:Nat,d.At=n:=⟨d.At.toNat,by omega⟩
    have hx : idx d.L d.At = some (d.L[n]'(by omega)) := by rw [hn, idx_nat]; simp
    refine ⟨(d.L[n]'(by omega)) % m, { d with At := d.At + 1 }, ?_, Int.emod_nonneg _ (by omega), Int.emod_lt_of_pos _ h1, L1, by simp only; omega, by simp only; omega⟩
    rw [show decide (d.At≥(d.L.length:Int))=false by simpa using hc,iteP_false,letP_eq,w_i64 (by omega) (by omega)]
    simp only [w_i64 (show -9223372036854775808≤d.At+1-1 by omega) (by omega)]
    rw [show d.At+1-1=d.At by omega,hx,bindP_some,Mod_eq fuel h1 h2,bindP_some]
theorem Bool_ok (fuel:Nat) {d:made_Dice} (h:DOk d) {m:Int} (h1:0<m) (h2:m≤10000000):∃ b d',made_Dice_Bool fuel d m=some (b,d')∧DOk d':=by
  obtain ⟨r,d',e,_,_,hd⟩:=Next_ok fuel h h1 h2
  unfold made_Dice_Bool
  rw [e,bindP_some,letP_eq]
  exact ⟨_,_,rfl,hd⟩
theorem Byte_ok (fuel:Nat) {d:made_Dice} (h:DOk d):∃ b d',made_Dice_Byte fuel d=some (b,d')∧byte b∧DOk d':=by
  obtain ⟨b,d1,e1,h1⟩:=Bool_ok fuel h (m:=3) (by omega) (by omega)
  unfold made_Dice_Byte
  rw [letP_eq,e1,bindP_some]
  cases b with
  | true =>
    obtain ⟨r,d2,e2,r1,r2,h2⟩:=Next_ok fuel h1 (m:=8) (by omega) (by omega)
    simp only [iteP_true]
    rw [e2,bindP_some]
    have hr:r=0∨r=1∨r=2∨r=3∨r=4∨r=5∨r=6∨r=7:=by omega
    rcases hr with rfl | rfl | rfl | rfl | rfl | rfl | rfl | rfl<;>exact ⟨_,d2,rfl,⟨by decide,by decide⟩,h2⟩
  | false =>
    obtain ⟨r,d2,e2,r1,r2,h2⟩:=Next_ok fuel h1 (m:=256) (by omega) (by omega)
    simp only [iteP_false]
    rw [e2,bindP_some]
    exact ⟨_,d2,rfl,by simp only [w_u8];constructor<;>omega,h2⟩
theorem Roll_eq (fuel:Nat) (l:List Int):made_Roll fuel l=some ⟨l,0⟩:=rfl
theorem Light_eq (fuel:Nat) (l:List Int):made_Light fuel l=some (decide ((l.length:Int)≤600)):=rfl
theorem roll_ok {l:List Int} (h:l.length≤5000):DOk ⟨l,0⟩:=⟨h,by simp,by simp⟩
theorem Bytes_ok {fuel:Nat} (hf:5000<fuel) {d:made_Dice} (h:DOk d) {n:Int} (h1:0≤n) (h2:n≤1000):∃ l d',made_Dice_Bytes fuel d n=some (l,d')∧(l.length:Int)≤n∧(∀ x∈l,byte x)∧DOk d':=by
  unfold made_Dice_Bytes
  rw [w_i64 (by omega) (by omega)]
  obtain ⟨r,d1,e1,r1,r2,hd⟩:=Next_ok fuel h (m:=n+1) (by omega) (by omega)
  rw [e1,bindP_some]
  obtain ⟨⟨l,d'⟩,hy,hr⟩:=loop_ex (step:=λ k1 (s1:(Int×made_Dice×(List Int))) =>
      iteP (decide (s1.1>0)) (bindP (made_Dice_Byte fuel s1.2.1) λ y2=>bindP (app 1 s1.2.2 ([y2.1])) λ x1=>letP (IntKind.i64.wrap (s1.1-1)) λ x2=>k1 (x2,y2.2,x1)) (some (s1.2.2,s1.2.1)))
    (λ m s=>s.1=(m:Int)∧(s.2.2.length:Int)+m=r∧(∀ x∈s.2.2,byte x)∧DOk s.2.1) (λ y:List Int×made_Dice=>(y.1.length:Int)=r∧(∀ x∈y.1,byte x)∧DOk y.2)
    (λ m s hs=>by
      obtain ⟨a1,a2,a3,a4⟩:=hs
      obtain ⟨b,d2,e2,hb,hd2⟩:=Byte_ok fuel a4
      refine ⟨((m:Int),d2,s.2.2++[b]),⟨rfl,by simp;omega,λ x hx=>?_,hd2⟩,λ k=>?_⟩
      · rcases List.mem_append.1 hx with hx | hx
        · exact a3 x hx
        · simp at hx;subst hx;exact hb
      · rw [show decide (s.1>0)=true by simp;omega,iteP_true,e2,bindP_some,app_ok (by simp;omega),bindP_some,letP_eq,w_i64 (by omega) (by omega),show s.1-1=(m:Int) by omega])
    (λ s hs=>by
      obtain ⟨a1,a2,a3,a4⟩:=hs
      exact ⟨(s.2.2,s.2.1),⟨by simp only;omega,a3,a4⟩,λ k=>by rw [show decide (s.1>0)=false by simp;omega,iteP_false]⟩)
    r.toNat fuel (r,d1,[]) (by omega) ⟨by simp only;omega,by simp;omega,by simp,hd⟩
  exact ⟨l,d',hy,by simp only at hr;omega,hr.2.1,hr.2.2⟩
def sum8 (l:List Int):Int:=(0-l.foldl (λ s x=>(s+x) % 256) 0) % 256
theorem sum_step {s x:Int} (hs:byte s) (hx:byte x):byte ((s+x) % 256):=by constructor<;>omega
theorem sum8_byte (l:List Int):byte (sum8 l):=by unfold sum8;constructor<;>omega
theorem checksum_Sum8_eq {fuel:Nat} {l:List Int} (h:Small l) (hf:5000<fuel):checksum_Sum8 fuel l=some (sum8 l):=by
  have hl:=h.1
  unfold checksum_Sum8
  refine fold_run (λ s x=>(s+x) % 256) byte ⟨by decide,by decide⟩ (λ s x hs hx=>sum_step hs (h.2 x hx)) (by omega) (λ s i x hs hx k=>?_) (λ k=>?_)
  · have hi:=lt_len hx
    simp only [show ((i:Int)<(l.length:Int)) by omega,decide_true,iteP_true,idx_nat,hx,bindP_some,letP_eq,w_u8,wi i (by omega)]
  · simp only [show ¬ ((l.length:Int)<(l.length:Int)) by omega,decide_false,iteP_false,letP_eq,w_u8,sum8]
theorem Seal8_eq {fuel:Nat} {l:List Int} (h:Small l) (hf:5000<fuel):checksum_Seal8 fuel l=some (l++[sum8 l]):=by
  have:=h.1
  unfold checksum_Seal8
  rw [clone_eq (by omega),bindP_some,checksum_Sum8_eq h hf,bindP_some,app_ok (by simp;omega)];rfl
structure MT (m:Message_):Prop where
  to:byte m.To
  fr:byte m.From
  fn:byte m.Function
  cm:byte m.Command
  cd:byte m.Code
  tu:okI .i64 m.ToUnit
  fu:okI .i64 m.FromUnit
  sq:okI .i64 m.Sequence
  da:∀ x∈m.Data,byte x
  le:m.Data.length≤1000
def MV (m:Message_):Prop:=8≤m.To∧m.To≤119∧8≤m.From∧m.From≤119∧m.Function≤63∧0≤m.ToUnit∧m.ToUnit≤3∧0≤m.FromUnit∧m.FromUnit≤3∧0≤m.Sequence∧m.Sequence≤63∧m.Data.length≤240∧(m.Function % 2=1∨m.Code=0)
instance (m:Message_):Decidable (MV m):=by unfold MV;infer_instance
theorem tm2 {n:Int} (h:0≤n):Int.tmod n 2=n % 2:=Int.tmod_eq_emod_of_nonneg h
theorem mValid_eq (fuel:Nat) {m:Message_} (h:0≤m.Function):message_Valid fuel m=some (decide (MV m)):=by
  unfold message_Valid message_address message_unit message_request
  simp only [letP_eq,joinP_eq,tm2 h]
  by_cases a1:8≤m.To
  rotate_left
  · simp [a1,MV]
  by_cases a2:m.To≤119
  rotate_left
  · simp [a1,a2,MV]
  by_cases a3:8≤m.From
  rotate_left
  · simp [a1,a2,a3,MV]
  by_cases a4:m.From≤119
  rotate_left
  · simp [a1,a2,a3,a4,MV]
  by_cases a5:m.Function≤63
  rotate_left
  · have:64≤m.Function:=by omega
    simp [a1,a2,a3,a4,a5,this,MV]
  have b5:¬ 64≤m.Function:=by omega
  by_cases a6:0≤m.ToUnit
  rotate_left
  · simp [a1,a2,a3,a4,a5,b5,a6,MV]
  by_cases a7:m.ToUnit≤3
  rotate_left
  · have:¬ m.ToUnit<4:=by omega
    simp [a1,a2,a3,a4,a5,b5,a6,a7,this,MV]
  have b7:m.ToUnit<4:=by omega
  by_cases a8:0≤m.FromUnit
  rotate_left
  · simp [a1,a2,a3,a4,a5,b5,a6,a7,b7,a8,MV]
  by_cases a9:m.FromUnit≤3
  rotate_left
  · have:¬ m.FromUnit<4:=by omega
    simp [a1,a2,a3,a4,a5,b5,a6,a7,b7,a8,a9,this,MV]
  have b9:m.FromUnit<4:=by omega
  by_cases c1:0≤m.Sequence
  rotate_left
  · simp [a1,a2,a3,a4,a5,b5,a6,a7,b7,a8,a9,b9,c1,MV]
  by_cases c2:m.Sequence≤63
  rotate_left
  · have:¬ m.Sequence<64:=by omega
    simp [a1,a2,a3,a4,a5,b5,a6,a7,b7,a8,a9,b9,c1,c2,this,MV]
  have d2:m.Sequence<64:=by omega
  by_cases c3:m.Data.length≤240
  rotate_left
  · have:¬ (m.Data.length:Int)≤240:=by omega
    simp [a1,a2,a3,a4,a5,b5,a6,a7,b7,a8,a9,b9,c1,c2,d2,c3,this,MV]
  have d3:(m.Data.length:Int)≤240:=by omega
  by_cases c4:m.Function % 2=1
  · have:¬ m.Function % 2=0:=by omega
    simp [a1,a2,a3,a4,a5,b5,a6,a7,b7,a8,a9,b9,c1,c2,d2,c3,d3,c4,MV]
  · have d4:m.Function % 2=0:=by omega
    simp [a1,a2,a3,a4,a5,b5,a6,a7,b7,a8,a9,b9,c1,c2,d2,c3,d3,d4,MV]
    rfl
def mhead (m:Message_):List Int:=[2*m.To,4*m.Function+m.ToUnit]
def mbody (m:Message_):List Int:=[2*m.From,4*m.Sequence+m.FromUnit,m.Command]++(if m.Function % 2=1 then [m.Code] else [])++m.Data
def mbytes (m:Message_):List Int:=(mhead m++[sum8 (mhead m)])++(mbody m++[sum8 (mbody m)])
theorem mhead_small {m:Message_} (h:MV m) (t:MT m):Small (mhead m):=by
  obtain ⟨h1,h2,h3,h4,h5,h6,h7,_⟩:=h
  have:=t.fn.1
  refine ⟨by simp [mhead],λ x hx=>?_⟩
  simp only [mhead,List.mem_cons,List.not_mem_nil,or_false] at hx
  rcases hx with rfl | rfl<;>constructor<;>omega
theorem mbody_small {m:Message_} (h:MV m) (t:MT m):Small (mbody m):=by
  obtain ⟨h1,h2,h3,h4,h5,h6,h7,h8,h9,h10,h11,h12,_⟩:=h
  refine ⟨by simp only [mbody];split<;>simp<;>omega,λ x hx=>?_⟩
  simp only [mbody,List.mem_append,List.mem_cons,List.not_mem_nil,or_false] at hx
  rcases hx with ((rfl | rfl | rfl) | hx) | hx
  · constructor<;>omega
  · constructor<;>omega
  · exact t.cm
  · split at hx
    · simp at hx;subst hx;exact t.cd
    · simp at hx
  · exact t.da x hx
theorem mbody_len {m:Message_} (h:MV m):(mbody m).length≤244∧3≤(mbody m).length:=by
  have:=h.2.2.2.2.2.2.2.2.2.2.2.1
  simp only [mbody];split<;>simp<;>omega
theorem mhead_eq {m:Message_} (h:MV m) (t:MT m):[(IntKind.u8.wrap (2*m.To)),(IntKind.u8.wrap ((IntKind.u8.wrap (4*m.Function))+(IntKind.u8.wrap m.ToUnit)))]=mhead m:=by
  obtain ⟨h1,h2,h3,h4,h5,h6,h7,_⟩:=h
  have:=t.fn.1
  simp only [w_u8,mhead,List.cons.injEq,and_true]
  omega
theorem mthree_eq {m:Message_} (h:MV m):[(IntKind.u8.wrap (2*m.From)),(IntKind.u8.wrap (IntKind.i64.wrap ((IntKind.i64.wrap (4*m.Sequence))+m.FromUnit))),m.Command]=[2*m.From,4*m.Sequence+m.FromUnit,m.Command]:=by
  obtain ⟨h1,h2,h3,h4,h5,h6,h7,h8,h9,h10,h11,h12,_⟩:=h
  rw [w_i64 (n:=4*m.Sequence) (by omega) (by omega),w_i64 (by omega) (by omega)]
  simp only [w_u8,List.cons.injEq,and_true]
  omega
theorem mEncode_eq {fuel:Nat} (hf:5000<fuel) {m:Message_} (h:MV m) (t:MT m):message_encode fuel m=some (mbytes m):=by
  have hs:=mhead_small h t
  have hb:=mbody_small h t
  have hl:=mbody_len h
  have hd:m.Data.length≤240:=h.2.2.2.2.2.2.2.2.2.2.2.1
  unfold message_encode message_request
  rw [mhead_eq h t,Seal8_eq hs hf,bindP_some,letP_eq,bindP_some,joinP_eq,mthree_eq h,tm2 t.fn.1]
  by_cases c:m.Function % 2=1
  · have e1:(m.Function % 2==0)=false:=by simp;omega
    rw [e1,Bool.not_false,iteP_true,app_ok (by simp),bindP_some]
    have e2:[2*m.From,4*m.Sequence+m.FromUnit,m.Command]++[m.Code]++m.Data=mbody m:=by simp [mbody,c]
    show bindP (app 1 _ m.Data) _=_
    rw [app_ok (by simp;omega),bindP_some,e2,Seal8_eq hb hf,bindP_some,app_ok (by simp [mhead];omega)]
    rfl
  · have e1:(m.Function % 2==0)=true:=by simp;omega
    rw [e1,Bool.not_true,iteP_false]
    have e2:[2*m.From,4*m.Sequence+m.FromUnit,m.Command]++m.Data=mbody m:=by simp [mbody,c]
    show bindP (app 1 _ m.Data) _=_
    rw [app_ok (by simp;omega),bindP_some,e2,Seal8_eq hb hf,bindP_some,app_ok (by simp [mhead];omega)]
    rfl
def mreq (m:Message_):List Int×Int:=if MV m∧m.Function % 2=0 then (mbytes m,0) else ([],1)
theorem mRequest_eq {fuel:Nat} (hf:5000<fuel) {m:Message_} (t:MT m):message_Request fuel m=some (mreq m):=by
  unfold message_Request message_request mreq
  rw [mValid_eq fuel t.fn.1,bindP_some,letP_eq,joinP_eq,tm2 t.fn.1]
  by_cases h:MV m
  · by_cases c:m.Function % 2=0
    · simp [h,c,mEncode_eq hf h t]
    · have e:(m.Function % 2==0)=false:=by simpa using c
      simp [h,c,e]
  · simp [h]
theorem mbytes_small {m:Message_} (h:MV m) (t:MT m):Small (mbytes m)∧7≤(mbytes m).length∧(mbytes m).length≤248:=by
  have hs:=mhead_small h t
  have hb:=mbody_small h t
  have hl:=mbody_len h
  have hlen:(mbytes m).length=(mbody m).length+4:=by simp [mbytes,mhead]
  refine ⟨⟨by omega,λ x hx=>?_⟩,by omega,by omega⟩
  simp only [mbytes,List.mem_append,List.mem_cons,List.not_mem_nil,or_false] at hx
  rcases hx with (hx | rfl) | (hx | rfl)
  · exact hs.2 x hx
  · exact sum8_byte _
  · exact hb.2 x hx
  · exact sum8_byte _
theorem next_nat (fuel:Nat) {d:made_Dice} (h:DOk d) {m:Nat} (h1:0<m) (h2:m≤1000000):∃ (r:Nat) (d':made_Dice),made_Dice_Next fuel d (m:Int)=some ((r:Int),d')∧r<m∧DOk d':=by
  obtain ⟨r,d',e,r1,r2,hd⟩:=Next_ok fuel h (m:=(m:Int)) (by omega) (by omega)
  exact ⟨r.toNat,d',by rw [e,Int.toNat_of_nonneg r1],by omega,hd⟩
theorem okI_small {n:Int} (h1:-1000000≤n) (h2:n≤1000000):okI .i64 n:=okI_i64.2 ⟨by omega,by omega⟩
theorem mk_zeros {n:Nat} (h:n≤100000):mk 1 (0:Int) (n:Int)=some (List.replicate n 0):=by
  have h1:0≤(n:Int)∧(n:Int).toNat*1≤140737488355328:=by constructor<;>omega
  rw [mk,if_pos h1];simp
theorem zeros_byte {n:Nat}:∀ x∈List.replicate n (0:Int),byte x:=λ x hx=>by rw [List.eq_of_mem_replicate hx];constructor<;>omega
def MD (resp:Bool) (m:Message_):Prop:=MT m∧MV m∧m.Function % 2=(if resp then 1 else 0)∧m.To≤100∧m.From≤100
theorem Message_ok {fuel:Nat} (hf:5000<fuel) {d:made_Dice} (h:DOk d) (resp:Bool):∃ m d',made_Dice_Message fuel d resp=some (m,d')∧MD resp m∧DOk d':=by
  suffices hE:Ev (made_Dice_Message fuel d resp) (λ p=>MD resp p.1∧DOk p.2) by
    obtain ⟨⟨m,d'⟩,e,h1,h2⟩:=hE;exact ⟨m,d',e,h1,h2⟩
  unfold made_Dice_Message
  obtain ⟨y1,d1,e1,r1,h1⟩:=next_nat fuel h (m:=4) (by omega) (by omega)
  obtain ⟨y2,d2,e2,r2,h2⟩:=next_nat fuel h1 (m:=4) (by omega) (by omega)
  obtain ⟨y3,d3,e3,r3,h3⟩:=next_nat fuel h2 (m:=32) (by omega) (by omega)
  obtain ⟨y4,d4,e4,b4,h4⟩:=Byte_ok fuel h3
  obtain ⟨y5,d5,e5,r5,h5⟩:=next_nat fuel h4 (m:=4) (by omega) (by omega)
  obtain ⟨y6,d6,e6,r6,h6⟩:=next_nat fuel h5 (m:=4) (by omega) (by omega)
  obtain ⟨y7,d7,e7,r7,h7⟩:=next_nat fuel h6 (m:=64) (by omega) (by omega)
  obtain ⟨y8,d8,e8,l8,b8,h8⟩:=Bytes_ok hf h7 (n:=8) (by omega) (by omega)
  refine Ev.to e1 (Ev.to e2 (Ev.to e3 (Ev.to e4 (Ev.to e5 (Ev.to e6 (Ev.to e7 (Ev.to e8 ?_)))))))
  have w1:IntKind.u8.wrap (IntKind.i64.wrap (16+(y1:Int)))=16+(y1:Int):=by rw [w_i64 (by omega) (by omega),w_u8];omega
  have w2:IntKind.u8.wrap (IntKind.i64.wrap (64+(y2:Int)))=64+(y2:Int):=by rw [w_i64 (by omega) (by omega),w_u8];omega
  have w3:IntKind.u8.wrap (IntKind.i64.wrap (2*(y3:Int)))=2*(y3:Int):=by rw [w_i64 (by omega) (by omega),w_u8];omega
  have w4:IntKind.u8.wrap (2*(y3:Int)+1)=2*(y3:Int)+1:=by rw [w_u8];omega
  simp only [w1,w2,w3,w4]
  refine Ev.join (λ s=>MD resp s.2∧DOk s.1) (λ s hs=>?_) (λ j hj=>?_)
  · obtain ⟨dd,m⟩:=s
    obtain ⟨⟨hT,hV,hP⟩,hd⟩:=hs
    obtain ⟨b,d9,e9,h9⟩:=Bool_ok fuel hd (m:=40) (by omega) (by omega)
    refine Ev.to e9 (Ev.ite (λ _=>?_) (λ _=>Ev.ret ⟨⟨hT,hV,hP⟩,h9⟩))
    refine Ev.to (a:=List.replicate 240 0) (mk_zeros (n:=240) (by omega)) (Ev.letP (Ev.ret ⟨⟨⟨hT.to,hT.fr,hT.fn,hT.cm,hT.cd,hT.tu,hT.fu,hT.sq,zeros_byte,by show (List.replicate 240 (0:Int)).length≤1000;rw [List.length_replicate];omega⟩,?_,hP⟩,h9⟩))
    obtain ⟨q1,q2,q3,q4,q5,q6,q7,q8,q9,q10,q11,_,q13⟩:=hV
    exact ⟨q1,q2,q3,q4,q5,q6,q7,q8,q9,q10,q11,by show (List.replicate 240 (0:Int)).length≤240;rw [List.length_replicate];omega,q13⟩
  · cases resp with
    | true =>
      obtain ⟨y10,d10,e10,b10,h10⟩:=Byte_ok fuel h8
      refine Ev.iteT rfl (Ev.letP (Ev.to e10 (Ev.letP (hj _ ⟨⟨⟨?_,?_,?_,b4,b10,okI_small ?_ ?_,okI_small ?_ ?_,okI_small ?_ ?_,b8,?_⟩,⟨?_,?_,?_,?_,?_,?_,?_,?_,?_,?_,?_,?_,.inl ?_⟩,?_,?_,?_⟩,h10⟩))))
      all_goals simp only [if_true]
      all_goals first | omega | (constructor<;>omega)
    | false =>
      refine Ev.iteF rfl (hj _ ⟨⟨⟨?_,?_,?_,b4,?_,okI_small ?_ ?_,okI_small ?_ ?_,okI_small ?_ ?_,b8,?_⟩,⟨?_,?_,?_,?_,?_,?_,?_,?_,?_,?_,?_,?_,.inr rfl⟩,?_,?_,?_⟩,h8⟩)
      all_goals simp only [Bool.false_eq_true,if_false]
      all_goals first | omega | (constructor<;>omega)
instance:DecidableEq Message_:=λ a b=>decidable_of_iff (a.To=b.To∧a.From=b.From∧a.Function=b.Function∧a.Command=b.Command∧a.ToUnit=b.ToUnit∧a.FromUnit=b.FromUnit∧a.Sequence=b.Sequence∧a.Code=b.Code∧a.Data=b.Data) (by cases a;cases b;simp)
theorem mext {a b:Message_}:(a=b)=(a.To=b.To∧a.From=b.From∧a.Function=b.Function∧a.Command=b.Command∧a.ToUnit=b.ToUnit∧a.FromUnit=b.FromUnit∧a.Sequence=b.Sequence∧a.Code=b.Code∧a.Data=b.Data):=by cases a;cases b;simp
theorem ibeq (a b:Int):(a==b)=decide (a=b):=rfl
theorem ibne (a b:Int):(a != b)=!decide (a=b):=rfl
theorem mSame_eq {fuel:Nat} (hf:5000<fuel) (a b:Message_) (hl:a.Data.length≤4000):ref23_Same fuel a b=some (decide (a=b)):=by
  unfold ref23_Same
  simp only [mext,ibeq]
  by_cases h1:a.To=b.To
  rotate_left
  · simp [h1]
  by_cases h2:a.From=b.From
  rotate_left
  · simp [h1,h2]
  by_cases h3:a.Function=b.Function
  rotate_left
  · simp [h1,h2,h3]
  by_cases h4:a.Command=b.Command
  rotate_left
  · simp [h1,h2,h3,h4]
  by_cases h5:a.ToUnit=b.ToUnit
  rotate_left
  · simp [h1,h2,h3,h4,h5]
  by_cases h6:a.FromUnit=b.FromUnit
  rotate_left
  · simp [h1,h2,h3,h4,h5,h6]
  by_cases h7:a.Sequence=b.Sequence
  rotate_left
  · simp [h1,h2,h3,h4,h5,h6,h7]
  by_cases h8:a.Code=b.Code
  rotate_left
  · simp [h1,h2,h3,h4,h5,h6,h7,h8]
  simp [h1,h2,h3,h4,h5,h6,h7,h8,Same_eq (fuel:=fuel) (a:=a.Data) (b:=b.Data) (by omega) (by omega)]
def MM (m r:Message_):Prop:=(MV m∧m.Function % 2=0)∧MV r∧r.To=m.From∧r.From=m.To∧r.Function=m.Function+1∧r.Command=m.Command∧r.ToUnit=m.FromUnit∧r.FromUnit=m.ToUnit∧r.Sequence=m.Sequence
instance (m r:Message_):Decidable (MM m r):=by unfold MM;infer_instance
def AD (a:Int):Prop:=8≤a∧a≤119
instance (a:Int):Decidable (AD a):=by unfold AD;infer_instance
theorem six {l:List Int} (h:7≤l.length):∃ b0 b1 b2 b3 b4 b5 R,l=b0::b1::b2::b3::b4::b5::R∧R≠[]:=by
  match l,h with
  | b0::b1::b2::b3::b4::b5::c::R,_=>exact ⟨b0,b1,b2,b3,b4,b5,c::R,rfl,by simp⟩
theorem byte_conv {b:Int} (h:byte b):IntKind.u8.wrap (Int.tdiv b 2)=b / 2∧IntKind.u8.wrap (Int.tdiv b 4)=b / 4∧Int.tmod b 2=b % 2∧Int.tmod b 4=b % 4∧IntKind.i64.wrap (b % 4)=b % 4∧IntKind.i64.wrap (b / 4)=b / 4∧IntKind.i64.wrap b=b∧Int.tdiv b 4=b / 4∧IntKind.u8.wrap (b / 4)=b / 4:=by
  obtain ⟨h1,h2⟩:=h
  rw [Int.tdiv_eq_ediv_of_nonneg h1,Int.tdiv_eq_ediv_of_nonneg h1,Int.tmod_eq_emod_of_nonneg h1,Int.tmod_eq_emod_of_nonneg h1,w_u8,w_u8,w_i64 (by omega) (by omega),w_i64 (by omega) (by omega),w_i64 (by omega) (by omega)]
  omega
theorem maddr_eq (fuel:Nat) (a:Int):message_address fuel a=some (decide (AD a)):=by
  unfold message_address AD
  by_cases h:8≤a<;>simp [h]
theorem sub_tail {b0 b1 b2 b3 b4 b5:Int} {R:List Int} (h:R≠[]) (hl:R.length≤5000) :
    sub (b0::b1::b2::b3::b4::b5::R) 6 (IntKind.i64.wrap (((b0::b1::b2::b3::b4::b5::R).length:Int)-1))=some R.dropLast:=by
  have hp:0<R.length:=List.length_pos_iff.2 h
  have e:IntKind.i64.wrap (((b0::b1::b2::b3::b4::b5::R).length:Int)-1)=((R.length+5:Nat):Int):=by
    simp only [List.length_cons];rw [w_i64 (by omega) (by omega)];omega
  rw [e,show (6:Int)=((6:Nat):Int) from rfl,sub_ok (by omega) (by simp)]
  simp only [List.drop_succ_cons,List.drop_zero,List.dropLast_eq_take]
  rfl
theorem sub_tail7 {b0 b1 b2 b3 b4 b5 c:Int} {R:List Int} (h:R≠[]) (hl:R.length≤5000) :
    sub (b0::b1::b2::b3::b4::b5::c::R) 7 (IntKind.i64.wrap (((b0::b1::b2::b3::b4::b5::c::R).length:Int)-1))=some R.dropLast:=by
  have hp:0<R.length:=List.length_pos_iff.2 h
  have e:IntKind.i64.wrap (((b0::b1::b2::b3::b4::b5::c::R).length:Int)-1)=((R.length+6:Nat):Int):=by
    simp only [List.length_cons];rw [w_i64 (by omega) (by omega)];omega
  rw [e,show (7:Int)=((7:Nat):Int) from rfl,sub_ok (by omega) (by simp)]
  simp only [List.drop_succ_cons,List.drop_zero,List.dropLast_eq_take]
  rfl
def mfin (resp:Bool) (b0 b1 b3 b4 b5 c:Int) (D:List Int):Message_×Int :=
    if ¬ (b0 % 2=0∧b3 % 2=0∧b1 / 4 % 2=(if resp then 1 else 0)) then (Message_.z,6) else
    if ¬ (AD (b0 / 2)∧AD (b3 / 2)) then (Message_.z,13) else
    if D.length>240 then (Message_.z,3) else (⟨b0 / 2,b3 / 2,b1 / 4,b5,b1 % 4,b4 % 4,b4 / 4,c,D⟩,0)
theorem mcore {fuel:Nat} (hf:5000<fuel) {b0 b1 b2 b3 b4 b5 c:Int} {R D:List Int} (resp:Bool) {p:Int} (hp:p=if resp then 7 else 6)
    (h:Small (b0::b1::b2::b3::b4::b5::R))
    (hsub:sub (b0::b1::b2::b3::b4::b5::R) p (IntKind.i64.wrap (((b0::b1::b2::b3::b4::b5::R).length:Int)-1))=some D)
    (hD:D.length≤5000)
    (hc:if resp then idx (b0::b1::b2::b3::b4::b5::R) 6=some c else c=0) :
    message_parse fuel (b0::b1::b2::b3::b4::b5::R) p=some (if sum8 ((b0::b1::b2::b3::b4::b5::R).take 3)≠0∨sum8 ((b0::b1::b2::b3::b4::b5::R).drop 3)≠0 then (Message_.z,5) else mfin resp b0 b1 b3 b4 b5 c D):=by
  have hby:=h.2
  have c0:=byte_conv (hby b0 (by simp))
  have c1:=byte_conv (hby b1 (by simp))
  have c3:=byte_conv (hby b3 (by simp))
  have c4:=byte_conv (hby b4 (by simp))
  have d1:Int.tmod (b1 / 4) 2=b1 / 4 % 2:=Int.tmod_eq_emod_of_nonneg (by have:=(hby b1 (by simp)).1;omega)
  have st:sub (b0::b1::b2::b3::b4::b5::R) 0 3=some ((b0::b1::b2::b3::b4::b5::R).take 3):=sub_take (by omega) (by simp;omega)
  have sd:sub (b0::b1::b2::b3::b4::b5::R) 3 (b0::b1::b2::b3::b4::b5::R).length=some ((b0::b1::b2::b3::b4::b5::R).drop 3):=sub_drop (b:=3) (by omega) (by simp;omega)
  have i0:idx (b0::b1::b2::b3::b4::b5::R) 0=some b0:=rfl
  have i1:idx (b0::b1::b2::b3::b4::b5::R) 1=some b1:=rfl
  have i3:idx (b0::b1::b2::b3::b4::b5::R) 3=some b3:=rfl
  have i4:idx (b0::b1::b2::b3::b4::b5::R) 4=some b4:=rfl
  have i5:idx (b0::b1::b2::b3::b4::b5::R) 5=some b5:=rfl
  have hcl:slices_Clone_byte_byte fuel D=some D:=clone_eq (by omega)
  have hs1:=checksum_Sum8_eq (h.take 3) hf
  have hs2:=checksum_Sum8_eq (h.drop 3) hf
  unfold message_parse message_request
  rw [st,bindP_some,hs1,bindP_some,joinP_eq,sd,bindP_some,hs2,bindP_some]
  generalize sum8 ((b0::b1::b2::b3::b4::b5::R).take 3)=s1
  generalize sum8 ((b0::b1::b2::b3::b4::b5::R).drop 3)=s2
  by_cases k1:s1=0
  rotate_left
  · simp [k1,ibne]
  by_cases k2:s2=0
  rotate_left
  · simp [k1,k2,ibne]
  rw [i0,i1,i3,i4,i5,hsub]
  simp only [k1,k2,ibne,decide_true,Bool.not_true,iteP_false,bindP_some,hcl,c0,c1,c3,c4,joinP_eq,ne_eq,not_true_eq_false,or_self,if_false]
  cases resp with
  | false =>
    simp only [Bool.false_eq_true,if_false] at hp hc
    subst hp;subst hc
    simp only [show decide ((6:Int)=7)=false from rfl,iteP_false,ibeq,letP_eq,bindP_some,maddr_eq,d1,mfin,decide_true]
    by_cases t0:b0 % 2=0
    rotate_left
    · simp [t0]
    by_cases t1:b3 % 2=0
    rotate_left
    · simp [t0,t1]
    by_cases t2:b1 / 4 % 2=0
    rotate_left
    · simp [t0,t1,t2]
    by_cases t3:AD (b0 / 2)
    rotate_left
    · simp [t0,t1,t2,t3]
    by_cases t4:AD (b3 / 2)
    rotate_left
    · simp [t0,t1,t2,t3,t4]
    by_cases t5:D.length>240
    · have:240<(D.length:Int):=by omega
      simp [t0,t1,t2,t3,t4,t5,this]
    · have:¬ 240<(D.length:Int):=by omega
      simp [t0,t1,t2,t3,t4,t5,this]
  | true =>
    simp only [if_true] at hp hc
    subst hp
    have w7:IntKind.i64.wrap (7-1)=6:=by decide
    simp only [show decide ((7:Int)=7)=true from rfl,iteP_true,ibeq,letP_eq,w7,hc,bindP_some,maddr_eq,d1,mfin,show decide ((7:Int)=6)=false from rfl]
    by_cases t0:b0 % 2=0
    rotate_left
    · simp [t0]
    by_cases t1:b3 % 2=0
    rotate_left
    · simp [t0,t1]
    by_cases t2:b1 / 4 % 2=1
    rotate_left
    · have:b1 / 4 % 2=0:=by omega
      simp [t0,t1,this]
    by_cases t3:AD (b0 / 2)
    rotate_left
    · simp [t0,t1,t2,t3]
    by_cases t4:AD (b3 / 2)
    rotate_left
    · simp [t0,t1,t2,t3,t4]
    by_cases t5:D.length>240
    · have:240<(D.length:Int):=by omega
      simp [t0,t1,t2,t3,t4,t5,this]
    · have:¬ 240<(D.length:Int):=by omega
      simp [t0,t1,t2,t3,t4,t5,this]
def mparse (resp:Bool) (l:List Int):Message_×Int :=
  if l.length<(if resp then 8 else 7) then (Message_.z,4) else
  if sum8 (l.take 3)≠0∨sum8 (l.drop 3)≠0 then (Message_.z,5) else
  match l with
  | b0::b1::_::b3::b4::b5::R=>mfin resp b0 b1 b3 b4 b5 (if resp then R.headD 0 else 0) (if resp then R.drop 1 else R).dropLast
  | _=>(Message_.z,4)
theorem mparts {l:List Int} (hl:l.length≤5000) (resp:Bool) (h0:¬ l.length<(if resp then 8 else 7)):∃ b0 b1 b2 b3 b4 b5 R c D,l=b0::b1::b2::b3::b4::b5::R ∧
    c=(if resp then R.headD 0 else 0)∧D=(if resp then R.drop 1 else R).dropLast∧sub l (if resp then 7 else 6) (IntKind.i64.wrap ((l.length:Int)-1))=some D∧D.length≤5000∧(if resp then idx l 6=some c else c=0):=by
  obtain ⟨b0,b1,b2,b3,b4,b5,R,rfl,hR⟩:=six (l:=l) (by cases resp<;>simp at h0 ⊢<;>omega)
  have hRl:R.length≤4994:=by simp at hl;omega
  cases resp with
  | false =>
    refine ⟨b0,b1,b2,b3,b4,b5,R,_,_,rfl,rfl,rfl,sub_tail hR (by omega),?_,rfl⟩
    simp;omega
  | true =>
    match R,hR,hRl with
    | c::R',_,hRl =>
      have hR':R'≠[]:=by
        intro e;subst e;simp at h0
      refine ⟨b0,b1,b2,b3,b4,b5,c::R',_,_,rfl,rfl,rfl,sub_tail7 hR' (by simp at hRl;omega),?_,rfl⟩
      simp at hRl ⊢;omega
theorem mpar_eq {fuel:Nat} (hf:5000<fuel) {l:List Int} (h:Small l):message_ParseRequest fuel l=some (mparse false l):=by
  unfold message_ParseRequest
  by_cases h0:l.length<7
  · have:(l.length:Int)<7:=by omega
    simp [mparse,h0,this]
  · have h0':¬ (l.length:Int)<7:=by omega
    rw [decide_eq_false h0',iteP_false]
    obtain ⟨b0,b1,b2,b3,b4,b5,R,c,D,rfl,e1,e2,h1,h2,h3⟩:=mparts h.1 false h0
    rw [mcore (p:=6) hf false rfl h h1 h2 h3,bindP_some,e1,e2];exact (congrArg some (if_neg h0)).symm
theorem sum8_sum (l:List Int):sum8 l=(0-l.sum) % 256:=by
  have key:∀ (l:List Int) (s:Int),0≤s→s<256→l.foldl (λ s x=>(s+x) % 256) s=(s+l.sum) % 256:=by
    intro l
    induction l with
    | nil=>intro s h1 h2;simp;omega
    | cons x l ih =>
      intro s h1 h2
      simp only [List.foldl_cons,List.sum_cons]
      rw [ih _ (by omega) (by omega)];omega
  unfold sum8
  rw [key l 0 (by omega) (by omega)];omega
theorem sum8_sealed (l:List Int):sum8 (l++[sum8 l])=0:=by
  rw [sum8_sum,List.sum_append,sum8_sum l];simp;omega
def mrest (m:Message_):List Int:=(if m.Function % 2=1 then [m.Code] else [])++m.Data++[sum8 (mbody m)]
theorem mbytes_cons (m:Message_):mbytes m=(2*m.To)::(4*m.Function+m.ToUnit)::sum8 (mhead m)::(2*m.From)::(4*m.Sequence+m.FromUnit)::m.Command::mrest m:=by
  simp [mbytes,mhead,mrest,mbody]
theorem mbytes_take (m:Message_):sum8 ((mbytes m).take 3)=0:=by
  have:(mbytes m).take 3=mhead m++[sum8 (mhead m)]:=by simp [mbytes,mhead]
  rw [this,sum8_sealed]
theorem mbytes_drop (m:Message_):sum8 ((mbytes m).drop 3)=0:=by
  have:(mbytes m).drop 3=mbody m++[sum8 (mbody m)]:=by simp [mbytes,mhead]
  rw [this,sum8_sealed]
theorem mparse_back {m:Message_} (h:MV m) (t:MT m) (r:Bool) (hp:m.Function % 2=if r then 1 else 0):mparse r (mbytes m)=(m,0):=by
  have ha:=mbytes_take m
  have hb:=mbytes_drop m
  have hl:(mbytes m).length=(mbody m).length+4:=by simp [mbytes,mhead]
  have hl2:(mbody m).length=(if m.Function % 2=1 then 1 else 0)+m.Data.length+3:=by simp only [mbody];split<;>simp<;>omega
  have h0:¬ (mbytes m).length<(if r then 8 else 7):=by
    rw [hl,hl2,hp];cases r<;>simp<;>omega
  unfold mparse
  rw [if_neg h0,ha,hb,if_neg (by simp),mbytes_cons]
  have hfn:=t.fn
  obtain ⟨h1,h2,h3,h4,h5,h6,h7,h8,h9,h10,h11,h12,h13⟩:=h
  have e1:(4*m.Function+m.ToUnit) / 4=m.Function:=by omega
  have e2:2*m.To / 2=m.To:=by omega
  have e3:2*m.From / 2=m.From:=by omega
  have e4:(4*m.Function+m.ToUnit) % 4=m.ToUnit:=by omega
  have e5:(4*m.Sequence+m.FromUnit) % 4=m.FromUnit:=by omega
  have e6:(4*m.Sequence+m.FromUnit) / 4=m.Sequence:=by omega
  have e7:((if r then (mrest m).drop 1 else mrest m).dropLast)=m.Data:=by
    unfold mrest
    rw [hp];cases r<;>simp
  have e8:(if r then (mrest m).headD 0 else 0)=m.Code:=by
    unfold mrest
    rw [hp]
    cases r with
    | false=>simp at hp ⊢;omega
    | true=>simp
  simp only []
  unfold mfin
  rw [e1,e2,e3,e4,e5,e6,e7,e8,if_neg (by rw [hp];simp),if_neg (by simp only [AD];omega),if_neg (by omega)]
theorem wr {n:Int} (h:-1000000000≤n∧n≤1000000000):IntKind.i64.wrap n=n:=w_i64 (by omega) (by omega)
def endp (n:Int):Bool:=decide (8≤n∧n≤254)
theorem endpoint_eq (fuel:Nat) (n:Int):fragment_endpoint fuel n=some (endp n):=by
  unfold fragment_endpoint endp
  by_cases h1:8≤n<;>by_cases h2:n≤254<;>simp [h1,h2]
def nsp (k:Nat) (xs:List Int):Nat:=(xs.length+k-1) / k
def piece (k:Nat) (xs:List Int) (i:Nat):List Int:=(xs.drop (i*k)).take k
theorem nsp_lt {k:Nat} (hk:0<k) {xs:List Int} {i:Nat}:i<nsp k xs↔i*k<xs.length:=by
  unfold nsp
  rw [Nat.lt_iff_add_one_le,Nat.le_div_iff_mul_le hk,Nat.add_mul]
  omega
theorem nsp_last {k:Nat} (hk:0<k) {xs:List Int} {i:Nat} (h:i*k<xs.length):i+1=nsp k xs↔xs.length≤i*k+k:=by
  have h1:=(nsp_lt hk (xs:=xs) (i:=i)).2 h
  have h2:=nsp_lt hk (xs:=xs) (i:=i+1)
  rw [Nat.add_mul,Nat.one_mul] at h2
  omega
theorem nsp_le {k:Nat} (hk:0<k) (xs:List Int):nsp k xs≤xs.length:=by
  by_cases h:nsp k xs=0
  · omega
  · have:=(nsp_lt hk (xs:=xs) (i:=nsp k xs-1)).1 (by omega)
    have h2:nsp k xs-1≤(nsp k xs-1)*k:=Nat.le_mul_of_pos_right _ hk
    omega
theorem nsp_pos {k:Nat} (hk:0<k) {xs:List Int} (h:0<xs.length):0<nsp k xs:=(nsp_lt hk).2 (by simpa using h)
def pkt (to frm:Int) (ow:Bool) (tag:Int) (k:Nat) (xs:List Int) (i:Nat):Packet_:=⟨to,frm,decide (i=0),decide (i+1=nsp k xs),((i % 4:Nat):Int),ow,tag,piece k xs i⟩
def pkt0 (to frm:Int) (ow:Bool) (tag:Int) (k:Nat) (xs:List Int) (i:Nat):Packet_:=⟨to,frm,false,false,((i % 4:Nat):Int),ow,tag,piece k xs i⟩
def pkts (to frm:Int) (ow:Bool) (tag:Int) (k:Nat) (xs:List Int):List Packet_:=(List.range (nsp k xs)).map (pkt to frm ow tag k xs)
def splitR (to frm:Int) (ow:Bool) (tag size:Int) (xs:List Int):List Packet_×Int :=
  if endp to=false∨endp frm=false then ([],13) else if tag<0∨8≤tag∨size<1∨64<size then ([],2) else if xs.length=0 then ([],1) else if 512<xs.length then ([],3) else (pkts to frm ow tag size.toNat xs,0)
theorem piece_sub {k:Nat} {xs:List Int} {i:Nat} (h:i*k<xs.length):sub xs ((i*k:Nat):Int) (min ((i*k+k:Nat):Int) (xs.length:Int))=some (piece k xs i):=by
  have:min ((i*k+k:Nat):Int) (xs.length:Int)=((min (i*k+k) xs.length:Nat):Int):=by omega
  rw [this,sub_ok (by omega) (by omega),piece]
  congr 1
  by_cases hk:i*k+k≤xs.length
  · congr 1;omega
  · rw [List.take_of_length_le (by simp;omega),List.take_of_length_le (by simp;omega)]
theorem piece_len {k:Nat} {xs:List Int} {i:Nat}:(piece k xs i).length=min k (xs.length-i*k):=by simp [piece]
theorem piece_small {k:Nat} {xs:List Int} {i:Nat}:(piece k xs i).length≤xs.length:=by rw [piece_len];omega
theorem range_snoc {α:Type} (f:Nat→α) (n:Nat):(List.range (n+1)).map f=(List.range n).map f++[f n]:=by rw [List.range_succ,List.map_append];rfl
theorem tm4 (i:Nat):Int.tmod (i:Int) 4=((i % 4:Nat):Int):=by rw [Int.tmod_eq_emod_of_nonneg (by omega)];omega
theorem chunk_run {fuel:Nat} {to frm:Int} {ow:Bool} {tag:Int} {k:Nat} {xs:List Int} (hk:0<k) (hk2:k≤64) (hl:xs.length≤512) (hf:600<fuel) :
    slices_Chunk_byte_byte_1_2 fuel (λ (s3:(List Packet_)) (x3:List Int)=>bindP (slices_Clone_byte_byte fuel x3) λ y4=>bindP (app 56 s3 ([(⟨to,frm,false,false,(Int.tmod (s3.length:Int) 4),ow,tag,y4⟩:Packet_)])) λ x4=>some (x4)) [] xs (k:Int)
      = some ((List.range (nsp k xs)).map (pkt0 to frm ow tag k xs)):=by
  unfold slices_Chunk_byte_byte_1_2
  have hle:=nsp_le hk xs
  refine loop_run (λ i=>(((i*k:Nat):Int),(List.range i).map (pkt0 to frm ow tag k xs))) (nsp k xs) (by simp) (by omega) (λ i hi kk=>?_) (λ kk=>?_)
  · have h1:=(nsp_lt hk).1 hi
    have h2:sub xs ((i*k:Nat):Int) ((xs.length:Nat):Int)=some (xs.drop (i*k)):=by rw [sub_ok (by omega) (by omega),List.take_of_length_le (by simp)]
    have hb:i*k≤512:=by omega
    generalize hp:i*k=p at *
    rw [show decide ((p:Int)<(xs.length:Int))=true by simp;omega,iteP_true]
    rw [h2,bindP_some,letP_eq]
    have hm:min (k:Int) ((xs.drop p).length:Int)=((min k (xs.length-p):Nat):Int):=by simp;omega
    simp only [hm]
    rw [wr (by omega)]
    have h3:sub xs (p:Int) ((p:Int)+((min k (xs.length-p):Nat):Int))=some (piece k xs i):=by
      have:=piece_sub (k:=k) (xs:=xs) (i:=i) (by omega)
      rw [hp] at this
      rw [← this];congr 1;omega
    rw [h3,bindP_some,clone_eq (by have:=piece_small (k:=k) (xs:=xs) (i:=i);omega),bindP_some,app_ok (by simp;omega),bindP_some,bindP_some,letP_eq,wr (by omega)]
    congr 1
    refine Prod.ext ?_ ?_
    · simp only [Nat.add_mul,Nat.one_mul,hp];omega
    · simp only [range_snoc,List.length_map,List.length_range,tm4,pkt0]
  · have h1:¬ nsp k xs*k<xs.length:=λ h=>by have:=(nsp_lt hk (xs:=xs) (i:=nsp k xs)).2 h;omega
    rw [show decide (((nsp k xs*k:Nat):Int)<(xs.length:Int))=false by simp;omega,iteP_false]
theorem marks {to frm:Int} {ow:Bool} {tag:Int} {k:Nat} {xs:List Int} (hk:0<k) (hx:0<xs.length) {x0 x1:Packet_} (h0:((List.range (nsp k xs)).map (pkt0 to frm ow tag k xs))[0]?=some x0)
    (h1:(((List.range (nsp k xs)).map (pkt0 to frm ow tag k xs)).set 0 { x0 with Start:=true })[nsp k xs-1]?=some x1):((((List.range (nsp k xs)).map (pkt0 to frm ow tag k xs)).set 0 { x0 with Start:=true }).set (nsp k xs-1) { x1 with End:=true })=pkts to frm ow tag k xs:=by
  have hp:=nsp_pos hk hx
  have e0:pkt0 to frm ow tag k xs 0=x0:=by simpa [List.getElem?_map,List.getElem?_range hp] using h0
  apply List.ext_getElem?
  intro j
  by_cases hj:j<nsp k xs
  · rw [List.getElem?_set]
    by_cases hl:nsp k xs-1=j
    · rw [if_pos hl,if_pos (by simp;omega)]
      rw [hl,List.getElem?_set] at h1
      simp only [pkts,List.getElem?_map,List.getElem?_range hj,Option.map_some]
      by_cases hz:0=j
      · rw [if_pos hz,if_pos (by simp;omega)] at h1
        simp only [Option.some.injEq] at h1
        rw [← h1,← e0,← hz]
        simp only [pkt0,pkt,Option.some.injEq,Packet_.mk.injEq,and_self,true_and,and_true,decide_true]
        simp;omega
      · rw [if_neg hz] at h1
        simp only [List.getElem?_map,List.getElem?_range hj,Option.map_some,Option.some.injEq] at h1
        rw [← h1]
        simp only [pkt0,pkt,Option.some.injEq,Packet_.mk.injEq,and_self,true_and,and_true]
        simp;omega
    · rw [if_neg hl,List.getElem?_set]
      simp only [pkts,List.getElem?_map,List.getElem?_range hj,Option.map_some]
      by_cases hz:0=j
      · rw [if_pos hz,if_pos (by simp;omega),← e0,← hz]
        simp only [pkt0,pkt,Option.some.injEq,Packet_.mk.injEq,and_self,true_and,and_true]
        simp;omega
      · rw [if_neg hz]
        simp only [pkt0,pkt,Option.some.injEq,Packet_.mk.injEq,and_self,true_and,and_true]
        simp;omega
  · rw [List.getElem?_eq_none (by simp;omega),List.getElem?_eq_none (by simp [pkts];omega)]
theorem Split_eq {fuel:Nat} (hf:600<fuel) (to frm:Int) (ow:Bool) (tag size:Int) (xs:List Int):fragment_Split fuel to frm ow tag size xs=some (splitR to frm ow tag size xs):=by
  unfold fragment_Split splitR
  rw [endpoint_eq,bindP_some,joinP]
  have tail:∀ (hb:¬ (tag<0∨8≤tag∨size<1∨64<size)),
      (letP ((xs.length:Int)==0) λ x1=>iteP x1 (some ([],1)) (letP (decide ((xs.length:Int)>512)) λ x2=>iteP x2 (some ([],3)) (
        bindP (slices_Chunk_byte_byte fuel xs size) λ y2 =>
        bindP (slices_Chunk_byte_byte_1_2 fuel (λ (s3:((List Packet_))) (x3:List Int)=>bindP (slices_Clone_byte_byte fuel x3) λ y4=>bindP (app 56 s3 ([(⟨to,frm,false,false,(Int.tmod (s3.length:Int) 4),ow,tag,y4⟩:Packet_)])) λ x4=>some (x4)) ([]) y2.1 y2.2) λ y3 =>
        bindP (idx y3 0) λ x5=>letP (upd y3 0 ({ x5 with Start:=true })) λ d1=>bindP (idx d1 (IntKind.i64.wrap ((y3.length:Int)-1))) λ x6 =>
        letP (upd d1 (IntKind.i64.wrap ((y3.length:Int)-1)) ({ x6 with End:=true })) λ d2=>some ((d2,0):List Packet_×Int))))
      = some (if xs.length=0 then ([],1) else if 512<xs.length then ([],3) else (pkts to frm ow tag size.toNat xs,0)):=by
    intro hb
    rw [letP_eq]
    by_cases h0:xs.length=0
    · simp [h0]
    rw [show ((xs.length:Int)==0)=false from beq_eq_false_iff_ne.2 (by omega),iteP_false,if_neg h0,letP_eq]
    by_cases h5:512<xs.length
    · rw [show decide ((xs.length:Int)>512)=true by simp;omega,iteP_true,if_pos h5]
    rw [show decide ((xs.length:Int)>512)=false by simp;omega,iteP_false,if_neg h5]
    obtain ⟨k,hk⟩:∃ k:Nat,size=k:=⟨size.toNat,by omega⟩
    subst hk
    unfold slices_Chunk_byte_byte
    rw [show decide ((k:Int)<1)=false by simp;omega,iteP_false,bindP_some]
    dsimp only
    have hkp:0<k:=by omega
    have hp:=nsp_pos hkp (xs:=xs) (by omega)
    have hle:=nsp_le hkp xs
    rw [chunk_run hkp (by omega) (by omega) hf,bindP_some]
    obtain ⟨x0,hx0⟩:∃ x0,((List.range (nsp k xs)).map (pkt0 to frm ow tag k xs))[0]?=some x0:=⟨_,List.getElem?_eq_getElem (by simp;omega)⟩
    have i0:idx ((List.range (nsp k xs)).map (pkt0 to frm ow tag k xs)) 0=some x0:=(idx_nat _ 0).trans hx0
    rw [i0,bindP_some,letP_eq]
    have hw:IntKind.i64.wrap ((((List.range (nsp k xs)).map (pkt0 to frm ow tag k xs)).length:Int)-1)=((nsp k xs-1:Nat):Int):=by
      rw [wr (by simp;omega)];simp;omega
    simp only [hw]
    obtain ⟨x1,hx1⟩:∃ x1,(((List.range (nsp k xs)).map (pkt0 to frm ow tag k xs)).set 0 { x0 with Start:=true })[nsp k xs-1]?=some x1:=⟨_,List.getElem?_eq_getElem (by simp;omega)⟩
    have hu:upd ((List.range (nsp k xs)).map (pkt0 to frm ow tag k xs)) 0 { x0 with Start:=true }=((List.range (nsp k xs)).map (pkt0 to frm ow tag k xs)).set 0 { x0 with Start:=true }:=rfl
    rw [hu,idx_nat,hx1,bindP_some,letP_eq]
    have hm:=marks hkp (by omega) hx0 hx1
    have hu2:∀ z:Packet_,upd (((List.range (nsp k xs)).map (pkt0 to frm ow tag k xs)).set 0 { x0 with Start:=true }) ((nsp k xs-1:Nat):Int) z=(((List.range (nsp k xs)).map (pkt0 to frm ow tag k xs)).set 0 { x0 with Start:=true }).set (nsp k xs-1) z:=λ z=>by simp [upd]
    rw [hu2,hm];simp
  cases e1:endp to with
  | false=>simp
  | true =>
    simp only [Bool.not_true,iteP_false]
    rw [endpoint_eq,bindP_some,letP_eq]
    cases e2:endp frm with
    | false=>simp
    | true =>
      simp only [Bool.not_true,iteP_false,Bool.true_eq_false,false_or,if_false,joinP]
      by_cases h1:tag<0
      · simp [h1]
      rw [show decide (tag<0)=false by simpa using h1,iteP_false]
      by_cases h2:8≤tag
      · simp [h2]
      rw [show decide (tag≥8)=false by simpa using h2,iteP_false]
      by_cases h3:size<1
      · simp [h3]
      rw [show decide (size<1)=false by simpa using h3,iteP_false,letP_eq]
      by_cases h4:64<size
      · simp [h4]
      rw [show decide (size>64)=false by simpa using h4,iteP_false,if_neg (by omega)]
      exact tail (by omega)
instance:DecidableEq Packet_:=λ a b=>by
  rcases a with ⟨a1,a2,a3,a4,a5,a6,a7,a8⟩
  rcases b with ⟨b1,b2,b3,b4,b5,b6,b7,b8⟩
  rw [Packet_.mk.injEq];infer_instance
def vnum (p:Packet_):Bool:=decide (0≤p.Sequence∧p.Sequence<4∧0≤p.Tag∧p.Tag<8∧1≤p.Data.length∧p.Data.length≤64)
def validB (p:Packet_):Bool:=endp p.To&&(endp p.From&&vnum p)
theorem Valid_eq_fragb (fuel:Nat) (p:Packet_):fragment_Valid fuel p=some (validB p):=by
  unfold fragment_Valid validB vnum
  rw [endpoint_eq,bindP_some]
  cases endp p.To with
  | false=>simp
  | true =>
    rw [iteP_true,endpoint_eq,bindP_some]
    cases endp p.From with
    | false=>simp
    | true =>
      rw [iteP_true]
      have e5:decide ((p.Data.length:Int)≥1)=decide (1≤p.Data.length):=decide_eq_decide.2 (by omega)
      have e6:decide ((p.Data.length:Int)≤64)=decide (p.Data.length≤64):=decide_eq_decide.2 (by omega)
      rw [e5,e6]
      generalize p.Data.length=n
      by_cases h1:0≤p.Sequence<;>by_cases h2:p.Sequence<4<;>by_cases h3:0≤p.Tag<;>by_cases h4:p.Tag<8<;>by_cases h5:1≤n<;>by_cases h6:n≤64<;>simp [h1,h2,h3,h4,h5,h6]
theorem validB_num {p:Packet_} (h:validB p=true):0≤p.Sequence∧p.Sequence<4∧0≤p.Tag∧p.Tag<8∧1≤p.Data.length∧p.Data.length≤64:=by
  simp only [validB,vnum,Bool.and_eq_true,decide_eq_true_eq] at h
  exact h.2.2
theorem endp_rg {n:Int} (h:endp n=true):8≤n∧n≤254:=by simpa [endp] using h
def fl1 (b:Bool) (m:Int):Int:=if b then m else 0
def flags (s e o:Bool) (q t:Int):Int:=fl1 s 128+fl1 e 64+16*q+fl1 o 8+t
def orB (b:Bool) (x m:Int):Int:=if b then bOr .u8 x m else x
theorem flags_or:∀ (q:Fin 4) (t:Fin 8) (s e o:Bool),orB o (orB e (orB s (IntKind.u8.wrap (IntKind.i64.wrap ((IntKind.i64.wrap (16*((q.val:Nat):Int)))+((t.val:Nat):Int)))) 128) 64) 8=flags s e o ((q.val:Nat):Int) ((t.val:Nat):Int):=by decide +kernel
theorem flags_dec:∀ (q:Fin 4) (t:Fin 8) (s e o:Bool),let x:=flags s e o ((q.val:Nat):Int) ((t.val:Nat):Int);
    0≤x∧x≤255∧(x / 128==1)=s∧(x / 64 % 2==1)=e∧x / 16 % 4=((q.val:Nat):Int)∧(x / 8 % 2==1)=o∧x % 8=((t.val:Nat):Int):=by decide +kernel
theorem dec_and:∀ (x:Fin 256),let v:Int:=((x.val:Nat):Int);
    ((bAnd .u8 v 128) != 0)=(v / 128==1)∧((bAnd .u8 v 64) != 0)=(v / 64 % 2==1)∧IntKind.i64.wrap (Int.tmod (IntKind.u8.wrap (Int.tdiv v 16)) 4)=v / 16 % 4∧((bAnd .u8 v 8) != 0)=(v / 8 % 2==1)∧IntKind.i64.wrap (Int.tmod v 8)=v % 8:=by decide +kernel
def encR (p:Packet_):List Int×Int:=if validB p=true then ([1,p.To,p.From,flags p.Start p.End p.Owner p.Sequence p.Tag]++p.Data,0) else ([],1)
theorem Encode_eq_fragb {fuel:Nat} (hf:10<fuel) (p:Packet_):fragment_Encode fuel p=some (encR p):=by
  unfold fragment_Encode encR
  rw [Valid_eq_fragb,bindP_some]
  cases hv:validB p with
  | false=>simp
  | true =>
    obtain ⟨h1,h2,h3,h4,h5,h6⟩:=validB_num hv
    simp only [Bool.not_true,iteP_false,letP_eq,if_true]
    obtain ⟨q,hq⟩:∃ q:Fin 4,p.Sequence=((q.val:Nat):Int):=⟨⟨p.Sequence.toNat,by omega⟩,by simp;omega⟩
    obtain ⟨t,ht⟩:∃ t:Fin 8,p.Tag=((t.val:Nat):Int):=⟨⟨p.Tag.toNat,by omega⟩,by simp;omega⟩
    have hfl:=flags_or q t p.Start p.End p.Owner
    rw [← hq,← ht] at hfl
    obtain ⟨f,rfl⟩:∃ f,fuel=f+1+1+1+1:=⟨fuel-4,by omega⟩
    have w0:IntKind.i64.wrap (0+1)=1:=by decide
    have w1:IntKind.i64.wrap (1+1)=2:=by decide
    have w2:IntKind.i64.wrap (2+1)=3:=by decide
    have i0:∀ (a b c:Anon_af38c4),idx [a,b,c] 0=some a:=λ _ _ _=>rfl
    have i1:∀ (a b c:Anon_af38c4),idx [a,b,c] 1=some b:=λ _ _ _=>rfl
    have i2:∀ (a b c:Anon_af38c4),idx [a,b,c] 2=some c:=λ _ _ _=>rfl
    have d0:decide ((0:Int)<(([(⟨p.Start,128⟩:Anon_af38c4),(⟨p.End,64⟩:Anon_af38c4),(⟨p.Owner,8⟩:Anon_af38c4)]).length:Int))=true:=by simp
    have d1:decide ((1:Int)<(([(⟨p.Start,128⟩:Anon_af38c4),(⟨p.End,64⟩:Anon_af38c4),(⟨p.Owner,8⟩:Anon_af38c4)]).length:Int))=true:=by simp
    have d2:decide ((2:Int)<(([(⟨p.Start,128⟩:Anon_af38c4),(⟨p.End,64⟩:Anon_af38c4),(⟨p.Owner,8⟩:Anon_af38c4)]).length:Int))=true:=by simp
    have d3:decide ((3:Int)<(([(⟨p.Start,128⟩:Anon_af38c4),(⟨p.End,64⟩:Anon_af38c4),(⟨p.Owner,8⟩:Anon_af38c4)]).length:Int))=false:=by simp
    have key:∀ (b:Bool) (x m:Int) (k:Int→Option (List Int×Int)),iteP b (k (bOr .u8 x m)) (k x)=k (orB b x m):=by intro b x m k;cases b<;>rfl
    simp only [loopP,d0,d1,d2,d3,iteP_true,iteP_false,i0,i1,i2,bindP_some,w0,w1,w2]
    have fin:∀ y:Int,(bindP (app 1 [1,p.To,p.From,y] p.Data) λ x3=>some ((x3,0):List Int×Int))=some ([1,p.To,p.From,y]++p.Data,0):=λ y=>by rw [app_ok (by simp;omega),bindP_some]
    simp only [fin]
    rw [← hfl]
    cases p.Start<;>cases p.End<;>cases p.Owner<;>rfl
def decR (b:List Int):Packet_×Int:=match b with
  | x0::x1::x2::x3::y::r=>if x0≠1 then (Packet_.z,6) else if endp x1=false∨endp x2=false then (Packet_.z,13) else if 64<(y::r).length then (Packet_.z,3) else
      (⟨x1,x2,x3 / 128==1,x3 / 64 % 2==1,x3 / 16 % 4,x3 / 8 % 2==1,x3 % 8,y::r⟩,0)
  | _=>(Packet_.z,4)
theorem Decode_eq_fragb {fuel:Nat} (hf:600<fuel) {b:List Int} (hl:b.length≤500) (hb:∀ x∈b,byte x):fragment_Decode fuel b=some (decR b):=by
  unfold fragment_Decode
  rw [letP_eq]
  match b,hl,hb with
  | [],_,_=>rfl
  | [_],_,_=>rfl
  | [_,_],_,_=>rfl
  | [_,_,_],_,_=>rfl
  | [_,_,_,_],_,_=>rfl
  | x0::x1::x2::x3::y::r,hl,hb =>
    have e0:idx (x0::x1::x2::x3::y::r) 0=some x0:=rfl
    have e1:idx (x0::x1::x2::x3::y::r) 1=some x1:=rfl
    have e2:idx (x0::x1::x2::x3::y::r) 2=some x2:=rfl
    have e3:idx (x0::x1::x2::x3::y::r) 3=some x3:=rfl
    have e4:sub (x0::x1::x2::x3::y::r) 4 (((x0::x1::x2::x3::y::r).length:Nat):Int)=some (y::r):=sub_drop (by omega) (by simp;omega)
    rw [show decide (((x0::x1::x2::x3::y::r).length:Int)≤4)=false by simp;omega,iteP_false,e0,bindP_some,letP_eq]
    simp only [decR]
    by_cases h0:x0=1
    · rw [show (x0 != 1)=false by simp [h0],iteP_false,if_neg (by simp [h0]),e1,bindP_some,endpoint_eq,bindP_some,joinP]
      cases p1:endp x1 with
      | false=>simp
      | true =>
        simp only [Bool.not_true,iteP_false]
        rw [e2,bindP_some,endpoint_eq,bindP_some,letP_eq]
        cases p2:endp x2 with
        | false=>simp
        | true =>
          simp only [Bool.not_true,iteP_false,Bool.true_eq_false,or_self,if_false]
          rw [wr (by simp at hl ⊢;omega),letP_eq]
          by_cases h6:64<(y::r).length
          · rw [show decide (((x0::x1::x2::x3::y::r).length:Int)-4>64)=true by simp at h6 ⊢;omega,iteP_true,if_pos h6]
          · rw [show decide (((x0::x1::x2::x3::y::r).length:Int)-4>64)=false by simp at h6 ⊢;omega,iteP_false,if_neg h6,e3,bindP_some,bindP_some,bindP_some,e4,bindP_some,clone_eq (by simp at hl ⊢;omega),bindP_some]
            have hx3:=hb x3 (by simp)
            obtain ⟨v,hv⟩:∃ v:Fin 256,x3=((v.val:Nat):Int):=⟨⟨x3.toNat,by have:=hx3.1;have:=hx3.2;omega⟩,by have:=hx3.1;simp;omega⟩
            obtain ⟨q1,q2,q3,q4,q5⟩:=dec_and v
            rw [hv]
            simp only [q1,q2,q3,q4,q5]
    · rw [show (x0 != 1)=true by simpa using h0,iteP_true,if_pos h0]
theorem dec_enc {p:Packet_} (h:validB p=true):decR (encR p).1=(p,0):=by
  obtain ⟨h1,h2,h3,h4,h5,h6⟩:=validB_num h
  have hv:=h
  simp only [validB,Bool.and_eq_true] at hv
  obtain ⟨v1,v2,_⟩:=hv
  simp only [encR,h,if_true]
  obtain ⟨q,hq⟩:∃ q:Fin 4,p.Sequence=((q.val:Nat):Int):=⟨⟨p.Sequence.toNat,by omega⟩,by simp;omega⟩
  obtain ⟨t,ht⟩:∃ t:Fin 8,p.Tag=((t.val:Nat):Int):=⟨⟨p.Tag.toNat,by omega⟩,by simp;omega⟩
  obtain ⟨_,_,d1,d2,d3,d4,d5⟩:=flags_dec q t p.Start p.End p.Owner
  rw [← hq,← ht] at d1 d2 d3 d4 d5
  rcases p with ⟨a1,a2,a3,a4,a5,a6,a7,a8⟩
  simp only at *
  cases a8 with
  | nil=>simp at h5
  | cons y r=>simp only [List.cons_append,List.nil_append,decR,v1,v2,d1,d2,d3,d4,d5];simp at h6 ⊢;omega
theorem encR_byte {p:Packet_} (h:validB p=true) (hd:∀ x∈p.Data,byte x):∀ x∈(encR p).1,byte x:=by
  obtain ⟨h1,h2,h3,h4,h5,h6⟩:=validB_num h
  have hv:=h
  simp only [validB,Bool.and_eq_true] at hv
  obtain ⟨v1,v2,_⟩:=hv
  have r1:=endp_rg v1
  have r2:=endp_rg v2
  obtain ⟨q,hq⟩:∃ q:Fin 4,p.Sequence=((q.val:Nat):Int):=⟨⟨p.Sequence.toNat,by omega⟩,by simp;omega⟩
  obtain ⟨t,ht⟩:∃ t:Fin 8,p.Tag=((t.val:Nat):Int):=⟨⟨p.Tag.toNat,by omega⟩,by simp;omega⟩
  obtain ⟨f1,f2,_⟩:=flags_dec q t p.Start p.End p.Owner
  rw [← hq,← ht] at f1 f2
  simp only [encR,h,if_true]
  intro x hx
  simp only [List.cons_append,List.nil_append,List.mem_cons] at hx
  rcases hx with rfl | rfl | rfl | rfl | hx
  · exact ⟨by decide,by decide⟩
  · exact ⟨by omega,by omega⟩
  · exact ⟨by omega,by omega⟩
  · exact ⟨f1,f2⟩
  · exact hd x hx
def fidx {α:Type} (p:α→Bool):List α→Int→Int
  | [],_=>-1
  | x::l,i=>if p x then i else fidx p l (i+1)
theorem fidx_cases {α:Type} (p:α→Bool):∀ (l:List α) (b:Nat),(fidx p l b=-1∧∀ x∈l,p x=false)∨∃ i x,fidx p l b=((b+i:Nat):Int)∧l[i]?=some x∧p x=true
  | [],b=>.inl ⟨rfl,λ _ h=>(by cases h)⟩
  | x::l,b=>by
    unfold fidx
    by_cases hp:p x=true
    · exact .inr ⟨0,x,by simp [hp],rfl,hp⟩
    · have hp':p x=false:=by simpa using hp
      rw [if_neg hp]
      have e:((b:Int)+1)=((b+1:Nat):Int):=by omega
      rw [e]
      rcases fidx_cases p l (b+1) with ⟨h1,h2⟩ | ⟨i,y,h1,h2,h3⟩
      · refine .inl ⟨h1,λ y hy=>?_⟩
        rcases List.mem_cons.1 hy with rfl | hy
        · exact hp'
        · exact h2 y hy
      · exact .inr ⟨i+1,y,by rw [h1];omega,by simpa using h2,h3⟩
theorem find_loop {α:Type} {l:List α} {p:α→Bool} {step:(Int→Option Int)→Int→Option Int} (hs:∀ (i:Nat) x,l[i]?=some x→∀ k,step k (i:Int)=if p x then some (i:Int) else k ((i:Int)+1)) (he:∀ k,step k (l.length:Int)=some (-1)) :
    ∀ (fuel i:Nat),i≤l.length→l.length-i<fuel→loopP step fuel (i:Int)=some (fidx p (l.drop i) i)
  | 0,i,_,hf=>by omega
  | f+1,i,hi,hf=>by
    show step (loopP step f) (i:Int)=_
    by_cases hl:i<l.length
    · have hx:l[i]?=some l[i]:=by simp [hl]
      rw [hs i _ hx,List.drop_eq_getElem_cons hl]
      simp only [fidx]
      by_cases hp:p l[i]=true
      · rw [if_pos hp,if_pos hp]
      · rw [if_neg hp,if_neg hp]
        have:=find_loop hs he f (i+1) (by omega) (by omega)
        simpa using this
    · have:i=l.length:=by omega
      subst this
      rw [he,List.drop_length];rfl
def fkey (p:Packet_) (o:fragment_open):Bool:=o.whole.From==p.From&&(o.whole.Owner==p.Owner&&o.whole.Tag==p.Tag)
def ffind (l:List fragment_open) (p:Packet_):Int:=fidx (fkey p) l 0
theorem ffind_cases (l:List fragment_open) (p:Packet_):(ffind l p=-1∧∀ x∈l,fkey p x=false)∨∃ (i:Nat) (x:fragment_open),ffind l p=(i:Int)∧l[i]?=some x∧fkey p x=true:=by
  rcases fidx_cases (fkey p) l 0 with ⟨h1,h2⟩ | ⟨i,x,h1,h2,h3⟩
  · exact .inl ⟨h1,h2⟩
  · exact .inr ⟨i,x,by simpa [ffind] using h1,h2,h3⟩
def fdel {α:Type} (l:List α) (i:Nat):List α:=l.take i++l.drop (i+1)
theorem fdel_len {α:Type} {l:List α} {i:Nat} (h:i<l.length):(fdel l i).length=l.length-1:=by simp [fdel];omega
theorem fdel_le {α:Type} {l:List α} {i:Nat}:(fdel l i).length≤l.length:=by simp [fdel];omega
theorem fdel_set {α:Type} {l:List α} {i:Nat} {x:α}:fdel (l.set i x) i=fdel l i:=by
  simp only [fdel,List.take_set_of_le (Nat.le_refl i),List.drop_set_of_lt (Nat.lt_succ_self i)]
theorem fdel_mem {α:Type} {l:List α} {i:Nat} {x:α} (h:x∈fdel l i):x∈l:=by
  rcases List.mem_append.1 h with h | h
  · exact List.mem_of_mem_take h
  · exact List.mem_of_mem_drop h
theorem fdel_map {α β:Type} (f:α→β) (l:List α) (i:Nat):fdel (l.map f) i=(fdel l i).map f:=by simp [fdel,List.map_take,List.map_drop]
structure AR (a:fragment_Assembler):Prop where
  le:a.open_.length≤8
  el:∀ o∈a.open_,o.whole.Data.length≤512∧0≤o.last∧o.last<4∧0≤o.size∧o.size≤64
theorem find12_eq (fuel:Nat) (o:fragment_open) (p:Packet_):fragment_Assembler_find_1_2 fuel o p=some (fkey p o):=by
  unfold fragment_Assembler_find_1_2 fkey
  cases (o.whole.From==p.From)<;>cases (o.whole.Owner==p.Owner)<;>rfl
theorem ffind_eq {fuel:Nat} {a:fragment_Assembler} {p:Packet_} (hl:a.open_.length≤64) (hf:100<fuel):fragment_Assembler_find fuel a p=some (ffind a.open_ p):=by
  unfold fragment_Assembler_find slices_IndexFunc_fragment_open_fragment_open_fragment_Assembler_find_1
  have:=find_loop (l:=a.open_) (p:=fkey p) (step:=λ k1 (s1:Int)=>iteP (decide (s1<(a.open_.length:Int))) (bindP (idx a.open_ s1) λ x1=>bindP (fragment_Assembler_find_1_2 fuel x1 p) λ y1=>iteP y1 (some s1) (k1 ((IntKind.i64.wrap (s1+1))))) (some (-1)))
    (λ i x hx k=>by
      have hi:=lt_len hx
      simp only [show ((i:Int)<(a.open_.length:Int)) by omega,decide_true,iteP_true,idx_nat,hx,bindP_some,find12_eq,wi i (by omega),iteP_eq,if_true]) (λ k=>by simp) fuel 0 (by omega) (by omega)
  exact congrArg (λ z=>bindP z λ y1=>some y1) this
theorem fdrop_eq {fuel:Nat} {a:fragment_Assembler} {i:Nat} (hi:i<a.open_.length) (hl:a.open_.length≤64):fragment_Assembler_drop fuel a (i:Int)=some { a with open_:=fdel a.open_ i }:=by
  unfold fragment_Assembler_drop slices_Delete_fragment_open_fragment_open
  rw [wi i (by omega)]
  have e:((i:Int)+1)=((i+1:Nat):Int):=by omega
  have hlen:(a.open_.take i++a.open_.drop (i+1)).length=a.open_.length-1:=by simp;omega
  simp only [e,Int.toNat_natCast,hlen]
  rw [decide_eq_true (by omega),chk_true,bindP_some,show ((i:Int)==((i+1:Nat):Int))=false by simp;omega,iteP_false,decide_eq_true (by omega),chk_true,bindP_some,decide_eq_true (by omega),chk_true,bindP_some,
    decide_eq_true (by omega),chk_true,bindP_some,decide_eq_true (by omega),chk_true,bindP_some,decide_eq_true (by omega),chk_true,bindP_some,decide_eq_true (by omega),chk_true,bindP_some,bindP_some]
  rfl
def bad (o:fragment_open) (p:Packet_):Bool:=(p.Sequence != (o.last+1) % 4)||(decide (o.size<(p.Data.length:Int))||(decide ((p.Data.length:Int)<o.size)&&!p.End))
def wof (p:Packet_):Whole_:=⟨p.From,p.Owner,p.Tag,p.Data⟩
def oof (p:Packet_):fragment_open:=⟨wof p,(p.Data.length:Int),p.Sequence⟩
def dropped (l:List fragment_open) (p:Packet_):List fragment_open:=if ffind l p<0 then l else fdel l (ffind l p).toNat
def room (l:List fragment_open):List fragment_open:=if l.length=8 then fdel l 0 else l
def grown (o:fragment_open) (p:Packet_):fragment_open:={ o with whole:={ o.whole with Data:=o.whole.Data++p.Data },last:=p.Sequence }
def acc (a:fragment_Assembler) (p:Packet_):Whole_×Bool×Int×fragment_Assembler :=
  if validB p=false then (Whole_.z,false,1,a) else if p.To≠a.own then (Whole_.z,false,13,a)
  else if p.Start=true then (if p.End=true then (wof p,true,0,{ a with open_:=dropped a.open_ p }) else (Whole_.z,false,0,{ a with open_:=room (dropped a.open_ p)++[oof p] }))
  else if ffind a.open_ p<0 then (Whole_.z,false,8,a)
  else (λ (i:Nat) (o:fragment_open)=>if bad o p=true then (Whole_.z,false,15,{ a with open_:=fdel a.open_ i }) else if 512<o.whole.Data.length+p.Data.length then (Whole_.z,false,3,{ a with open_:=fdel a.open_ i })
    else if p.End=true then ((grown o p).whole,true,0,{ a with open_:=fdel a.open_ i }) else (Whole_.z,false,0,{ a with open_:=a.open_.set i (grown o p) })) (ffind a.open_ p).toNat (a.open_.getD (ffind a.open_ p).toNat fragment_open.z)
theorem dropped_le {l:List fragment_open} {p:Packet_}:(dropped l p).length≤l.length:=by unfold dropped;split;exact Nat.le_refl _;exact fdel_le
theorem dropped_mem {l:List fragment_open} {p:Packet_} {o:fragment_open} (h:o∈dropped l p):o∈l:=by
  unfold dropped at h;split at h
  · exact h
  · exact fdel_mem h
theorem room_mem {l:List fragment_open} {o:fragment_open} (h:o∈room l):o∈l:=by
  unfold room at h;split at h
  · exact fdel_mem h
  · exact h
theorem begin_eq {fuel:Nat} (hf:600<fuel) {a:fragment_Assembler} (h:AR a) {p:Packet_} (hp:p.Data.length≤64) :
    fragment_Assembler_begin fuel a p=some (if p.End=true then (wof p,true,{ a with open_:=dropped a.open_ p }) else (Whole_.z,false,{ a with open_:=room (dropped a.open_ p)++[oof p] })):=by
  have hle:=h.le
  unfold fragment_Assembler_begin
  rw [ffind_eq (by omega) (by omega),bindP_some,joinP]
  have tail:∀ l:List fragment_open,l.length≤8→(bindP (slices_Clone_byte_byte fuel p.Data) λ y2=>letP ({ (⟨p.From,p.Owner,p.Tag,[]⟩:Whole_) with Data:=y2 }) λ d1 =>
      iteP p.End (some (({ d1 with Data:=({ (⟨p.From,p.Owner,p.Tag,[]⟩:Whole_) with Data:=y2 }).Data },true,{ a with open_:=l }):Whole_×Bool×fragment_Assembler)) (
      joinP (λ (s2:fragment_Assembler)=>bindP (app 56 s2.open_ ([{ (⟨d1,(p.Data.length:Int),p.Sequence⟩:fragment_open) with whole:={ (⟨d1,(p.Data.length:Int),p.Sequence⟩:fragment_open).whole with Data:=({ (⟨p.From,p.Owner,p.Tag,[]⟩:Whole_) with Data:=y2 }).Data } }])) λ x1 =>
        some (Whole_.z,false,{ s2 with open_:=x1 })) λ j2 =>
      iteP ((({ a with open_:=l }:fragment_Assembler).open_.length:Int)==8) (bindP (fragment_Assembler_drop fuel { a with open_:=l } 0) λ y3=>j2 (y3)) (j2 { a with open_:=l })))
      = some (if p.End=true then (wof p,true,{ a with open_:=l }) else (Whole_.z,false,{ a with open_:=room l++[oof p] })):=by
    intro l hl
    rw [clone_eq (by omega),bindP_some,letP_eq]
    cases hE:p.End with
    | true=>rfl
    | false =>
      rw [iteP_false,joinP]
      simp only [Bool.false_eq_true,if_false]
      by_cases h8:l.length=8
      · have hd:=fdrop_eq (fuel:=fuel) (a:={ a with open_:=l }) (i:=0) (by simp only;omega) (by simp only;omega)
        rw [show ((l.length:Int)==8)=true by simp;omega,iteP_true]
        have hd':fragment_Assembler_drop fuel { a with open_:=l } 0=some { a with open_:=fdel l 0 }:=hd
        rw [hd',bindP_some,app_ok (by have:=fdel_le (l:=l) (i:=0);simp only [List.length_cons,List.length_nil];omega),bindP_some]
        simp only [room,if_pos h8];rfl
      · rw [show ((l.length:Int)==8)=false from beq_eq_false_iff_ne.2 (by omega),iteP_false,app_ok (by simp only [List.length_cons,List.length_nil];omega),bindP_some]
        simp only [room,if_neg h8];rfl
  rcases ffind_cases a.open_ p with ⟨h1,_⟩ | ⟨i,o,h1,h2,h3⟩
  · have hd:dropped a.open_ p=a.open_:=by simp [dropped,h1]
    rw [h1,show decide ((-1:Int)≥0)=false from rfl,iteP_false,hd]
    exact tail a.open_ hle
  · have hi:=lt_len h2
    have hd:dropped a.open_ p=fdel a.open_ i:=by simp only [dropped,h1,Int.toNat_natCast];rw [if_neg (by omega)]
    rw [h1,show decide ((i:Int)≥0)=true by simp,iteP_true,fdrop_eq hi (by omega),bindP_some,hd]
    exact tail _ (by have:=fdel_le (l:=a.open_) (i:=i);omega)
theorem tmod4 {x:Int} (h:0≤x∧x<4):Int.tmod (IntKind.i64.wrap (x+1)) 4=(x+1) % 4:=by
  rw [wr (by omega),Int.tmod_eq_emod_of_nonneg (by omega)]
theorem Accept_eq {fuel:Nat} (hf:600<fuel) {a:fragment_Assembler} (h:AR a) (p:Packet_):fragment_Assembler_Accept fuel a p=some (acc a p):=by
  have hle:=h.le
  unfold fragment_Assembler_Accept acc
  rw [Valid_eq_fragb,bindP_some,letP_eq]
  cases hv:validB p with
  | false=>simp
  | true =>
    obtain ⟨v1,v2,v3,v4,v5,v6⟩:=validB_num hv
    simp only [Bool.not_true,iteP_false,Bool.true_eq_false,if_false]
    by_cases hto:p.To=a.own
    · rw [show (p.To != a.own)=false by simp [hto],letP_eq,iteP_false,if_neg (by simp [hto])]
      cases hS:p.Start with
      | true =>
        rw [iteP_true,begin_eq hf h (by omega),bindP_some,if_pos rfl]
        cases p.End<;>rfl
      | false =>
        rw [iteP_false,if_neg (by simp),ffind_eq (by omega) (by omega),bindP_some]
        rcases ffind_cases a.open_ p with ⟨h1,_⟩ | ⟨i,o,h1,h2,h3⟩
        · rw [h1];rfl
        · have hi:=lt_len h2
          obtain ⟨o1,o2,o3,o4,o5⟩:=h.el o (List.mem_of_getElem? h2)
          have hget:a.open_.getD i fragment_open.z=o:=by rw [List.getD_eq_getElem?_getD,h2];rfl
          rw [h1,show decide ((i:Int)<0)=false by simp,iteP_false,idx_nat,h2,bindP_some,if_neg (by omega)]
          simp only [Int.toNat_natCast,hget]
          have hj:∀ j:Bool→Option (Whole_×Bool×Int×fragment_Assembler),joinP j (λ j=>letP (p.Sequence != (Int.tmod (IntKind.i64.wrap (o.last+1)) 4)) λ x7=>iteP x7 (j (true)) (letP (decide ((p.Data.length:Int)>o.size)) λ x8=>iteP x8 (j (true)) (
              iteP (decide ((p.Data.length:Int)<o.size)) (letP (!p.End) λ x10=>j (x10)) (j (false)))))=j (bad o p):=by
            intro j
            rw [joinP]
            simp only [letP_eq,tmod4 ⟨o2,o3⟩,bad]
            cases (p.Sequence != (o.last+1) % 4)<;>simp only [iteP_true,iteP_false,Bool.true_or,Bool.false_or]
            rw [show decide ((p.Data.length:Int)>o.size)=decide (o.size<(p.Data.length:Int)) from rfl]
            cases decide (o.size<(p.Data.length:Int))<;>simp only [iteP_true,iteP_false,Bool.true_or,Bool.false_or]
            cases decide ((p.Data.length:Int)<o.size)<;>simp only [iteP_true,iteP_false,Bool.true_and,Bool.false_and]
          rw [hj]
          cases hb:bad o p with
          | true=>rw [iteP_true,fdrop_eq hi (by omega),bindP_some];rfl
          | false =>
            rw [iteP_false,wr (by omega),letP_eq,if_neg (by simp)]
            by_cases h5:512<o.whole.Data.length+p.Data.length
            · rw [show decide ((o.whole.Data.length:Int)+(p.Data.length:Int)>512)=true by simp;omega,iteP_true,fdrop_eq hi (by omega),bindP_some,if_pos h5]
            · rw [show decide ((o.whole.Data.length:Int)+(p.Data.length:Int)>512)=false by simp;omega,iteP_false,app_ok (by omega),bindP_some,letP_eq,if_neg h5]
              have hu:∀ (l:List fragment_open) (x:fragment_open),upd l (i:Int) x=l.set i x:=λ l x=>by simp [upd]
              simp only [hu,idx_nat]
              have hs1:∀ x:fragment_open,(a.open_.set i x)[i]?=some x:=λ x=>by simp [hi]
              rw [hs1,bindP_some,letP_eq,List.set_set]
              cases hE:p.End with
              | false=>simp only [Bool.not_false,iteP_true];rfl
              | true =>
                simp only [Bool.not_true,iteP_false]
                rw [hs1,bindP_some]
                have hd:=fdrop_eq (fuel:=fuel) (a:={ a with open_:=a.open_.set i (grown o p) }) (i:=i) (by simpa using hi) (by simp only [List.length_set];omega)
                rw [fdel_set] at hd
                have hd2:=congrArg (λ z=>bindP z λ y6=>some (({ (grown o p).whole with Data:=(grown o p).whole.Data },true,0,y6):Whole_×Bool×Int×fragment_Assembler)) hd
                exact hd2
    · rw [show (p.To != a.own)=true by simpa using hto,letP_eq,iteP_true,if_pos hto]
theorem AR.acc {a:fragment_Assembler} (h:AR a) (p:Packet_):AR (acc a p).2.2.2∧(acc a p).2.2.2.own=a.own:=by
  have hle:=h.le
  unfold Lift.acc
  split
  · exact ⟨h,rfl⟩
  rename_i hv
  obtain ⟨v1,v2,v3,v4,v5,v6⟩:=validB_num (by simpa using hv)
  split
  · exact ⟨h,rfl⟩
  split
  · split
    · exact ⟨⟨Nat.le_trans dropped_le hle,λ o ho=>h.el o (dropped_mem ho)⟩,rfl⟩
    · refine ⟨⟨?_,λ o ho=>?_⟩,rfl⟩
      · have:=dropped_le (l:=a.open_) (p:=p)
        simp only [room]
        split
        · rename_i h8
          rw [List.length_append,fdel_len (by omega)];simp;omega
        · simp;omega
      · rcases List.mem_append.1 ho with ho | ho
        · exact h.el o (dropped_mem (room_mem ho))
        · simp at ho;subst ho
          exact ⟨by simp only [oof,wof];omega,by simp only [oof];omega,by simp only [oof];omega,by simp only [oof];omega,by simp only [oof];omega⟩
  split
  · exact ⟨h,rfl⟩
  rename_i hf
  rcases ffind_cases a.open_ p with ⟨h1,_⟩ | ⟨i,o,h1,h2,h3⟩
  · rw [h1] at hf;exact absurd (by decide) hf
  obtain ⟨o1,o2,o3,o4,o5⟩:=h.el o (List.mem_of_getElem? h2)
  have hget:a.open_.getD i fragment_open.z=o:=by rw [List.getD_eq_getElem?_getD,h2];rfl
  simp only [h1,Int.toNat_natCast,hget]
  have hdel:AR { a with open_:=fdel a.open_ i }:=⟨Nat.le_trans fdel_le hle,λ o ho=>h.el o (fdel_mem ho)⟩
  split
  · exact ⟨hdel,rfl⟩
  split
  · exact ⟨hdel,rfl⟩
  split
  · exact ⟨hdel,rfl⟩
  · refine ⟨⟨by simpa using hle,λ x hx=>?_⟩,rfl⟩
    rcases List.mem_or_eq_of_mem_set hx with hx | rfl
    · exact h.el x hx
    · rename_i hn _
      exact ⟨by simp only [grown,List.length_append];omega,v1,v2,o4,o5⟩
theorem FNew_eq (fuel:Nat) (n:Int):fragment_New fuel n=some (if endp n=false then (none,13) else (some ⟨n,[]⟩,0)):=by
  unfold fragment_New
  rw [endpoint_eq,bindP_some]
  cases endp n<;>rfl
theorem new_AR (n:Int):AR ⟨n,[]⟩:=⟨by simp,λ o ho=>(by cases ho)⟩
end Lift
