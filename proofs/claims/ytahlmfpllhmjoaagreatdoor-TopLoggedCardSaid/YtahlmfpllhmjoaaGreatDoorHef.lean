import Derived.Test.YtahlmfpllhmjoaaGreatDoorTopg
set_option linter.unusedVariables false
set_option linter.unusedSimpArgs false
namespace Lift
open Go
theorem Qiv (x:BitVec IntKind.u16.bits) (i:Nat):bit (IntKind.u16.wrap (x.toNat:Int)) i=x.getLsbD i:=by
  have hx:x.toNat<65536:=x.isLt
  rw [w_u16,Int.emod_eq_of_lt (by omega) (by omega)]
  simp only [bit,Int.toNat_natCast,BitVec.testBit_toNat]
theorem Qez {a:Int} (h:u16 a) (i:Nat):(BitVec.ofInt IntKind.u16.bits a).getLsbD i=bit a i:=by
  obtain ⟨n,rfl⟩:=Int.eq_ofNat_of_zero_le h.1
  have hn:n<65536:=by have:=h.2;omega
  have hp:2 ^ IntKind.u16.bits=65536:=rfl
  rw [← BitVec.testBit_toNat,Qeg,hp,Nat.mod_eq_of_lt hn]
  simp [bit]
theorem Qsi {a:Int} (h:u16 a) {i:Nat} (hi:16≤i):bit a i=false:=by
  obtain ⟨n,rfl⟩:=Int.eq_ofNat_of_zero_le h.1
  have hn:n<65536:=by have:=h.2;omega
  simp only [bit,Int.toNat_natCast]
  exact Nat.testBit_lt_two_pow (Nat.lt_of_lt_of_le hn (show 2 ^ 16≤2 ^ i from Nat.pow_le_pow_right (by omega) hi))
theorem or16 {a b:Int} (ha:u16 a) (hb:u16 b):u16 (bOr .u16 a b)∧∀ i,bit (bOr .u16 a b) i=(bit a i||bit b i):=by
  refine ⟨Qek _,λ i=>?_⟩
  unfold bOr
  rw [Qiv,BitVec.getLsbD_or,Qez ha,Qez hb]
theorem xor16 {a b:Int} (ha:u16 a) (hb:u16 b):u16 (bXor .u16 a b)∧∀ i,bit (bXor .u16 a b) i=(bit a i != bit b i):=by
  refine ⟨Qek _,λ i=>?_⟩
  unfold bXor
  rw [Qiv,BitVec.getLsbD_xor,Qez ha,Qez hb]
theorem and16 {a b:Int} (ha:u16 a) (hb:u16 b):u16 (bAnd .u16 a b)∧∀ i,bit (bAnd .u16 a b) i=(bit a i&&bit b i):=by
  refine ⟨Qek _,λ i=>?_⟩
  unfold bAnd
  rw [Qiv,BitVec.getLsbD_and,Qez ha,Qez hb]
theorem andnot16 {a b:Int} (ha:u16 a) (hb:u16 b):u16 (bAndNot .u16 a b)∧∀ i,bit (bAndNot .u16 a b) i=(bit a i&&!bit b i):=by
  refine ⟨Qek _,λ i=>?_⟩
  unfold bAndNot
  rw [Qiv,BitVec.getLsbD_and,BitVec.getLsbD_not,Qez ha,Qez hb]
  by_cases h:i<16
  · have:i<IntKind.u16.bits:=h
    simp [this]
  · rw [Qsi ha (by omega)];simp
theorem ext16 {a b:Int} (ha:u16 a) (hb:u16 b) (h:∀ i,i<16→bit a i=bit b i):a=b:=by
  have hall:∀ i,bit a i=bit b i:=λ i=>by
    by_cases c:i<16
    · exact h i c
    · rw [Qsi ha (by omega),Qsi hb (by omega)]
  obtain ⟨n,rfl⟩:=Int.eq_ofNat_of_zero_le ha.1
  obtain ⟨m,rfl⟩:=Int.eq_ofNat_of_zero_le hb.1
  have:n=m:=Nat.eq_of_testBit_eq (λ i=>by simpa [bit] using hall i)
  rw [this]
theorem Qjm:u16 0:=by unfold u16;decide
def sub16 (a b:Int):Prop:=∀ i,bit a i=true→bit b i=true
theorem Qoj {a b:Int} (ha:u16 a) (hb:u16 b):bAndNot .u16 a b=0↔sub16 a b:=by
  obtain ⟨h1,h2⟩:=andnot16 ha hb
  constructor
  · intro h i hi
    have:=h2 i
    rw [h,Qfc,hi] at this
    cases hb2:bit b i
    · rw [hb2] at this;simp at this
    · rfl
  · intro h
    refine ext16 h1 Qjm (λ i _=>?_)
    rw [h2,Qfc]
    cases ha2:bit a i
    · rfl
    · rw [h i ha2];rfl
theorem shl16 {i:Nat} (h:i<16):u16 (bShl .u16 1 (i:Int))∧∀ j,bit (bShl .u16 1 (i:Int)) j=decide (i=j):=by
  have e:bShl .u16 1 (i:Int)=((2 ^ i:Nat):Int):=by
    obtain rfl | rfl | rfl | rfl | rfl | rfl | rfl | rfl | rfl | rfl | rfl | rfl | rfl | rfl | rfl | rfl:i=0∨i=1∨i=2∨i=3∨i=4∨i=5∨i=6∨i=7∨i=8∨i=9∨i=10∨i=11∨i=12∨i=13∨i=14∨i=15:=by omega
    all_goals decide
  have hu:u16 (bShl .u16 1 (i:Int)):=by
    obtain rfl | rfl | rfl | rfl | rfl | rfl | rfl | rfl | rfl | rfl | rfl | rfl | rfl | rfl | rfl | rfl:i=0∨i=1∨i=2∨i=3∨i=4∨i=5∨i=6∨i=7∨i=8∨i=9∨i=10∨i=11∨i=12∨i=13∨i=14∨i=15:=by omega
    all_goals (unfold u16;decide)
  refine ⟨hu,λ j=>?_⟩
  rw [e]
  simp only [bit,Int.toNat_natCast,Nat.testBit_two_pow]
def setb (v:Int) (i:Int) (as:Bool):Int:=if as then bOr .u16 v (bShl .u16 1 i) else bAndNot .u16 (bOr .u16 v (bShl .u16 1 i)) (bShl .u16 1 i)
theorem Qps {v:Int} (hv:u16 v) {i:Nat} (hi:i<16) (as:Bool):u16 (setb v (i:Int) as)∧∀ j,bit (setb v (i:Int) as) j=if j=i then as else bit v j:=by
  obtain ⟨s1,s2⟩:=shl16 hi
  obtain ⟨o1,o2⟩:=or16 hv s1
  unfold setb
  cases as
  · obtain ⟨a1,a2⟩:=andnot16 o1 s1
    refine ⟨by simpa using a1,λ j=>?_⟩
    simp only [Bool.false_eq_true,if_false]
    rw [a2,o2,s2]
    by_cases c:j=i
    · subst c;simp
    · simp [c,Ne.symm c]
  · refine ⟨by simpa using o1,λ j=>?_⟩
    simp only [if_true]
    rw [o2,s2]
    by_cases c:j=i
    · subst c;simp
    · simp [c,Ne.symm c]
def diff (a b:Int) (n:Nat):List Change_:=((List.range n).filter (λ i:Nat=>bit a i != bit b i)).map (λ i:Nat=>(⟨(i:Int),bit b i⟩:Change_))
theorem Qlo (a b:Int) (n:Nat):diff a b (n+1)=diff a b n++if (bit a n != bit b n)=true then [⟨(n:Int),bit b n⟩] else []:=by
  unfold diff
  rw [List.range_succ,List.filter_append,List.map_append]
  congr 1
  by_cases c:(bit a n != bit b n)=true
  · rw [if_pos c];simp [List.filter,c]
  · rw [if_neg c];simp [List.filter,c]
theorem Qwu {a b:Int} {n:Nat} {c:Change_} (h:c∈diff a b n):∃ i:Nat,i<n∧c.Index=i∧(bit a i=true∨bit b i=true)∧c.Asserted=bit b i:=by
  unfold diff at h
  obtain ⟨i,hi,rfl⟩:=List.mem_map.1 h
  obtain ⟨h1,h2⟩:=List.mem_filter.1 hi
  refine ⟨i,List.mem_range.1 h1,rfl,?_,rfl⟩
  cases ha:bit a i
  · rw [ha] at h2;right;simpa using h2
  · exact .inl rfl
theorem Qoz (a b:Int) (n:Nat):(diff a b n).length≤n:=by
  unfold diff
  rw [List.length_map]
  have:=List.length_filter_le (λ i=>bit a i != bit b i) (List.range n)
  simpa using this
def chg (v:Int) (c:Change_):Int:=setb v c.Index c.Asserted
theorem Qqb {a b:Int} (ha:u16 a) (hb:u16 b):∀ n,n≤16→u16 ((diff a b n).foldl chg a)∧∀ j,bit ((diff a b n).foldl chg a) j=if j<n then bit b j else bit a j
  | 0,_=>⟨ha,λ j=>by simp [diff]⟩
  | n+1,hn=>by
    obtain ⟨h1,h2⟩:=Qqb ha hb n (by omega)
    rw [Qlo,List.foldl_append]
    generalize (diff a b n).foldl chg a=v at h1 h2
    by_cases c:(bit a n != bit b n)=true
    · rw [if_pos c]
      simp only [List.foldl_cons,List.foldl_nil,chg]
      obtain ⟨s1,s2⟩:=Qps h1 (show n<16 by omega) (bit b n)
      refine ⟨s1,λ j=>?_⟩
      rw [s2,h2]
      by_cases e:j=n
      · subst e;simp
      · by_cases e2:j<n
        · rw [if_neg e,if_pos e2,if_pos (by omega)]
        · rw [if_neg e,if_neg e2,if_neg (by omega)]
    · rw [if_neg c]
      simp only [List.foldl_nil]
      refine ⟨h1,λ j=>?_⟩
      rw [h2]
      by_cases e:j=n
      · subst e
        have:bit a j=bit b j:=by simpa using c
        simp [this]
      · by_cases e2:j<n
        · rw [if_pos e2,if_pos (by omega)]
        · rw [if_neg e2,if_neg (by omega)]
theorem diff_to {a b:Int} (ha:u16 a) (hb:u16 b) {n:Nat} (hn:n≤16) (h:∀ j,n≤j→bit a j=bit b j):(diff a b n).foldl chg a=b:=by
  obtain ⟨h1,h2⟩:=Qqb ha hb n hn
  refine ext16 h1 hb (λ j _=>?_)
  rw [h2]
  by_cases c:j<n
  · rw [if_pos c]
  · rw [if_neg c];exact h j (by omega)
end Lift
