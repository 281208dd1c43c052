import Derived.Test.YtahlmfpllhmjoaaGreatDoorTopz
set_option linter.unusedVariables false
set_option linter.unusedSimpArgs false
namespace Lift
open Go
def byte (v:Int):Prop:=0≤v∧v≤255
def bit (a:Int) (i:Nat):Bool:=a.toNat.testBit i
theorem byte.nat {a:Int} (h:byte a):∃ n:Nat,a=n∧n<256:=⟨a.toNat,by have:=h.1;omega,by have:=h.1;have:=h.2;omega⟩
theorem Qtd {q:IntKind} {a b w:Nat} (hw:w≤q.bits) (hfit:∀ n:Nat,n<2 ^ w→q.wrap (n:Int)=n) (ha:a<2 ^ w) (hb:b<2 ^ w):bOr q (a:Int) (b:Int)=((a ||| b:Nat):Int):=by
  have hp:2 ^ w≤2 ^ q.bits:=Nat.pow_le_pow_right (by omega) hw
  unfold bOr
  rw [BitVec.toNat_or,Qeg,Qeg,Nat.mod_eq_of_lt (by omega),Nat.mod_eq_of_lt (by omega)]
  exact hfit _ (Nat.or_lt_two_pow ha hb)
theorem or_u8 {a b:Nat} (ha:a<256) (hb:b<256):bOr .u8 (a:Int) (b:Int)=((a ||| b:Nat):Int) :=
  Qtd (w:=8) (by decide) (λ n hn=>by rw [w_u8];omega) (by omega) (by omega)
theorem Qvk {a b:Nat} (ha:a<256) (hb:b<256):bAnd .u8 (a:Int) (b:Int)=((a &&& b:Nat):Int) :=
  Qsd (w:=8) (by decide) (λ n hn=>by rw [w_u8];omega) (by omega) (by omega)
theorem w_u16 (n:Int):IntKind.u16.wrap n=n % 65536:=by simp [IntKind.wrap,IntKind.bits,IntKind.signed]
theorem and_u16 {a b:Nat} (ha:a<65536) (hb:b<65536):bAnd .u16 (a:Int) (b:Int)=((a &&& b:Nat):Int) :=
  Qsd (w:=16) (by decide) (λ n hn=>by rw [w_u16];omega) (by omega) (by omega)
theorem Qor {q:IntKind} {a i:Nat} (h:i≤q.bits):bShr q (a:Int) (i:Int)=((a / 2 ^ i:Nat):Int):=by
  simp only [bShr,Int.toNat_natCast,Nat.min_eq_left h]
  rw [Int.fdiv_eq_ediv_of_nonneg _ (by exact Int.le_of_lt (Int.pow_pos (by decide)))]
  norm_cast
theorem Qtw (n m:Nat):n / 2 ^ m &&& 1=if n.testBit m then 1 else 0:=by
  rw [Nat.and_one_is_mod,Nat.testBit_eq_decide_div_mod_eq]
  rcases Nat.mod_two_eq_zero_or_one (n / 2 ^ m) with h | h<;>simp [h]
theorem Qpi {a i:Int} (ha:byte a) (h0:0≤i) (h1:i<8):bAnd .u8 (bShr .u8 a i) 1=if bit a i.toNat then 1 else 0:=by
  obtain ⟨n,rfl,hn⟩:=ha.nat
  obtain ⟨m,rfl⟩:=Int.eq_ofNat_of_zero_le h0
  rw [Qor (show m≤IntKind.u8.bits by have:IntKind.u8.bits=8:=rfl;omega)]
  have hd:n / 2 ^ m<256:=Nat.lt_of_le_of_lt (Nat.div_le_self _ _) hn
  have:=Qvk hd (show 1<256 by decide)
  rw [show ((1:Nat):Int)=1 from rfl] at this
  rw [this,Qtw]
  simp only [bit,Int.toNat_natCast]
  by_cases h:n.testBit m=true<;>simp [h]
theorem Qon {a i:Int} (h:0≤a) (hh:a<65536) (h0:0≤i) (h1:i<16):bAnd .u16 (bShr .u16 a i) 1=if bit a i.toNat then 1 else 0:=by
  obtain ⟨n,rfl⟩:=Int.eq_ofNat_of_zero_le h
  obtain ⟨m,rfl⟩:=Int.eq_ofNat_of_zero_le h0
  rw [Qor (show m≤IntKind.u16.bits by have:IntKind.u16.bits=16:=rfl;omega)]
  have hd:n / 2 ^ m<65536:=Nat.lt_of_le_of_lt (Nat.div_le_self _ _) (by omega)
  have:=and_u16 hd (show 1<65536 by decide)
  rw [show ((1:Nat):Int)=1 from rfl] at this
  rw [this,Qtw]
  simp only [bit,Int.toNat_natCast]
  by_cases h:n.testBit m=true<;>simp [h]
theorem xor_ok {a b:Int} (ha:byte a) (hb:byte b):byte (bXor .u8 a b)∧∀ i,bit (bXor .u8 a b) i=(bit a i != bit b i):=by
  obtain ⟨n,rfl,hn⟩:=ha.nat
  obtain ⟨m,rfl,hm⟩:=hb.nat
  rw [xor_u8 hn hm]
  have:=Nat.xor_lt_two_pow (n:=8) hn hm
  refine ⟨⟨by omega,by omega⟩,λ i=>?_⟩
  simp only [bit,Int.toNat_natCast,Nat.testBit_xor]
theorem or_ok {a b:Int} (ha:byte a) (hb:byte b):byte (bOr .u8 a b)∧∀ i,bit (bOr .u8 a b) i=(bit a i||bit b i):=by
  obtain ⟨n,rfl,hn⟩:=ha.nat
  obtain ⟨m,rfl,hm⟩:=hb.nat
  rw [or_u8 hn hm]
  have:=Nat.or_lt_two_pow (n:=8) hn hm
  refine ⟨⟨by omega,by omega⟩,λ i=>?_⟩
  simp only [bit,Int.toNat_natCast,Nat.testBit_or]
theorem Qvv {a b:Int} (ha:byte a) (hb:byte b):byte (bAnd .u8 a b)∧∀ i,bit (bAnd .u8 a b) i=(bit a i&&bit b i):=by
  obtain ⟨n,rfl,hn⟩:=ha.nat
  obtain ⟨m,rfl,hm⟩:=hb.nat
  rw [Qvk hn hm]
  have:=Nat.and_lt_two_pow (n:=8) n hm
  refine ⟨⟨by omega,by omega⟩,λ i=>?_⟩
  simp only [bit,Int.toNat_natCast,Nat.testBit_and]
theorem shl_eq {i:Int} (h0:0≤i) (h1:i<8):bShl .u8 1 i=((2 ^ i.toNat:Nat):Int):=by
  obtain rfl | rfl | rfl | rfl | rfl | rfl | rfl | rfl:i=0∨i=1∨i=2∨i=3∨i=4∨i=5∨i=6∨i=7:=by omega
  all_goals decide
theorem Qvz {i:Int} (h0:0≤i) (h1:i<8):byte (bShl .u8 1 i):=by
  obtain rfl | rfl | rfl | rfl | rfl | rfl | rfl | rfl:i=0∨i=1∨i=2∨i=3∨i=4∨i=5∨i=6∨i=7:=by omega
  all_goals (unfold byte;decide)
theorem sel_ok {i m:Int} (h0:0≤i) (h1:i<8) (hm:byte m):byte (bAnd .u8 (bShl .u8 1 i) m)∧∀ j,bit (bAnd .u8 (bShl .u8 1 i) m) j=(decide (i.toNat=j)&&bit m j):=by
  obtain ⟨a,b⟩:=Qvv (Qvz h0 h1) hm
  refine ⟨a,λ j=>?_⟩
  rw [b j,shl_eq h0 h1]
  simp only [bit,Int.toNat_natCast,Nat.testBit_two_pow]
theorem Qtm {a:Int} (ha:byte a) (h:∀ i,bit a i=false):a=0:=by
  obtain ⟨n,rfl,hn⟩:=ha.nat
  have:n=0:=Nat.eq_of_testBit_eq (λ i=>by rw [Nat.zero_testBit];exact h i)
  rw [this];rfl
theorem Qfc (i:Nat):bit 0 i=false:=Nat.zero_testBit i
theorem Qpv {m:Int} (h0:0≤m) (h1:m<64):(bAndNot .u16 (bOr .u16 m m) (IntKind.u16.wrap m) != 0)=false:=by
  have:∀ k:Fin 64,(bAndNot .u16 (bOr .u16 ((k.val:Nat):Int) ((k.val:Nat):Int)) (IntKind.u16.wrap ((k.val:Nat):Int)) != 0)=false:=by decide +kernel
  obtain ⟨n,rfl⟩:=Int.eq_ofNat_of_zero_le h0
  exact this ⟨n,by omega⟩
end Lift
