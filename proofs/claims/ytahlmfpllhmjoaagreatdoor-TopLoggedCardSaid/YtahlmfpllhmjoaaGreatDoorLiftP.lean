import Derived.Test.YtahlmfpllhmjoaaGreatDoorLiftR
set_option linter.unusedVariables false
set_option linter.unusedSimpArgs false
namespace Lift
open Go
theorem w_u8 (n:Int):IntKind.u8.wrap n=n % 256:=by simp [IntKind.wrap,IntKind.bits,IntKind.signed]
theorem w_u64 (n:Int):IntKind.u64.wrap n=n % 18446744073709551616:=by simp [IntKind.wrap,IntKind.bits,IntKind.signed]
theorem w_i64 {n:Int} (h1:-9223372036854775808≤n) (h2:n≤9223372036854775807):IntKind.i64.wrap n=n:=by
  simp only [IntKind.wrap,IntKind.bits,IntKind.signed,Bool.true_and]
  split
  · rename_i h;simp at h;omega
  · rename_i h;simp at h;omega
theorem Qam {α:Type} (l:List α) (i:Nat):idx l (i:Int)=l[i]?:=by simp [idx]
theorem Qpe {α:Type} {l:List α} {i:Nat} {x:α} (h:l[i]?=some x):i<l.length:=(List.getElem?_eq_some_iff.1 h).1
theorem Qeg (w:Nat) (a:Nat):(BitVec.ofInt w (a:Int)).toNat=a % 2 ^ w:=by
  simp [BitVec.toNat_ofInt]
  try (rw [← Int.natCast_pow (b:=2) ,← Int.natCast_emod];simp)
theorem Qwo {q:IntKind} {a b w:Nat} (hw:w≤q.bits) (hfit:∀ n:Nat,n<2 ^ w→q.wrap (n:Int)=n) (ha:a<2 ^ w) (hb:b<2 ^ w):bXor q (a:Int) (b:Int)=((a ^^^ b:Nat):Int):=by
  have hp:2 ^ w≤2 ^ q.bits:=Nat.pow_le_pow_right (by omega) hw
  unfold bXor
  rw [BitVec.toNat_xor,Qeg,Qeg,Nat.mod_eq_of_lt (by omega),Nat.mod_eq_of_lt (by omega)]
  exact hfit _ (Nat.xor_lt_two_pow ha hb)
theorem Qsd {q:IntKind} {a b w:Nat} (hw:w≤q.bits) (hfit:∀ n:Nat,n<2 ^ w→q.wrap (n:Int)=n) (ha:a<2 ^ w) (hb:b<2 ^ w):bAnd q (a:Int) (b:Int)=((a &&& b:Nat):Int):=by
  have hp:2 ^ w≤2 ^ q.bits:=Nat.pow_le_pow_right (by omega) hw
  unfold bAnd
  rw [BitVec.toNat_and,Qeg,Qeg,Nat.mod_eq_of_lt (by omega),Nat.mod_eq_of_lt (by omega)]
  exact hfit _ (Nat.and_lt_two_pow a hb)
theorem xor_u8 {a b:Nat} (ha:a<256) (hb:b<256):bXor .u8 (a:Int) (b:Int)=((a ^^^ b:Nat):Int) :=
  Qwo (w:=8) (by decide) (λ n hn=>by rw [w_u8];omega) (by omega) (by omega)
end Lift
