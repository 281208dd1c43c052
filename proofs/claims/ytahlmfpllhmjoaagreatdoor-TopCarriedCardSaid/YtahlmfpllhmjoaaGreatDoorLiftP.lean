import Derived.Test.YtahlmfpllhmjoaaGreatDoorLiftR
set_option linter.unusedVariables false
set_option linter.unusedSimpArgs false
namespace Lift
open Go
theorem w_u8 (n:Int):IntKind.u8.wrap n=n % 256:=by simp [IntKind.wrap,IntKind.bits,IntKind.signed]
theorem w_i64 {n:Int} (h1:-9223372036854775808≤n) (h2:n≤9223372036854775807):IntKind.i64.wrap n=n:=by
  simp only [IntKind.wrap,IntKind.bits,IntKind.signed,Bool.true_and]
  split
  · rename_i h;simp at h;omega
  · rename_i h;simp at h;omega
theorem okI_i64 {n:Int}:okI .i64 n↔-9223372036854775808≤n∧n≤9223372036854775807:=by simp [okI,Lit.wf,IntKind.min,IntKind.max,IntKind.bits,IntKind.signed]
theorem loop_iter {σ β:Type} {step:(σ→Option β)→σ→Option β} (s:Nat→σ) (n:Nat) (h:∀ i,i<n→∀ k,step k (s i)=k (s (i+1))) {fuel:Nat} (hf:n<fuel):∃ m,loopP step fuel (s 0)=step (loopP step m) (s n):=by
  induction n generalizing s fuel with
  | zero=>cases fuel with
    | zero=>omega
    | succ m=>exact ⟨m,rfl⟩
  | succ n ih =>
    cases fuel with
    | zero=>omega
    | succ f =>
      obtain ⟨m,hm⟩:=ih (λ i=>s (i+1)) (λ i hi k=>h (i+1) (by omega) k) (fuel:=f) (by omega)
      refine ⟨m,?_⟩
      show step (loopP step f) (s 0)=_
      rw [h 0 (by omega)];exact hm
theorem loop_fold {σ α β:Type} {l:List α} {step:(σ×Int→Option β)→σ×Int→Option β} (g:σ→α→σ) (s0:σ) (P:σ→Prop) (h0:P s0) (hP:∀ s x,P s→x∈l→P (g s x))
    (h:∀ (s:σ) (i:Nat) (x:α),P s→l[i]?=some x→∀ k,step k (s,(i:Int))=k (g s x,(i:Int)+1)) {fuel:Nat} (hf:l.length<fuel) :
    ∃ m,loopP step fuel (s0,0)=step (loopP step m) (l.foldl g s0,(l.length:Int)):=by
  have hp:∀ i,P ((l.take i).foldl g s0):=by
    have:∀ (r:List α) (s:σ),P s→(∀ x∈r,x∈l)→P (r.foldl g s):=by
      intro r
      induction r with
      | nil=>intro s hs _;exact hs
      | cons x r ih=>intro s hs hr;exact ih _ (hP s x hs (hr x (by simp))) (λ y hy=>hr y (by simp [hy]))
    intro i;exact this _ _ h0 (λ x hx=>List.mem_of_mem_take hx)
  obtain ⟨m,hm⟩:=loop_iter (step:=step) (λ i=>((l.take i).foldl g s0,(i:Int))) l.length (λ i hi k=>by
    have hx : l[i]? = some (l[i]'hi) := by simp
    rw [h _ i _ (hp i) hx k,List.take_add_one,hx,List.foldl_append]
    rfl) hf
  refine ⟨m,?_⟩
  simpa using hm
theorem loop_run {σ β:Type} {step:(σ→Option β)→σ→Option β} {init:σ} {r:Option β} {fuel:Nat} (s:Nat→σ) (n:Nat) (h0:init=s 0) (hf:n<fuel) (h:∀ i,i<n→∀ k,step k (s i)=k (s (i+1))) (hr:∀ k,step k (s n)=r):loopP step fuel init=r:=by
  obtain ⟨m,hm⟩:=loop_iter (step:=step) s n h hf
  rw [h0,hm,hr]
theorem fold_run {σ α β:Type} {l:List α} {step:(σ×Int→Option β)→σ×Int→Option β} {s0:σ} {r:Option β} {fuel:Nat} (g:σ→α→σ) (P:σ→Prop) (h0:P s0) (hP:∀ s x,P s→x∈l→P (g s x)) (hf:l.length<fuel)
    (h:∀ (s:σ) (i:Nat) (x:α),P s→l[i]?=some x→∀ k,step k (s,(i:Int))=k (g s x,(i:Int)+1)) (hr:∀ k,step k (l.foldl g s0,(l.length:Int))=r):loopP step fuel (s0,0)=r:=by
  obtain ⟨m,hm⟩:=loop_fold (step:=step) g s0 P h0 hP h hf
  rw [hm,hr]
theorem idx_nat {α:Type} (l:List α) (i:Nat):idx l (i:Int)=l[i]?:=by simp [idx]
theorem lt_len {α:Type} {l:List α} {i:Nat} {x:α} (h:l[i]?=some x):i<l.length:=(List.getElem?_eq_some_iff.1 h).1
theorem ofInt_nat (w:Nat) (a:Nat):(BitVec.ofInt w (a:Int)).toNat=a % 2 ^ w:=by
  simp [BitVec.toNat_ofInt]
  try (rw [← Int.natCast_pow (b:=2) ,← Int.natCast_emod];simp)
theorem bXor_nat {q:IntKind} {a b w:Nat} (hw:w≤q.bits) (hfit:∀ n:Nat,n<2 ^ w→q.wrap (n:Int)=n) (ha:a<2 ^ w) (hb:b<2 ^ w):bXor q (a:Int) (b:Int)=((a ^^^ b:Nat):Int):=by
  have hp:2 ^ w≤2 ^ q.bits:=Nat.pow_le_pow_right (by omega) hw
  unfold bXor
  rw [BitVec.toNat_xor,ofInt_nat,ofInt_nat,Nat.mod_eq_of_lt (by omega),Nat.mod_eq_of_lt (by omega)]
  exact hfit _ (Nat.xor_lt_two_pow ha hb)
theorem xor_u8 {a b:Nat} (ha:a<256) (hb:b<256):bXor .u8 (a:Int) (b:Int)=((a ^^^ b:Nat):Int) :=
  bXor_nat (w:=8) (by decide) (λ n hn=>by rw [w_u8];omega) (by omega) (by omega)
theorem xor_i64 {a b:Nat} (ha:a<4294967296) (hb:b<4294967296):bXor .i64 (a:Int) (b:Int)=((a ^^^ b:Nat):Int) :=
  bXor_nat (w:=32) (by decide) (λ n hn=>by rw [w_i64]<;>omega) (by omega) (by omega)
end Lift
