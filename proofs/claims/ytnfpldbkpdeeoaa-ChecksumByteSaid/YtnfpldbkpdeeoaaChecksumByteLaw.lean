/- The plain law of ChecksumByte. uses: crc8 lists sealc sums seals dice linear ev syn8 flips syn32
-/
import Derived.Test.YtnfpldbkpdeeoaaFlips
import Derived.Test.YtnfpldbkpdeeoaaSyn32
namespace Lift
open Go
theorem sum_toI (n : List Nat) : sum8 (toI n) = (0 - (n.sum : Int)) % 256 := by
  have key : ∀ (l : List Nat) (s : Int), 0 ≤ s → s < 256 → (toI l).foldl (fun s x => (s + x) % 256) s = (s + (l.sum : Int)) % 256 := by
    intro l
    induction l with
    | nil => intro s h1 h2; simp [toI]; omega
    | cons x l ih =>
      intro s h1 h2
      have := ih ((s + (x : Int)) % 256) (by omega) (by omega)
      simp only [toI, List.map_cons, List.foldl_cons, List.sum_cons] at this ⊢
      rw [this]; push_cast; omega
  unfold sum8
  rw [key n 0 (by omega) (by omega)]; omega
theorem sum_mod : ∀ (l : List Nat) (i m : Nat) (h : i < l.length), (l.modify i (· ^^^ m)).sum + l[i] = l.sum + (l[i] ^^^ m)
  | [], _, _, h => by simp at h
  | x :: l, 0, m, _ => by simp; omega
  | x :: l, i + 1, m, h => by
    have := sum_mod l i m (by simpa using h)
    simp only [List.modify_succ_cons, List.sum_cons, List.getElem_cons_succ]; omega
theorem sealedS {l : List Int} (h : Small l) : ∃ n : List Nat, l ++ [sum8 l] = toI n ∧ (∀ x ∈ n, x < 256) ∧ n.length = l.length + 1 ∧ n.sum % 256 = 0 := by
  obtain ⟨b, e, hb⟩ := nats_of h.2
  have hs : sum8 l = (((256 - b.sum % 256) % 256 : Nat) : Int) := by rw [e, sum_toI]; omega
  refine ⟨b ++ [(256 - b.sum % 256) % 256], ?_, fun x hx => ?_, ?_, ?_⟩
  · rw [hs, e]; simp [toI]
  · rcases List.mem_append.1 hx with hx | hx
    · exact hb x hx
    · simp at hx; omega
  · have := congrArg List.length e
    rw [toI_len] at this
    simp; omega
  · simp; omega
theorem xor_ne {a m : Nat} (hm : m ≠ 0) : a ^^^ m ≠ a := by
  intro h
  apply hm
  have := congrArg (fun z => a ^^^ z) h
  simpa [← Nat.xor_assoc] using this
theorem open8_five {n : List Nat} (hne : n ≠ []) (h : n.sum % 256 ≠ 0) : open8 (toI n) = ([], 5) := by
  have hl : toI n ≠ [] := by cases n with | nil => exact absurd rfl hne | cons _ _ => simp [toI]
  have hs : ¬ sum8 (toI n) = 0 := by rw [sum_toI]; omega
  simp [open8, hl, hs]
theorem get_toI {n : List Nat} {i : Nat} (h : i < n.length) : idx (toI n) (i : Int) = some ((n[i]'h : Nat) : Int) := by rw [idx_nat, toI_get h]
theorem law01_ChecksumByte_true (a0 : List Int) (a1 a2 : Int) (o0 : okL (okI .u8) a0) (o1 : okI .i64 a1) (o2 : okI .u8 a2) : ∃ fuel, law01_ChecksumByte fuel a0 a1 a2 = some true := by
  refine ⟨6000, Ev.isTrue ?_⟩
  unfold law01_ChecksumByte
  refine Ev.to (law01_light_eq _ _) (Ev.join (fun s => s = false → ((a0.length : Int) ≤ 2000 ∧ a2 ≠ 0)) (fun s hs => ?_) (fun j hj => ?_))
  · refine Ev.ite (fun _ => Ev.to law01_awake_eq (Ev.ret rfl)) (fun e => ?_)
    obtain ⟨hl, hne⟩ := hs e
    have hs0 := small_of o0 (by omega)
    obtain ⟨b1, b2⟩ := okI_u8.1 o2
    obtain ⟨m, rfl, hm⟩ := nat_of (a := a2) (m := 256) b1 (by omega)
    have hm0 : m ≠ 0 := fun h => hne (by rw [h]; rfl)
    obtain ⟨n1, e1, h1, l1, z1⟩ := sealedS hs0
    obtain ⟨n2, e2, h2, l2, z2⟩ := sealed_nat hs0
    obtain ⟨n3, e3, h3, l3, z3⟩ := sealed32 hs0
    refine Ev.to ((Seal8_eq hs0 (by omega)).trans (by rw [e1])) (Ev.to ((SealCRC8_eq hs0 (by omega)).trans (by rw [e2])) (Ev.to ((SealCRC32_eq hs0 (by omega)).trans (by rw [e3])) ?_))
    have w1 : IntKind.i64.wrap ((a0.length : Int) + 1) = (a0.length : Int) + 1 := w_i64 (by omega) (by omega)
    have w4 : IntKind.i64.wrap ((a0.length : Int) + 4) = (a0.length : Int) + 4 := w_i64 (by omega) (by omega)
    refine Ev.join (fun s => s = false) (fun s hsf => ?_) (fun j2 hj2 => ?_)
    · refine Ev.iteF hsf ?_
      rw [toI_len, toI_len, toI_len]
      obtain ⟨k1, hk1, _, q1⟩ := mod_nat 6000 a1 (m := n1.length) (by omega) (by omega)
      obtain ⟨k2, hk2, _, q2⟩ := mod_nat 6000 a1 (m := n2.length) (by omega) (by omega)
      obtain ⟨k3, hk3, _, q3⟩ := mod_nat 6000 a1 (m := n3.length) (by omega) (by omega)
      refine Ev.to q1 (Ev.to (get_toI hk1) (Ev.to (get_toI hk1) (Ev.letE (upd_xor h1 hk1 hm) ?_)))
      refine Ev.to q2 (Ev.to (get_toI hk2) (Ev.to (get_toI hk2) (Ev.letE (upd_xor h2 hk2 hm) ?_)))
      refine Ev.to q3 (Ev.to (get_toI hk3) (Ev.to (get_toI hk3) (Ev.letE (upd_xor h3 hk3 hm) ?_)))
      have f1 := mod_lt (i := k1) h1 hm
      have f2 := mod_lt (i := k2) h2 hm
      have f3 := mod_lt (i := k3) h3 hm
      have p1 : (n1.modify k1 (· ^^^ m)).length = n1.length := by simp
      have p2 : (n2.modify k2 (· ^^^ m)).length = n2.length := by simp
      have p3 : (n3.modify k3 (· ^^^ m)).length = n3.length := by simp
      have g1 : open8 (toI (n1.modify k1 (· ^^^ m))) = ([], 5) := open8_five (ne_nil (by omega)) (by
        have := sum_mod n1 k1 m hk1
        have hx := xor_ne (a := n1[k1]) hm0
        have hb := h1 _ (List.getElem_mem hk1)
        have hb2 : n1[k1] ^^^ m < 256 := Nat.xor_lt_two_pow (n := 8) hb hm
        omega)
      have g2 : openC (toI (n2.modify k2 (· ^^^ m))) = ([], 5) := openC_five f2 (ne_nil (by omega)) (by
        rw [cN_mod n2 0 k2 m h2 (by omega) hm hk2, z2, Nat.zero_xor]
        exact it_ne _ m hm hm0)
      have g3 : openL (toI (n3.modify k3 (· ^^^ m))) = ([], 5) := openL_five f3 (by omega) (by
        rw [gN_mod n3 _ k3 m hk3, z3]
        intro h0
        exact t_ne _ m (by omega) hm0 (by simpa [← Nat.xor_assoc] using congrArg (fun z => R32 ^^^ z) h0))
      refine Ev.to ((Open8_eq (toI_small f1 (by omega)) (by omega)).trans (by rw [g1])) (Ev.to ((OpenCRC8_eq (toI_small f2 (by omega)) (by omega)).trans (by rw [g2])) (Ev.to ((OpenCRC32_eq (toI_small f3 (by omega)) (by omega)).trans (by rw [g3])) ?_))
      exact Ev.iteT rfl (Ev.iteT rfl (Ev.iteT rfl (Ev.iteT rfl (Ev.to law01_awake_eq (Ev.ret rfl)))))
    · rw [w1, w4, toI_len, toI_len, toI_len]
      exact Ev.bneF (by omega) (Ev.bneF (by omega) (hj2 _ (by simp; omega)))
  · refine Ev.not (Ev.dec (fun h => hj _ (fun e => ⟨h, by simpa using e⟩)) (fun h => hj _ (fun e => by cases e)))
end Lift
