/- The three sums and their references: closed forms, and that they are the same. No program in sight. -/
import Derived.Test.YtnfpldbkpdeeoaaCrc8
namespace Lift
open Go

/-! ### the sum -/
def sum8 (l : List Int) : Int := (0 - l.foldl (fun s x => (s + x) % 256) 0) % 256
theorem sum_step {s x : Int} (hs : byte s) (hx : byte x) : byte ((s + x) % 256) := by constructor <;> omega
theorem sum_fold {l : List Int} (h : Small l) : byte (l.foldl (fun s x => (s + x) % 256) 0) :=
  (fold_eq (f := fun s x => (s + x) % 256) (g := fun s x => (s + x) % 256) l (fun s x hs hx => ⟨rfl, sum_step hs (h.2 x hx)⟩) 0 ⟨by decide, by decide⟩).2
theorem sum8_byte (l : List Int) : byte (sum8 l) := by unfold sum8; constructor <;> omega
theorem checksum_Sum8_eq {fuel : Nat} {l : List Int} (h : Small l) (hf : 5000 < fuel) : checksum_Sum8 fuel l = some (sum8 l) := by
  have hl := h.1
  unfold checksum_Sum8
  refine fold_run (fun s x => (s + x) % 256) byte ⟨by decide, by decide⟩ (fun s x hs hx => sum_step hs (h.2 x hx)) (by omega) (fun s i x hs hx k => ?_) (fun k => ?_)
  · have hi := lt_len hx
    simp only [show ((i : Int) < (l.length : Int)) by omega, decide_true, iteP_true, idx_nat, hx, bindP_some, letP_eq, w_u8, wi i (by omega)]
  · simp only [show ¬ ((l.length : Int) < (l.length : Int)) by omega, decide_false, iteP_false, letP_eq, w_u8, sum8]
theorem ref01_Sum8_eq {fuel : Nat} {l : List Int} (h : Small l) (hf : 5000 < fuel) : ref01_Sum8 fuel l = some (sum8 l) := by
  have hl := h.1
  unfold ref01_Sum8
  refine fold_run (fun s x => (s + x) % 256) byte ⟨by decide, by decide⟩ (fun s x hs hx => sum_step hs (h.2 x hx)) (by omega) (fun s i x hs hx k => ?_) (fun k => ?_)
  · have hi := lt_len hx
    obtain ⟨b1, b2⟩ := h.2 x (List.mem_of_getElem? hx)
    obtain ⟨s1, s2⟩ := hs
    simp only [show ((i : Int) < (l.length : Int)) by omega, decide_true, iteP_true, idx_nat, hx, bindP_some, letP_eq, wi i (by omega), w_i64 (show -9223372036854775808 ≤ x by omega) (by omega), w_i64 (show -9223372036854775808 ≤ s + x by omega) (by omega)]
    rw [Int.tmod_eq_emod_of_nonneg (by omega)]
  · obtain ⟨s1, s2⟩ := sum_fold h
    simp only [show ¬ ((l.length : Int) < (l.length : Int)) by omega, decide_false, iteP_false, letP_eq, w_u8, sum8]
    rw [w_i64 (by omega) (by omega), Int.tmod_eq_emod_of_nonneg (by omega)]
    congr 1; omega

/-! ### the long sum -/
def word (v : Int) : Prop := 0 ≤ v ∧ v ≤ 4294967295
def f32 (v : Int) : Int := bXor .u32 (bShr .u32 v 1) (IntKind.u32.wrap ((bAnd .u32 v 1) * 3988292384))
def r32 (v : Int) : Int := if (Int.tmod v 2 == 1) = true then bXor .u32 (IntKind.u32.wrap (Int.tdiv v 2)) 3988292384 else IntKind.u32.wrap (Int.tdiv v 2)
theorem xor_word {a b : Int} (ha : word a) (hb : word b) : word (bXor .u32 a b) := by
  obtain ⟨m, rfl⟩ : ∃ n : Nat, a = n := ⟨a.toNat, by have := ha.1; omega⟩
  obtain ⟨n, rfl⟩ : ∃ n : Nat, b = n := ⟨b.toNat, by have := hb.1; omega⟩
  have h1 := ha.2
  have h2 := hb.2
  rw [xor_u32 (by omega) (by omega)]
  have := Nat.xor_lt_two_pow (n := 32) (show m < 2 ^ 32 by omega) (show n < 2 ^ 32 by omega)
  constructor <;> omega
theorem f32_eq {v : Int} (h : word v) : f32 v = r32 v ∧ word (f32 v) := by
  obtain ⟨n, rfl⟩ : ∃ n : Nat, v = n := ⟨v.toNat, by have := h.1; omega⟩
  have h2 := h.2
  have e1 : bShr .u32 (n : Int) 1 = ((n / 2 : Nat) : Int) := by
    show Int.fdiv (n : Int) (2 ^ 1) = _
    rw [show ((2 : Int) ^ 1) = 2 from rfl, Int.fdiv_eq_ediv_of_nonneg _ (by omega)]; omega
  have e2 : bAnd .u32 (n : Int) 1 = ((n % 2 : Nat) : Int) := by
    rw [show (1 : Int) = ((1 : Nat) : Int) from rfl, and_u32 (by omega) (by omega), Nat.and_one_is_mod]
  have e3 : IntKind.u32.wrap (Int.tdiv (n : Int) 2) = ((n / 2 : Nat) : Int) := by
    rw [Int.tdiv_eq_ediv_of_nonneg (by omega), w_u32]; omega
  have e4 : Int.tmod (n : Int) 2 = ((n % 2 : Nat) : Int) := by
    rw [Int.tmod_eq_emod_of_nonneg (by omega)]; omega
  have key : f32 (n : Int) = r32 (n : Int) := by
    unfold f32 r32
    rw [e1, e2, e3, e4]
    rcases Nat.mod_two_eq_zero_or_one n with h0 | h0
    · rw [h0]
      have : bXor .u32 ((n / 2 : Nat) : Int) ((0 : Nat) : Int) = ((n / 2 : Nat) : Int) := by rw [xor_u32 (by omega) (by omega)]; simp
      simpa [w_u32] using this
    · rw [h0]; simp [w_u32]
  refine ⟨key, ?_⟩
  unfold f32
  rw [e1]
  exact xor_word ⟨by omega, by omega⟩ (by rw [w_u32]; constructor <;> omega)
def crc32 (l : List Int) : Int := 4294967295 - l.foldl (fun s x => it f32 8 (bXor .u32 s x)) 4294967295
theorem crc32_step {s x : Int} (hs : word s) (hx : byte x) : it f32 8 (bXor .u32 s x) = it r32 8 (bXor .u32 s x) ∧ word (it f32 8 (bXor .u32 s x)) :=
  it_eq (fun _ => f32_eq) (xor_word hs ⟨hx.1, by have := hx.2; omega⟩) 8
theorem crc32_fold {l : List Int} (h : Small l) : l.foldl (fun s x => it f32 8 (bXor .u32 s x)) 4294967295 = l.foldl (fun s x => it r32 8 (bXor .u32 s x)) 4294967295 ∧ word (l.foldl (fun s x => it f32 8 (bXor .u32 s x)) 4294967295) :=
  fold_eq l (fun s x hs hx => crc32_step hs (h.2 x hx)) _ ⟨by decide, by decide⟩
theorem crc32_word {l : List Int} (h : Small l) : word (crc32 l) := by
  obtain ⟨_, h1, h2⟩ := crc32_fold h
  unfold crc32; constructor <;> omega
theorem wx {x : Int} (h : byte x) : IntKind.u32.wrap x = x := by rw [w_u32]; obtain ⟨h1, h2⟩ := h; omega
theorem checksum_CRC32_eq {fuel : Nat} {l : List Int} (h : Small l) (hf : 5000 < fuel) : checksum_CRC32 fuel l = some (crc32 l) := by
  have hl := h.1
  unfold checksum_CRC32
  refine fold_run (fun s x => it f32 8 (bXor .u32 s x)) word ⟨by decide, by decide⟩ (fun s x hs hx => (crc32_step hs (h.2 x hx)).2) (by omega) (fun s i x hs hx k => ?_) (fun k => ?_)
  · have hi := lt_len hx
    simp only [show ((i : Int) < (l.length : Int)) by omega, decide_true, iteP_true, idx_nat, hx, bindP_some, letP_eq, wx (h.2 x (List.mem_of_getElem? hx))]
    refine loop_run (fun j => (it f32 j (bXor .u32 s x), (j : Int))) 8 rfl (by omega) (fun j hj k2 => ?_) (fun k2 => ?_)
    · simp only [show ((j : Int) < 8) by omega, decide_true, iteP_true, wi j (by omega)]; rfl
    · simp only [show ¬ (((8 : Nat) : Int) < 8) by omega, decide_false, iteP_false, wi i (by omega)]
  · obtain ⟨_, h1, h2⟩ := crc32_fold h
    obtain ⟨n, hn⟩ : ∃ n : Nat, l.foldl (fun s x => it f32 8 (bXor .u32 s x)) 4294967295 = n := ⟨_, (Int.toNat_of_nonneg h1).symm⟩
    simp only [show ¬ ((l.length : Int) < (l.length : Int)) by omega, decide_false, iteP_false, crc32, hn]
    rw [not_u32 (by omega)]
    congr 1; omega
theorem ref01_CRC32_eq {fuel : Nat} {l : List Int} (h : Small l) (hf : 5000 < fuel) : ref01_CRC32 fuel l = some (crc32 l) := by
  have hl := h.1
  unfold ref01_CRC32
  have hP : ∀ s x, word s → x ∈ l → word (it r32 8 (bXor .u32 s x)) := fun s x hs hx => by have := crc32_step hs (h.2 x hx); rw [← this.1]; exact this.2
  refine fold_run (fun s x => it r32 8 (bXor .u32 s x)) word ⟨by decide, by decide⟩ hP (by omega) (fun s i x hs hx k => ?_) (fun k => ?_)
  · have hi := lt_len hx
    simp only [show ((i : Int) < (l.length : Int)) by omega, decide_true, iteP_true, idx_nat, hx, bindP_some, letP_eq, wx (h.2 x (List.mem_of_getElem? hx))]
    refine loop_run (fun j => (it r32 j (bXor .u32 s x), (j : Int))) 8 rfl (by omega) (fun j hj k2 => ?_) (fun k2 => ?_)
    · simp only [show ((j : Int) < 8) by omega, decide_true, iteP_true, wi j (by omega)]
      rw [iteP_eq]
      simp only [it, r32]
      split <;> rename_i hc <;> simp [hc]
    · simp only [show ¬ (((8 : Nat) : Int) < 8) by omega, decide_false, iteP_false, wi i (by omega)]
  · obtain ⟨e, h1, h2⟩ := crc32_fold h
    simp only [show ¬ ((l.length : Int) < (l.length : Int)) by omega, decide_false, iteP_false, letP_eq, crc32, e]
    rw [e] at h1 h2
    rw [w_u32]; congr 1; omega

theorem law01_awake_eq : law01_awake 6000 = some true := by decide +kernel
theorem law01_light_eq (fuel : Nat) (l : List Int) : law01_light fuel l = some (decide ((l.length : Int) ≤ 2000)) := rfl
end Lift
