/- The short check sum: a closed form, that the reference's is the same. No program in sight. -/
import Derived.Test.YtedddoifbhcinaaBase
set_option linter.unusedVariables false
set_option linter.unusedSimpArgs false
namespace Lift
open Go

def f8 (v : Int) : Int := bXor .u8 (bShl .u8 v 1) (IntKind.u8.wrap ((bShr .u8 v 7) * 7))
def r8 (v : Int) : Int := if IntKind.i64.wrap (2 * v) ≥ 256 then bXor .i64 (IntKind.i64.wrap (IntKind.i64.wrap (2 * v) - 256)) 7 else IntKind.i64.wrap (2 * v)
theorem f8_fin : ∀ v : Fin 256, f8 (v.val : Int) = r8 (v.val : Int) ∧ 0 ≤ f8 (v.val : Int) ∧ f8 (v.val : Int) ≤ 255 := by decide +kernel
theorem f8_eq {v : Int} (h : byte v) : f8 v = r8 v ∧ byte (f8 v) := by
  obtain ⟨n, rfl⟩ : ∃ n : Nat, v = n := ⟨v.toNat, by have := h.1; omega⟩
  have := f8_fin ⟨n, by have := h.2; omega⟩
  exact ⟨this.1, this.2⟩
def crc8 (l : List Int) : Int := l.foldl (fun s x => it f8 8 (bXor .u8 s x)) 0
def crc8r (l : List Int) : Int := l.foldl (fun s x => it r8 8 (bXor .i64 s x)) 0
theorem crc8_step {s x : Int} (hs : byte s) (hx : byte x) : it f8 8 (bXor .u8 s x) = it r8 8 (bXor .i64 s x) ∧ byte (it f8 8 (bXor .u8 s x)) := by
  obtain ⟨e, hb⟩ := xor_byte hs hx
  rw [← e]; exact it_eq (fun _ => f8_eq) hb 8
theorem crc8_eq {l : List Int} (h : Small l) : crc8 l = crc8r l ∧ byte (crc8 l) :=
  fold_eq l (fun s x hs hx => crc8_step hs (h.2 x hx)) 0 ⟨by decide, by decide⟩

theorem checksum_CRC8_eq {fuel : Nat} {l : List Int} (h : Small l) (hf : 5000 < fuel) : checksum_CRC8 fuel l = some (crc8 l) := by
  have hl := h.1
  unfold checksum_CRC8
  refine fold_run (fun s x => it f8 8 (bXor .u8 s x)) byte ⟨by decide, by decide⟩ (fun s x hs hx => (crc8_step hs (h.2 x hx)).2) (by omega) (fun s i x hs hx k => ?_) (fun k => by simp [crc8])
  have hi := lt_len hx
  simp only [show ((i : Int) < (l.length : Int)) by omega, decide_true, iteP_true, idx_nat, hx, bindP_some]
  refine loop_run (fun j => (it f8 j (bXor .u8 s x), (j : Int))) 8 rfl (by omega) (fun j hj k2 => ?_) (fun k2 => ?_)
  · simp only [show ((j : Int) < 8) by omega, decide_true, iteP_true, letP_eq, wi j (by omega)]; rfl
  · simp only [show ¬ (((8 : Nat) : Int) < 8) by omega, decide_false, iteP_false, wi i (by omega)]
theorem ref01_CRC8_eq {fuel : Nat} {l : List Int} (h : Small l) (hf : 5000 < fuel) : ref01_CRC8 fuel l = some (crc8 l) := by
  have hl := h.1
  unfold ref01_CRC8
  have hP : ∀ s x, byte s → x ∈ l → byte (it r8 8 (bXor .i64 s x)) := fun s x hs hx => by have := crc8_step hs (h.2 x hx); rw [← this.1]; exact this.2
  refine fold_run (fun s x => it r8 8 (bXor .i64 s x)) byte ⟨by decide, by decide⟩ hP (by omega) (fun s i x hs hx k => ?_) (fun k => ?_)
  · have hi := lt_len hx
    have hb := h.2 x (List.mem_of_getElem? hx)
    have hw : IntKind.i64.wrap x = x := w_i64 (by have := hb.1; omega) (by have := hb.2; omega)
    simp only [show ((i : Int) < (l.length : Int)) by omega, decide_true, iteP_true, idx_nat, hx, bindP_some, letP_eq, hw]
    refine loop_run (fun j => (it r8 j (bXor .i64 s x), (j : Int))) 8 rfl (by omega) (fun j hj k2 => ?_) (fun k2 => ?_)
    · simp only [show ((j : Int) < 8) by omega, decide_true, iteP_true, wi j (by omega)]
      rw [iteP_eq]
      simp only [it, r8]
      split <;> rename_i hc <;> simp only [decide_eq_true_eq] at hc <;> simp only [hc, if_true, if_false] <;> rfl
    · simp only [show ¬ (((8 : Nat) : Int) < 8) by omega, decide_false, iteP_false, wi i (by omega)]
  · have e : l.foldl (fun s x => it r8 8 (bXor .i64 s x)) 0 = crc8 l := (crc8_eq h).1.symm
    have hb := (crc8_eq h).2
    simp only [show ¬ ((l.length : Int) < (l.length : Int)) by omega, decide_false, iteP_false, e, w_u8]
    rw [Int.emod_eq_of_lt hb.1 (by have := hb.2; omega)]

end Lift
