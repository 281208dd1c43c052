/- Bytes, lists of bytes, folds: what all closed forms stand on. No program in sight. -/
import Derived.Test.YtedddoifbhcinaaLiftP
import Derived.Test.YtedddoifbhcinaaPlain
set_option linter.unusedVariables false
set_option linter.unusedSimpArgs false
namespace Lift
open Go
def byte (v : Int) : Prop := 0 ≤ v ∧ v ≤ 255
def it {α : Type} (f : α → α) : Nat → α → α
  | 0, x => x
  | n + 1, x => f (it f n x)
theorem it_eq {α : Type} {f g : α → α} {P : α → Prop} (h : ∀ x, P x → f x = g x ∧ P (f x)) {x : α} (hx : P x) : ∀ n, it f n x = it g n x ∧ P (it f n x)
  | 0 => ⟨rfl, hx⟩
  | n + 1 => by
    obtain ⟨e, hp⟩ := it_eq h hx n
    simp only [it]
    exact ⟨by rw [(h _ hp).1, e], (h _ hp).2⟩
theorem xor_byte {a b : Int} (ha : byte a) (hb : byte b) : bXor .u8 a b = bXor .i64 a b ∧ byte (bXor .u8 a b) := by
  obtain ⟨m, rfl⟩ : ∃ n : Nat, a = n := ⟨a.toNat, by have := ha.1; omega⟩
  obtain ⟨n, rfl⟩ : ∃ n : Nat, b = n := ⟨b.toNat, by have := hb.1; omega⟩
  have h1 := ha.2
  have h2 := hb.2
  rw [xor_u8 (by omega) (by omega), xor_i64 (by omega) (by omega)]
  have := Nat.xor_lt_two_pow (n := 8) (show m < 2 ^ 8 by omega) (show n < 2 ^ 8 by omega)
  exact ⟨rfl, by constructor <;> omega⟩

def Small (l : List Int) : Prop := l.length ≤ 5000 ∧ ∀ x ∈ l, byte x

theorem fold_eq {α β : Type} {f g : α → β → α} {P : α → Prop} (l : List β) (h : ∀ s x, P s → x ∈ l → f s x = g s x ∧ P (f s x)) : ∀ s, P s → l.foldl f s = l.foldl g s ∧ P (l.foldl f s) := by
  induction l with
  | nil => intro s hs; exact ⟨rfl, hs⟩
  | cons x l ih =>
    intro s hs
    obtain ⟨e, hp⟩ := h s x hs (by simp)
    simp only [List.foldl_cons]
    have := ih (fun s y hs hy => h s y hs (by simp [hy])) _ hp
    rw [← e]; exact this

theorem wi (i : Nat) (h : i ≤ 100000) : IntKind.i64.wrap ((i : Int) + 1) = (i : Int) + 1 := w_i64 (by omega) (by omega)
theorem small_of {l : List Int} (h : okL (okI .u8) l) (hl : l.length ≤ 5000) : Small l := ⟨hl, fun x hx => okI_u8.1 (h.2 x hx)⟩
end Lift
