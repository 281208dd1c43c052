import Derived.Test.YtahlmfpllhmjoaaGreatDoorTopg
set_option linter.unusedVariables false
set_option linter.unusedSimpArgs false
namespace Lift
open Go
theorem sub_mid {α : Type} {a b c : List α} {i j : Int} (h1 : (a.length : Int) = i) (h2 : i + b.length = j) : sub (a ++ (b ++ c)) i j = some b := by
  subst h1
  subst h2
  unfold sub
  rw [if_pos ⟨by omega, by omega, by simp; omega⟩]
  congr 1
  have : ((a.length : Int) + (b.length : Int)).toNat - (a.length : Int).toNat = b.length := by omega
  rw [this, Int.toNat_natCast, List.drop_left, List.take_left]
theorem sub_end {α : Type} {a b : List α} {i : Int} (h1 : (a.length : Int) = i) : sub (a ++ b) i ((a ++ b).length : Int) = some b := by
  have := sub_mid (a := a) (b := b) (c := []) h1 (j := ((a ++ b).length : Int)) (by simp; omega)
  simpa using this
theorem toStr_eq {l : List Int} (h : ∀ x ∈ l, byte x) : toStr l = l := by
  unfold toStr strOf strOfNums
  simp only [List.map_map]
  induction l with
  | nil => rfl
  | cons x l ih =>
    have hx := h x (by simp)
    unfold byte at hx
    simp only [List.map_cons]
    rw [ih (fun y hy => h y (by simp [hy]))]
    congr 1
    simp
    omega
theorem w_i64_any (n : Int) : IntKind.i64.wrap n = if n % 18446744073709551616 < 9223372036854775808 then n % 18446744073709551616 else n % 18446744073709551616 - 18446744073709551616 := by simp [IntKind.wrap, IntKind.bits, IntKind.signed]; omega
theorem or256 {a b : Int} (h0 : -18014398509481984 ≤ a) (h1 : a < 18014398509481984) (hb : byte b) : bOr .i64 (a * 256) b = a * 256 + b := by
  obtain ⟨n, rfl, hn⟩ := hb.nat
  unfold bOr
  obtain ⟨k, hk⟩ : ∃ k : Nat, (a * 256) % 18446744073709551616 = ((2 ^ 8 * k : Nat) : Int) := ⟨(a % 72057594037927936).toNat, by
    have : (0 : Int) ≤ a % 72057594037927936 := Int.emod_nonneg _ (by omega)
    omega⟩
  have e1 : (BitVec.ofInt IntKind.i64.bits (a * 256)).toNat = 2 ^ 8 * k := by
    rw [BitVec.toNat_ofInt]
    have : ((2 ^ IntKind.i64.bits : Nat) : Int) = 18446744073709551616 := by decide
    rw [this, hk]; rfl
  have e2 : (BitVec.ofInt IntKind.i64.bits (n : Int)).toNat = n := by
    rw [ofInt_nat]; exact Nat.mod_eq_of_lt (by have : (2 : Nat) ^ IntKind.i64.bits = 18446744073709551616 := by decide
                                               omega)
  rw [BitVec.toNat_or, e1, e2, ← Nat.two_pow_add_eq_or_of_lt (by omega : n < 2 ^ 8), w_i64_any]
  simp only [Int.natCast_add, ← hk]
  omega
def wr : Int → Nat → List Int
  | _, 0 => []
  | v, n + 1 => v % 256 :: wr (v / 256) n
theorem wr_len : ∀ (n : Nat) (v : Int), (wr v n).length = n
  | 0, _ => rfl
  | n + 1, v => by simp [wr, wr_len n]
theorem wr_byte : ∀ (n : Nat) (v : Int), ∀ x ∈ wr v n, byte x
  | 0, _, x, hx => by simp [wr] at hx
  | n + 1, v, x, hx => by
    simp only [wr, List.mem_cons] at hx
    rcases hx with rfl | hx
    · unfold byte; omega
    · exact wr_byte n _ x hx
def rdn : List Int → Int
  | [] => 0
  | [b] => IntKind.i8.wrap b
  | b :: c :: t => rdn (c :: t) * 256 + b
theorem rdn_cons {b : Int} {t : List Int} (h : t ≠ []) : rdn (b :: t) = rdn t * 256 + b := by
  cases t with
  | nil => exact absurd rfl h
  | cons c t => rfl
def P8 : Nat → Int
  | 0 => 1
  | n + 1 => P8 n * 256
theorem rdn_wr : ∀ (n : Nat) (v : Int), -(128 * P8 n) ≤ v → v < 128 * P8 n → rdn (wr v (n + 1)) = v
  | 0, v, h0, h1 => by
    simp only [P8] at h0 h1
    simp only [wr, rdn, w_i8]
    split <;> omega
  | n + 1, v, h0, h1 => by
    simp only [P8] at h0 h1
    have ih := rdn_wr n (v / 256) (by omega) (by omega)
    rw [wr, rdn_cons (by simp [wr]), ih]
    omega
theorem rdn_bd : ∀ (l : List Int), l ≠ [] → (∀ x ∈ l, byte x) → -(128 * P8 (l.length - 1)) ≤ rdn l ∧ rdn l < 128 * P8 (l.length - 1)
  | [], h, _ => absurd rfl h
  | [b], _, hb => by simp only [rdn, w_i8, List.length_cons, List.length_nil, Nat.zero_add, Nat.sub_self, P8]; split <;> omega
  | b :: c :: t, _, hb => by
    obtain ⟨i0, i1⟩ := rdn_bd (c :: t) (by simp) (fun x hx => hb x (by simp [hx]))
    have := hb b (by simp)
    unfold byte at this
    have e : (b :: c :: t).length - 1 = ((c :: t).length - 1) + 1 := by simp
    rw [e, rdn_cons (by simp)]
    simp only [P8]
    omega
theorem P8_pos : ∀ b : Nat, 0 < P8 b
  | 0 => by decide
  | n + 1 => by have := P8_pos n; simp only [P8]; omega
theorem P8_mono : ∀ {a b : Nat}, a ≤ b → P8 a ≤ P8 b
  | a, 0, h => by obtain rfl : a = 0 := by omega
                  exact Int.le_refl _
  | a, b + 1, h => by
    rcases Nat.lt_or_ge b a with hc | hc
    · obtain rfl : a = b + 1 := by omega
      exact Int.le_refl _
    · have := P8_mono hc
      have p := P8_pos b
      simp only [P8]; omega
theorem shr8 (v : Int) (q : IntKind) (h : 8 ≤ q.bits) : bShr q v 8 = v / 256 := by
  simp only [bShr]
  have : min (8 : Int).toNat q.bits = 8 := by have : (8 : Int).toNat = 8 := rfl
                                              omega
  rw [this, Int.fdiv_eq_ediv_of_nonneg _ (by decide)]; rfl
theorem write_ev {fuel : Nat} {v : Int} {n : Nat} (hf : n < fuel) (hn : n ≤ 100) : Ev (convert_write fuel v (n : Int)) (fun y => y = wr v n) := by
  unfold convert_write
  refine Ev.loop (fun (k : Nat) (x : Int × Int × List Int) => ∃ i : Nat, x.2.1 = i ∧ i + k = n ∧ x.2.2 ++ wr x.1 k = wr v n ∧ x.2.2.length = i) (fun k x hI self hself => ?_) (n := n) hf ⟨0, rfl, by omega, rfl, rfl⟩
  obtain ⟨s, pos, acc⟩ := x
  obtain ⟨i, i1, i2, i3, i4⟩ := hI
  simp only at i1 i3 i4 ⊢
  subst i1
  refine Ev.dec (fun hlt => ?_) (fun hge => Ev.ret ?_)
  · obtain ⟨k', rfl⟩ : ∃ k', k = k' + 1 := ⟨k - 1, by omega⟩
    have hw : IntKind.i64.wrap ((i : Int) + 1) = ((i + 1 : Nat) : Int) := by rw [w_i64 (by omega) (by omega)]; rfl
    rw [hw, shr8 _ _ (by decide), w_u8]
    refine Ev.app (by simp; omega) (hself k' _ (by omega) ⟨i + 1, rfl, by omega, ?_, by simp [i4]⟩)
    rw [← i3, wr]; simp
  · have : k = 0 := by omega
    subst this
    rw [← i3]; simp [wr]
theorem read_ev {fuel : Nat} {l : List Int} (hf : 100 < fuel) (hl : l ≠ []) (h6 : l.length ≤ 6) (hb : ∀ x ∈ l, byte x) : Ev (convert_read fuel l) (fun y => y = rdn l) := by
  unfold convert_read
  have hp : 0 < l.length := List.length_pos_iff.2 hl
  rw [w_i64 (show -9223372036854775808 ≤ (l.length : Int) - 1 by omega) (by omega)]
  refine Ev.idx (by omega) (by omega) (fun x1 e1 m1 => ?_)
  have hi8 : IntKind.i64.wrap (IntKind.i8.wrap x1) = rdn (l.drop (l.length - 1)) := by
    have e : ((l.length : Int) - 1).toNat = l.length - 1 := by omega
    rw [e] at e1
    have hd : l.drop (l.length - 1) = [x1] := by
      rw [List.drop_eq_getElem_cons (by omega)]
      have := List.getElem?_eq_getElem (l := l) (i := l.length - 1) (by omega)
      rw [this] at e1
      rw [Option.some.inj e1, List.drop_eq_nil_of_le (by omega)]
    rw [hd]
    simp only [rdn]
    have := w_i8 x1
    rw [w_i64 (by rw [this]; split <;> omega) (by rw [this]; split <;> omega)]
  refine Ev.letE hi8 (Ev.letE (c := (l.length : Int) - 2) (w_i64 (by omega) (by omega)) ?_)
  refine Ev.loop (fun (k : Nat) (x : Int × Int) => x.2 + 1 = k ∧ k < l.length ∧ x.1 = rdn (l.drop k)) (fun k x hI self hself => ?_) (n := l.length - 1) (by omega) ⟨by simp only; omega, by omega, rfl⟩
  obtain ⟨acc, pos⟩ := x
  obtain ⟨i1, i2, i3⟩ := hI
  simp only at i1 i3 ⊢
  refine Ev.dec (fun hge => Ev.idx hge (by omega) (fun x4 e4 m4 => ?_)) (fun hlt => Ev.ret ?_)
  · obtain ⟨k', rfl⟩ : ∃ k', k = k' + 1 := ⟨k - 1, by omega⟩
    have hx4 := hb x4 m4
    have hne : l.drop (k' + 1) ≠ [] := by intro h; have := congrArg List.length h; simp at this; omega
    have hbd := rdn_bd (l.drop (k' + 1)) hne (fun x hx => hb x (List.mem_of_mem_drop hx))
    have hP : P8 ((l.drop (k' + 1)).length - 1) ≤ P8 4 := P8_mono (by simp; omega)
    have hP4 : P8 4 = 4294967296 := by decide
    rw [← i3] at hbd
    have hs : bShl .i64 acc 8 = acc * 256 := by
      show IntKind.i64.wrap (acc * 2 ^ 8) = _
      rw [w_i64 (by omega) (by omega)]; rfl
    have hx : IntKind.i64.wrap x4 = x4 := by unfold byte at hx4; rw [w_i64 (by omega) (by omega)]
    refine Ev.letE (c := rdn (l.drop k')) ?_ (Ev.letE (c := pos - 1) (w_i64 (by omega) (by omega)) (hself k' _ (by omega) ⟨by simp only; omega, by omega, rfl⟩))
    rw [hs, hx, or256 (by omega) (by omega) hx4]
    have hd : l.drop k' = x4 :: l.drop (k' + 1) := by
      rw [List.drop_eq_getElem_cons (by omega)]
      have ek : pos.toNat = k' := by omega
      rw [ek, List.getElem?_eq_getElem (by omega)] at e4
      rw [Option.some.inj e4]
    rw [hd, rdn_cons hne, i3]
  · have : k = 0 := by omega
    subst this
    rw [i3]; rfl
def two (l : List Int) : List Int := l.flatMap fun x => [x % 256, x / 256]
theorem two_ev {fuel : Nat} {l : List Int} (hf : l.length < fuel) (hl : l.length ≤ 100) (hb : ∀ x ∈ l, u16 x) : Ev (sensor_two fuel l) (fun y => y = two l) := by
  unfold sensor_two
  refine Ev.loop (fun (k : Nat) (x : Int × List Int) => ∃ i : Nat, x.1 = i ∧ i + k = l.length ∧ x.2 = two (l.take i)) (fun k x hI self hself => ?_) (n := l.length) hf ⟨0, rfl, by omega, rfl⟩
  obtain ⟨pos, acc⟩ := x
  obtain ⟨i, i1, i2, i3⟩ := hI
  simp only at i1 i3 ⊢
  subst i1
  refine Ev.dec (fun hlt => Ev.idx (by omega) hlt (fun x1 e1 m1 => ?_)) (fun hge => Ev.ret ?_)
  · have hw : IntKind.i64.wrap ((i : Int) + 1) = ((i + 1 : Nat) : Int) := by rw [w_i64 (by omega) (by omega)]; rfl
    have hx := hb x1 m1
    unfold u16 at hx
    rw [hw, shr8 _ _ (by decide), w_u8, w_u8, show x1 / 256 % 256 = x1 / 256 by omega]
    have hlen : (two (l.take i)).length ≤ 200 := by
      have : ∀ m : List Int, (two m).length = 2 * m.length := fun m => by induction m with
        | nil => rfl
        | cons a m ih => simp only [two, List.flatMap_cons, List.length_append, List.length_cons, List.length_nil] at ih ⊢; omega
      rw [this]; simp; omega
    refine Ev.app (by rw [i3]; simp; omega) (hself (k - 1) _ (by omega) ⟨i + 1, rfl, by omega, ?_⟩)
    simp only [Int.toNat_natCast] at e1
    rw [i3, List.take_add_one, e1]
    simp [two]
  · rw [i3, List.take_of_length_le (by omega)]
theorem word_ev (fuel : Nat) {x : Int} (hx : u16 x) (t : List Int) : Ev (sensor_word fuel (x % 256 :: x / 256 :: t)) (fun y => y = x) := by
  unfold sensor_word
  unfold u16 at hx
  refine Ev.to (show idx (x % 256 :: x / 256 :: t) 0 = some (x % 256) from rfl) (Ev.to (show idx (x % 256 :: x / 256 :: t) 1 = some (x / 256) from rfl) (Ev.letP (Ev.ret ?_)))
  obtain ⟨n, rfl⟩ := Int.eq_ofNat_of_zero_le hx.1
  have hs : bShl .u16 (IntKind.u16.wrap ((n : Int) / 256)) 8 = ((2 ^ 8 * (n / 256) : Nat) : Int) := by
    show IntKind.u16.wrap (IntKind.u16.wrap ((n : Int) / 256) * 2 ^ 8) = _
    rw [w_u16, w_u16]; omega
  have hl : IntKind.u16.wrap ((n : Int) % 256) = ((n % 256 : Nat) : Int) := by rw [w_u16]; omega
  rw [hs, hl, bOr_nat (w := 16) (by decide) (fun m hm => by rw [w_u16]; omega) (by omega) (by omega), Nat.or_comm, ← Nat.two_pow_add_eq_or_of_lt (by omega : n % 256 < 2 ^ 8)]
  omega
theorem sum_ev {fuel : Nat} {l : List Int} (hf : l.length < fuel) (hl : l.length ≤ 100000) : Ev (checksum_Sum8 fuel l) (fun y => y = (-l.sum) % 256) := by
  unfold checksum_Sum8
  refine Ev.loop (fun (k : Nat) (x : Int × Int) => ∃ i : Nat, x.2 = i ∧ i + k = l.length ∧ x.1 = (l.take i).sum % 256) (fun k x hI self hself => ?_) (n := l.length) hf ⟨0, rfl, by omega, rfl⟩
  obtain ⟨acc, pos⟩ := x
  obtain ⟨i, i1, i2, i3⟩ := hI
  simp only at i1 i3 ⊢
  subst i1
  refine Ev.dec (fun hlt => Ev.idx (by omega) hlt (fun x1 e1 m1 => ?_)) (fun hge => ?_)
  · have hw : IntKind.i64.wrap ((i : Int) + 1) = ((i + 1 : Nat) : Int) := by rw [w_i64 (by omega) (by omega)]; rfl
    rw [hw]
    simp only [Int.toNat_natCast] at e1
    refine Ev.letE (c := (l.take (i + 1)).sum % 256) ?_ (hself (k - 1) _ (by omega) ⟨i + 1, rfl, by omega, rfl⟩)
    rw [w_u8, i3, List.take_add_one, e1]
    simp
  · refine Ev.letP (Ev.ret ?_)
    rw [w_u8, i3, List.take_of_length_le (by omega)]
    omega
theorem clone_eq {fuel : Nat} {l : List Int} (h : l.length ≤ 100000) : slices_Clone_byte_byte fuel l = some l := by
  unfold slices_Clone_byte_byte
  rw [app_ok (by simp; omega)]; simp
theorem seal_ev {fuel : Nat} {l : List Int} (hf : l.length < fuel) (hl : l.length ≤ 1000) : Ev (checksum_Seal8 fuel l) (fun y => y = l ++ [(-l.sum) % 256]) := by
  unfold checksum_Seal8
  exact Ev.to (clone_eq (by omega)) (Ev.bind (sum_ev hf (by omega)) (fun y hy => Ev.app (by simp; omega) (Ev.ret (by rw [hy]))))
theorem open_ev {fuel : Nat} {l : List Int} (hf : l.length + 1 < fuel) (hl : l.length ≤ 1000) : Ev (checksum_Open8 fuel (l ++ [(-l.sum) % 256])) (fun y => y = (l, 0)) := by
  unfold checksum_Open8
  refine Ev.letP (Ev.iteF (by simp; omega) (Ev.bind (sum_ev (by simp; omega) (by simp; omega)) (fun y hy => Ev.letP (Ev.bneF ?_ ?_))))
  · rw [hy, List.sum_append]; simp; omega
  · have hs : sub (l ++ [(-l.sum) % 256]) 0 (IntKind.i64.wrap (((l ++ [(-l.sum) % 256]).length : Int) - 1)) = some l := by
      have e : IntKind.i64.wrap (((l ++ [(-l.sum) % 256]).length : Int) - 1) = l.length := by
        rw [w_i64 (by simp only [List.length_append, List.length_cons, List.length_nil]; omega) (by simp only [List.length_append, List.length_cons, List.length_nil]; omega)]; simp
      rw [e]
      exact sub_mid (a := []) rfl (by simp)
    exact Ev.to hs (Ev.to (clone_eq (by omega)) (Ev.ret rfl))
end Lift
