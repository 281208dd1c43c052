/- Packets of a message: closed forms. No program in sight. -/
import Derived.Test.YtnilklnmhndlnaaDicebytes
import Derived.Test.YtnilklnmhndlnaaEach
set_option linter.unusedVariables false
set_option linter.unusedSimpArgs false
namespace Lift
open Go
theorem Ev.eq {α : Type} {x : Option α} {a : α} (h : Ev x (fun y => y = a)) : x = some a := by obtain ⟨y, e, rfl⟩ := h; exact e
theorem wr {n : Int} (h : -1000000000 ≤ n ∧ n ≤ 1000000000) : IntKind.i64.wrap n = n := w_i64 (by omega) (by omega)
theorem awake22 : law22_awake 10000 = some true := by decide +kernel
def endp (n : Int) : Bool := decide (8 ≤ n ∧ n ≤ 254)
theorem endpoint_eq (fuel : Nat) (n : Int) : fragment_endpoint fuel n = some (endp n) := by
  unfold fragment_endpoint endp
  by_cases h1 : 8 ≤ n <;> by_cases h2 : n ≤ 254 <;> simp [h1, h2]
theorem Endpoint_eq (fuel : Nat) (n : Int) : ref22_Endpoint fuel n = some (endp n) := by
  unfold ref22_Endpoint endp
  by_cases h1 : 8 ≤ n <;> by_cases h2 : n ≤ 254 <;> simp [h1, h2]
/-- How many parts of k bytes there are. -/
def nsp (k : Nat) (xs : List Int) : Nat := (xs.length + k - 1) / k
def piece (k : Nat) (xs : List Int) (i : Nat) : List Int := (xs.drop (i * k)).take k
theorem nsp_lt {k : Nat} (hk : 0 < k) {xs : List Int} {i : Nat} : i < nsp k xs ↔ i * k < xs.length := by
  unfold nsp
  rw [Nat.lt_iff_add_one_le, Nat.le_div_iff_mul_le hk, Nat.add_mul]
  omega
theorem nsp_last {k : Nat} (hk : 0 < k) {xs : List Int} {i : Nat} (h : i * k < xs.length) : i + 1 = nsp k xs ↔ xs.length ≤ i * k + k := by
  have h1 := (nsp_lt hk (xs := xs) (i := i)).2 h
  have h2 := nsp_lt hk (xs := xs) (i := i + 1)
  rw [Nat.add_mul, Nat.one_mul] at h2
  omega
theorem nsp_le {k : Nat} (hk : 0 < k) (xs : List Int) : nsp k xs ≤ xs.length := by
  by_cases h : nsp k xs = 0
  · omega
  · have := (nsp_lt hk (xs := xs) (i := nsp k xs - 1)).1 (by omega)
    have h2 : nsp k xs - 1 ≤ (nsp k xs - 1) * k := Nat.le_mul_of_pos_right _ hk
    omega
theorem nsp_pos {k : Nat} (hk : 0 < k) {xs : List Int} (h : 0 < xs.length) : 0 < nsp k xs := (nsp_lt hk).2 (by simpa using h)
/-- A packet. -/
def pkt (to frm : Int) (ow : Bool) (tag : Int) (k : Nat) (xs : List Int) (i : Nat) : Packet_ := ⟨to, frm, decide (i = 0), decide (i + 1 = nsp k xs), ((i % 4 : Nat) : Int), ow, tag, piece k xs i⟩
def pkt0 (to frm : Int) (ow : Bool) (tag : Int) (k : Nat) (xs : List Int) (i : Nat) : Packet_ := ⟨to, frm, false, false, ((i % 4 : Nat) : Int), ow, tag, piece k xs i⟩
def pkts (to frm : Int) (ow : Bool) (tag : Int) (k : Nat) (xs : List Int) : List Packet_ := (List.range (nsp k xs)).map (pkt to frm ow tag k xs)
def splitR (to frm : Int) (ow : Bool) (tag size : Int) (xs : List Int) : List Packet_ × Int :=
  if endp to = false ∨ endp frm = false then ([], 13) else if tag < 0 ∨ 8 ≤ tag ∨ size < 1 ∨ 64 < size then ([], 2) else if xs.length = 0 then ([], 1) else if 512 < xs.length then ([], 3) else (pkts to frm ow tag size.toNat xs, 0)
theorem piece_sub {k : Nat} {xs : List Int} {i : Nat} (h : i * k < xs.length) : sub xs ((i * k : Nat) : Int) (min ((i * k + k : Nat) : Int) (xs.length : Int)) = some (piece k xs i) := by
  have : min ((i * k + k : Nat) : Int) (xs.length : Int) = ((min (i * k + k) xs.length : Nat) : Int) := by omega
  rw [this, sub_ok (by omega) (by omega), piece]
  congr 1
  by_cases hk : i * k + k ≤ xs.length
  · congr 1; omega
  · rw [List.take_of_length_le (by simp; omega), List.take_of_length_le (by simp; omega)]
theorem piece_len {k : Nat} {xs : List Int} {i : Nat} : (piece k xs i).length = min k (xs.length - i * k) := by simp [piece]
theorem piece_small {k : Nat} {xs : List Int} {i : Nat} : (piece k xs i).length ≤ xs.length := by rw [piece_len]; omega
theorem range_snoc {α : Type} (f : Nat → α) (n : Nat) : (List.range (n + 1)).map f = (List.range n).map f ++ [f n] := by rw [List.range_succ, List.map_append]; rfl
theorem tm4 (i : Nat) : Int.tmod (i : Int) 4 = ((i % 4 : Nat) : Int) := by rw [Int.tmod_eq_emod_of_nonneg (by omega)]; omega
theorem chunk_run {fuel : Nat} {to frm : Int} {ow : Bool} {tag : Int} {k : Nat} {xs : List Int} (hk : 0 < k) (hk2 : k ≤ 64) (hl : xs.length ≤ 512) (hf : 600 < fuel) :
    slices_Chunk_byte_byte_1_2 fuel (fun (s3 : (List Packet_)) (x3 : List Int) => bindP (slices_Clone_byte_byte fuel x3) fun y4 => bindP (app 56 s3 ([(⟨to, frm, false, false, (Int.tmod (s3.length : Int) 4), ow, tag, y4⟩ : Packet_)])) fun x4 => some (x4)) [] xs (k : Int)
      = some ((List.range (nsp k xs)).map (pkt0 to frm ow tag k xs)) := by
  unfold slices_Chunk_byte_byte_1_2
  have hle := nsp_le hk xs
  refine loop_run (fun i => (((i * k : Nat) : Int), (List.range i).map (pkt0 to frm ow tag k xs))) (nsp k xs) (by simp) (by omega) (fun i hi kk => ?_) (fun kk => ?_)
  · have h1 := (nsp_lt hk).1 hi
    have h2 : sub xs ((i * k : Nat) : Int) ((xs.length : Nat) : Int) = some (xs.drop (i * k)) := by rw [sub_ok (by omega) (by omega), List.take_of_length_le (by simp)]
    have hb : i * k ≤ 512 := by omega
    generalize hp : i * k = p at *
    rw [show decide ((p : Int) < (xs.length : Int)) = true by simp; omega, iteP_true]
    rw [h2, bindP_some, letP_eq]
    have hm : min (k : Int) ((xs.drop p).length : Int) = ((min k (xs.length - p) : Nat) : Int) := by simp; omega
    simp only [hm]
    rw [wr (by omega)]
    have h3 : sub xs (p : Int) ((p : Int) + ((min k (xs.length - p) : Nat) : Int)) = some (piece k xs i) := by
      have := piece_sub (k := k) (xs := xs) (i := i) (by omega)
      rw [hp] at this
      rw [← this]; congr 1; omega
    rw [h3, bindP_some, clone_eq (by have := piece_small (k := k) (xs := xs) (i := i); omega), bindP_some, app_ok (by simp; omega), bindP_some, bindP_some, letP_eq, wr (by omega)]
    congr 1
    refine Prod.ext ?_ ?_
    · simp only [Nat.add_mul, Nat.one_mul, hp]; omega
    · simp only [range_snoc, List.length_map, List.length_range, tm4, pkt0]
  · have h1 : ¬ nsp k xs * k < xs.length := fun h => by have := (nsp_lt hk (xs := xs) (i := nsp k xs)).2 h; omega
    rw [show decide (((nsp k xs * k : Nat) : Int) < (xs.length : Int)) = false by simp; omega, iteP_false]
theorem marks {to frm : Int} {ow : Bool} {tag : Int} {k : Nat} {xs : List Int} (hk : 0 < k) (hx : 0 < xs.length) {x0 x1 : Packet_} (h0 : ((List.range (nsp k xs)).map (pkt0 to frm ow tag k xs))[0]? = some x0)
    (h1 : (((List.range (nsp k xs)).map (pkt0 to frm ow tag k xs)).set 0 { x0 with Start := true })[nsp k xs - 1]? = some x1) : ((((List.range (nsp k xs)).map (pkt0 to frm ow tag k xs)).set 0 { x0 with Start := true }).set (nsp k xs - 1) { x1 with End := true }) = pkts to frm ow tag k xs := by
  have hp := nsp_pos hk hx
  have e0 : pkt0 to frm ow tag k xs 0 = x0 := by simpa [List.getElem?_map, List.getElem?_range hp] using h0
  apply List.ext_getElem?
  intro j
  by_cases hj : j < nsp k xs
  · rw [List.getElem?_set]
    by_cases hl : nsp k xs - 1 = j
    · rw [if_pos hl, if_pos (by simp; omega)]
      rw [hl, List.getElem?_set] at h1
      simp only [pkts, List.getElem?_map, List.getElem?_range hj, Option.map_some]
      by_cases hz : 0 = j
      · rw [if_pos hz, if_pos (by simp; omega)] at h1
        simp only [Option.some.injEq] at h1
        rw [← h1, ← e0, ← hz]
        simp only [pkt0, pkt, Option.some.injEq, Packet_.mk.injEq, and_self, true_and, and_true, decide_true]
        simp; omega
      · rw [if_neg hz] at h1
        simp only [List.getElem?_map, List.getElem?_range hj, Option.map_some, Option.some.injEq] at h1
        rw [← h1]
        simp only [pkt0, pkt, Option.some.injEq, Packet_.mk.injEq, and_self, true_and, and_true]
        simp; omega
    · rw [if_neg hl, List.getElem?_set]
      simp only [pkts, List.getElem?_map, List.getElem?_range hj, Option.map_some]
      by_cases hz : 0 = j
      · rw [if_pos hz, if_pos (by simp; omega), ← e0, ← hz]
        simp only [pkt0, pkt, Option.some.injEq, Packet_.mk.injEq, and_self, true_and, and_true]
        simp; omega
      · rw [if_neg hz]
        simp only [pkt0, pkt, Option.some.injEq, Packet_.mk.injEq, and_self, true_and, and_true]
        simp; omega
  · rw [List.getElem?_eq_none (by simp; omega), List.getElem?_eq_none (by simp [pkts]; omega)]
theorem Split_eq {fuel : Nat} (hf : 600 < fuel) (to frm : Int) (ow : Bool) (tag size : Int) (xs : List Int) : fragment_Split fuel to frm ow tag size xs = some (splitR to frm ow tag size xs) := by
  unfold fragment_Split splitR
  rw [endpoint_eq, bindP_some, joinP]
  have tail : ∀ (hb : ¬ (tag < 0 ∨ 8 ≤ tag ∨ size < 1 ∨ 64 < size)),
      (letP ((xs.length : Int) == 0) fun x1 => iteP x1 (some ([], 1)) (letP (decide ((xs.length : Int) > 512)) fun x2 => iteP x2 (some ([], 3)) (
        bindP (slices_Chunk_byte_byte fuel xs size) fun y2 =>
        bindP (slices_Chunk_byte_byte_1_2 fuel (fun (s3 : ((List Packet_))) (x3 : List Int) => bindP (slices_Clone_byte_byte fuel x3) fun y4 => bindP (app 56 s3 ([(⟨to, frm, false, false, (Int.tmod (s3.length : Int) 4), ow, tag, y4⟩ : Packet_)])) fun x4 => some (x4)) ([]) y2.1 y2.2) fun y3 =>
        bindP (idx y3 0) fun x5 => letP (upd y3 0 ({ x5 with Start := true })) fun d1 => bindP (idx d1 (IntKind.i64.wrap ((y3.length : Int) - 1))) fun x6 =>
        letP (upd d1 (IntKind.i64.wrap ((y3.length : Int) - 1)) ({ x6 with End := true })) fun d2 => some ((d2, 0) : List Packet_ × Int))))
      = some (if xs.length = 0 then ([], 1) else if 512 < xs.length then ([], 3) else (pkts to frm ow tag size.toNat xs, 0)) := by
    intro hb
    rw [letP_eq]
    by_cases h0 : xs.length = 0
    · simp [h0]
    rw [show ((xs.length : Int) == 0) = false from beq_eq_false_iff_ne.2 (by omega), iteP_false, if_neg h0, letP_eq]
    by_cases h5 : 512 < xs.length
    · rw [show decide ((xs.length : Int) > 512) = true by simp; omega, iteP_true, if_pos h5]
    rw [show decide ((xs.length : Int) > 512) = false by simp; omega, iteP_false, if_neg h5]
    obtain ⟨k, hk⟩ : ∃ k : Nat, size = k := ⟨size.toNat, by omega⟩
    subst hk
    unfold slices_Chunk_byte_byte
    rw [show decide ((k : Int) < 1) = false by simp; omega, iteP_false, bindP_some]
    dsimp only
    have hkp : 0 < k := by omega
    have hp := nsp_pos hkp (xs := xs) (by omega)
    have hle := nsp_le hkp xs
    rw [chunk_run hkp (by omega) (by omega) hf, bindP_some]
    obtain ⟨x0, hx0⟩ : ∃ x0, ((List.range (nsp k xs)).map (pkt0 to frm ow tag k xs))[0]? = some x0 := ⟨_, List.getElem?_eq_getElem (by simp; omega)⟩
    have i0 : idx ((List.range (nsp k xs)).map (pkt0 to frm ow tag k xs)) 0 = some x0 := (idx_nat _ 0).trans hx0
    rw [i0, bindP_some, letP_eq]
    have hw : IntKind.i64.wrap ((((List.range (nsp k xs)).map (pkt0 to frm ow tag k xs)).length : Int) - 1) = ((nsp k xs - 1 : Nat) : Int) := by
      rw [wr (by simp; omega)]; simp; omega
    simp only [hw]
    obtain ⟨x1, hx1⟩ : ∃ x1, (((List.range (nsp k xs)).map (pkt0 to frm ow tag k xs)).set 0 { x0 with Start := true })[nsp k xs - 1]? = some x1 := ⟨_, List.getElem?_eq_getElem (by simp; omega)⟩
    have hu : upd ((List.range (nsp k xs)).map (pkt0 to frm ow tag k xs)) 0 { x0 with Start := true } = ((List.range (nsp k xs)).map (pkt0 to frm ow tag k xs)).set 0 { x0 with Start := true } := rfl
    rw [hu, idx_nat, hx1, bindP_some, letP_eq]
    have hm := marks hkp (by omega) hx0 hx1
    have hu2 : ∀ z : Packet_, upd (((List.range (nsp k xs)).map (pkt0 to frm ow tag k xs)).set 0 { x0 with Start := true }) ((nsp k xs - 1 : Nat) : Int) z = (((List.range (nsp k xs)).map (pkt0 to frm ow tag k xs)).set 0 { x0 with Start := true }).set (nsp k xs - 1) z := fun z => by simp [upd]
    rw [hu2, hm]; simp
  cases e1 : endp to with
  | false => simp
  | true =>
    simp only [Bool.not_true, iteP_false]
    rw [endpoint_eq, bindP_some, letP_eq]
    cases e2 : endp frm with
    | false => simp
    | true =>
      simp only [Bool.not_true, iteP_false, Bool.true_eq_false, false_or, if_false, joinP]
      by_cases h1 : tag < 0
      · simp [h1]
      rw [show decide (tag < 0) = false by simpa using h1, iteP_false]
      by_cases h2 : 8 ≤ tag
      · simp [h2]
      rw [show decide (tag ≥ 8) = false by simpa using h2, iteP_false]
      by_cases h3 : size < 1
      · simp [h3]
      rw [show decide (size < 1) = false by simpa using h3, iteP_false, letP_eq]
      by_cases h4 : 64 < size
      · simp [h4]
      rw [show decide (size > 64) = false by simpa using h4, iteP_false, if_neg (by omega)]
      exact tail (by omega)
end Lift
namespace Lift
open Go
theorem td_mul {i k : Nat} (hk : 0 < k) : Int.tdiv ((i * k : Nat) : Int) (k : Int) = (i : Int) := by
  rw [Int.natCast_mul, Int.mul_tdiv_cancel _ (by omega)]
theorem RSplit_eq {fuel : Nat} (hf : 600 < fuel) (to frm : Int) (ow : Bool) (tag size : Int) (xs : List Int) : ref22_Split fuel to frm ow tag size xs = some (splitR to frm ow tag size xs) := by
  unfold ref22_Split splitR
  rw [Endpoint_eq, bindP_some, joinP]
  have tail : ∀ (hb : ¬ (tag < 0 ∨ 8 ≤ tag ∨ size < 1 ∨ 64 < size)),
      (iteP ((xs.length : Int) == 0) (some ([], 1)) (iteP (decide ((xs.length : Int) > 512)) (some ([], 3)) (
        loopP (fun k1 (s3 : (Int × (List Packet_))) => iteP (decide (s3.1 < (xs.length : Int))) (letP (min (IntKind.i64.wrap (s3.1 + size)) (xs.length : Int)) fun x1 => bindP (chk (decide (size ≠ 0))) fun _ => bindP (sub xs s3.1 x1) fun x2 => bindP (ref01_Copy fuel x2) fun y2 =>
          bindP (app 56 s3.2 ([(⟨to, frm, s3.1 == 0, x1 == (xs.length : Int), (Int.tmod (IntKind.i64.wrap (Int.tdiv s3.1 size)) 4), ow, tag, y2⟩ : Packet_)])) fun x3 => letP (IntKind.i64.wrap (s3.1 + size)) fun x4 => k1 (x4, x3)) (some ((s3.2, 0) : List Packet_ × Int))) fuel (0, []))))
      = some (if xs.length = 0 then ([], 1) else if 512 < xs.length then ([], 3) else (pkts to frm ow tag size.toNat xs, 0)) := by
    intro hb
    by_cases h0 : xs.length = 0
    · simp [h0]
    rw [show ((xs.length : Int) == 0) = false from beq_eq_false_iff_ne.2 (by omega), iteP_false, if_neg h0]
    by_cases h5 : 512 < xs.length
    · rw [show decide ((xs.length : Int) > 512) = true by simp; omega, iteP_true, if_pos h5]
    rw [show decide ((xs.length : Int) > 512) = false by simp; omega, iteP_false, if_neg h5]
    obtain ⟨k, hk⟩ : ∃ k : Nat, size = k := ⟨size.toNat, by omega⟩
    subst hk
    have hkp : 0 < k := by omega
    have hle := nsp_le hkp xs
    refine loop_run (fun i => (((i * k : Nat) : Int), (List.range i).map (pkt to frm ow tag k xs))) (nsp k xs) (by simp) (by omega) (fun i hi kk => ?_) (fun kk => ?_)
    · have h1 := (nsp_lt hkp).1 hi
      have hlast := nsp_last hkp h1
      have htd := td_mul (i := i) hkp
      have hps := piece_sub (k := k) (xs := xs) (i := i) h1
      have hz : i * k = 0 ↔ i = 0 := by rw [Nat.mul_eq_zero]; omega
      generalize hp : i * k = p at *
      have hmin : min ((p : Int) + (k : Int)) (xs.length : Int) = min ((p + k : Nat) : Int) (xs.length : Int) := by omega
      rw [show decide ((p : Int) < (xs.length : Int)) = true by simp; omega, iteP_true, wr (by omega), letP_eq, show decide ((k : Int) ≠ 0) = true by simp; omega, chk_true, bindP_some, hmin, hps, bindP_some,
        Copy_eq (by have := piece_small (k := k) (xs := xs) (i := i); omega) (by have := piece_small (k := k) (xs := xs) (i := i); omega), bindP_some, app_ok (by simp; omega), bindP_some, letP_eq, htd, wr (by omega)]
      congr 1
      refine Prod.ext ?_ ?_
      · simp only [Nat.add_mul, Nat.one_mul, hp]; omega
      · simp only [range_snoc, tm4, pkt, List.append_cancel_left_eq, List.cons.injEq, Packet_.mk.injEq, and_true, true_and]
        refine ⟨?_, ?_⟩
        · rw [Bool.eq_iff_iff]; simp; omega
        · rw [Bool.eq_iff_iff]; simp only [beq_iff_eq, decide_eq_true_eq]; rw [hlast]; omega
    · have h1 : ¬ nsp k xs * k < xs.length := fun h => by have := (nsp_lt hkp (xs := xs) (i := nsp k xs)).2 h; omega
      rw [show decide (((nsp k xs * k : Nat) : Int) < (xs.length : Int)) = false by simp; omega, iteP_false]
      simp [pkts]
  cases e1 : endp to with
  | false => simp
  | true =>
    simp only [Bool.not_true, iteP_false]
    rw [Endpoint_eq, bindP_some]
    cases e2 : endp frm with
    | false => simp
    | true =>
      simp only [Bool.not_true, iteP_false, Bool.true_eq_false, false_or, if_false, joinP]
      by_cases h1 : tag < 0
      · simp [h1]
      rw [show decide (tag < 0) = false by simpa using h1, iteP_false]
      by_cases h2 : 8 ≤ tag
      · rw [show decide (tag > 7) = true by simp; omega, iteP_true]; simp [h2]
      rw [show decide (tag > 7) = false by simp; omega, iteP_false]
      by_cases h3 : size < 1
      · simp [h3]
      rw [show decide (size < 1) = false by simpa using h3, iteP_false]
      by_cases h4 : 64 < size
      · simp [h4]
      rw [show decide (size > 64) = false by simpa using h4, iteP_false, if_neg (by omega)]
      exact tail (by omega)
theorem splitR_len {to frm : Int} {ow : Bool} {tag size : Int} {xs : List Int} : (splitR to frm ow tag size xs).1.length ≤ 512 ∧ ∀ p ∈ (splitR to frm ow tag size xs).1, p.Data.length ≤ 512 := by
  unfold splitR
  split
  · simp
  split
  · simp
  split
  · simp
  split
  · simp
  rename_i h1 h2 h3 h4
  have hle := nsp_le (k := size.toNat) (by omega) xs
  refine ⟨by simp [pkts]; omega, fun p hp => ?_⟩
  simp only [pkts, List.mem_map] at hp
  obtain ⟨i, _, rfl⟩ := hp
  have := piece_small (k := size.toNat) (xs := xs) (i := i)
  simp only [pkt]; omega
instance : DecidableEq Packet_ := fun a b => by
  rcases a with ⟨a1, a2, a3, a4, a5, a6, a7, a8⟩
  rcases b with ⟨b1, b2, b3, b4, b5, b6, b7, b8⟩
  rw [Packet_.mk.injEq]; infer_instance
theorem RSame_eq {fuel : Nat} (hf : 600 < fuel) (a b : Packet_) (h : a.Data.length ≤ 512) : ref22_Same fuel a b = some (decide (a = b)) := by
  unfold ref22_Same
  rcases a with ⟨a1, a2, a3, a4, a5, a6, a7, a8⟩
  rcases b with ⟨b1, b2, b3, b4, b5, b6, b7, b8⟩
  simp only at h ⊢
  have key : ∀ {α : Type} [BEq α] [LawfulBEq α] [DecidableEq α] (x y : α) (z : Option Bool) (q : Bool), z = some q → iteP (x == y) z (some false) = some (decide (x = y) && q) := by
    intro α _ _ _ x y z q hz
    by_cases e : x = y
    · subst e; simp [hz]
    · rw [show (x == y) = false by simpa using e, iteP_false]; simp [e]
  rw [Same_eq (by omega) (by omega), bindP_some, key a7 b7 _ _ rfl, key a6 b6 _ _ rfl, key a5 b5 _ _ rfl, key a4 b4 _ _ rfl, key a3 b3 _ _ rfl, key a2 b2 _ _ rfl, key a1 b1 _ _ rfl]
  congr 1
  rw [Bool.eq_iff_iff]
  simp
theorem samePackets_eq {fuel : Nat} (hf : 600 < fuel) (a : List Packet_) (ha : a.length ≤ 512) (h : ∀ p ∈ a, p.Data.length ≤ 512) : law22_samePackets fuel a a = some true := by
  unfold law22_samePackets
  rw [show ((a.length : Int) != (a.length : Int)) = false by simp, iteP_false]
  refine loop_run (fun i => ((i : Nat) : Int)) a.length rfl (by omega) (fun i hi k => ?_) (fun k => ?_)
  · have hx : a[i]? = some (a[i]'hi) := by simp
    rw [show decide ((i : Int) < (a.length : Int)) = true by simp; omega, iteP_true, idx_nat, hx, bindP_some, bindP_some, RSame_eq hf _ _ (h _ (List.getElem_mem hi)), bindP_some]
    simp [wi i (by omega)]
  · simp
end Lift
