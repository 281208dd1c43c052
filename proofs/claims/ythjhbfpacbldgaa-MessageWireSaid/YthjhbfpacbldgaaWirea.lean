/- Packets. No program in sight. Written by wire.py out of other texts. -/
import Derived.Test.YthjhbfpacbldgaaWirec
set_option linter.unusedVariables false
set_option linter.unusedSimpArgs false
namespace Lift
open Go
theorem Ev.eq {α : Type} {x : Option α} {a : α} (h : Ev x (fun y => y = a)) : x = some a := by obtain ⟨y, e, rfl⟩ := h; exact e
theorem pwr {n : Int} (h : -1000000000 ≤ n ∧ n ≤ 1000000000) : IntKind.i64.wrap n = n := w_i64 (by omega) (by omega)
def endp (n : Int) : Bool := decide (8 ≤ n ∧ n ≤ 254)
theorem endpoint_eq (fuel : Nat) (n : Int) : fragment_endpoint fuel n = some (endp n) := by
  unfold fragment_endpoint endp
  by_cases h1 : 8 ≤ n <;> by_cases h2 : n ≤ 254 <;> simp [h1, h2]
/-- How many parts of k bytes there are. -/
def nsp (k : Nat) (xs : List Int) : Nat := (xs.length + k - 1) / k
def piece (k : Nat) (xs : List Int) (i : Nat) : List Int := (xs.drop (i * k)).take k
theorem nsp_lt {k : Nat} (hk : 0 < k) {xs : List Int} {i : Nat} : i < nsp k xs ↔ i * k < xs.length := by
  unfold nsp
  rw [Nat.lt_iff_add_one_le, Nat.le_div_iff_mul_le hk, Nat.add_mul]
  omega
theorem nsp_last {k : Nat} (hk : 0 < k) {xs : List Int} {i : Nat} (h : i * k < xs.length) : i + 1 = nsp k xs ↔ xs.length ≤ i * k + k := by
  have h1 := (nsp_lt hk (xs := xs) (i := i)).2 h
  have h2 := nsp_lt hk (xs := xs) (i := i + 1)
  rw [Nat.add_mul, Nat.one_mul] at h2
  omega
theorem nsp_le {k : Nat} (hk : 0 < k) (xs : List Int) : nsp k xs ≤ xs.length := by
  by_cases h : nsp k xs = 0
  · omega
  · have := (nsp_lt hk (xs := xs) (i := nsp k xs - 1)).1 (by omega)
    have h2 : nsp k xs - 1 ≤ (nsp k xs - 1) * k := Nat.le_mul_of_pos_right _ hk
    omega
theorem nsp_pos {k : Nat} (hk : 0 < k) {xs : List Int} (h : 0 < xs.length) : 0 < nsp k xs := (nsp_lt hk).2 (by simpa using h)
/-- A packet. -/
def pkt (to frm : Int) (ow : Bool) (tag : Int) (k : Nat) (xs : List Int) (i : Nat) : Packet_ := ⟨to, frm, decide (i = 0), decide (i + 1 = nsp k xs), ((i % 4 : Nat) : Int), ow, tag, piece k xs i⟩
def pkt0 (to frm : Int) (ow : Bool) (tag : Int) (k : Nat) (xs : List Int) (i : Nat) : Packet_ := ⟨to, frm, false, false, ((i % 4 : Nat) : Int), ow, tag, piece k xs i⟩
def pkts (to frm : Int) (ow : Bool) (tag : Int) (k : Nat) (xs : List Int) : List Packet_ := (List.range (nsp k xs)).map (pkt to frm ow tag k xs)
def splitR (to frm : Int) (ow : Bool) (tag size : Int) (xs : List Int) : List Packet_ × Int :=
  if endp to = false ∨ endp frm = false then ([], 13) else if tag < 0 ∨ 8 ≤ tag ∨ size < 1 ∨ 64 < size then ([], 2) else if xs.length = 0 then ([], 1) else if 512 < xs.length then ([], 3) else (pkts to frm ow tag size.toNat xs, 0)
theorem piece_sub {k : Nat} {xs : List Int} {i : Nat} (h : i * k < xs.length) : sub xs ((i * k : Nat) : Int) (min ((i * k + k : Nat) : Int) (xs.length : Int)) = some (piece k xs i) := by
  have : min ((i * k + k : Nat) : Int) (xs.length : Int) = ((min (i * k + k) xs.length : Nat) : Int) := by omega
  rw [this, sub_ok (by omega) (by omega), piece]
  congr 1
  by_cases hk : i * k + k ≤ xs.length
  · congr 1; omega
  · rw [List.take_of_length_le (by simp; omega), List.take_of_length_le (by simp; omega)]
theorem piece_len {k : Nat} {xs : List Int} {i : Nat} : (piece k xs i).length = min k (xs.length - i * k) := by simp [piece]
theorem piece_small {k : Nat} {xs : List Int} {i : Nat} : (piece k xs i).length ≤ xs.length := by rw [piece_len]; omega
theorem range_snoc {α : Type} (f : Nat → α) (n : Nat) : (List.range (n + 1)).map f = (List.range n).map f ++ [f n] := by rw [List.range_succ, List.map_append]; rfl
theorem tm4 (i : Nat) : Int.tmod (i : Int) 4 = ((i % 4 : Nat) : Int) := by rw [Int.tmod_eq_emod_of_nonneg (by omega)]; omega
theorem chunk_run {fuel : Nat} {to frm : Int} {ow : Bool} {tag : Int} {k : Nat} {xs : List Int} (hk : 0 < k) (hk2 : k ≤ 64) (hl : xs.length ≤ 512) (hf : 600 < fuel) :
    slices_Chunk_byte_byte_1_2 fuel (fun (s3 : (List Packet_)) (x3 : List Int) => bindP (slices_Clone_byte_byte fuel x3) fun y4 => bindP (app 56 s3 ([(⟨to, frm, false, false, (Int.tmod (s3.length : Int) 4), ow, tag, y4⟩ : Packet_)])) fun x4 => some (x4)) [] xs (k : Int)
      = some ((List.range (nsp k xs)).map (pkt0 to frm ow tag k xs)) := by
  unfold slices_Chunk_byte_byte_1_2
  have hle := nsp_le hk xs
  refine loop_run (fun i => (((i * k : Nat) : Int), (List.range i).map (pkt0 to frm ow tag k xs))) (nsp k xs) (by simp) (by omega) (fun i hi kk => ?_) (fun kk => ?_)
  · have h1 := (nsp_lt hk).1 hi
    have h2 : sub xs ((i * k : Nat) : Int) ((xs.length : Nat) : Int) = some (xs.drop (i * k)) := by rw [sub_ok (by omega) (by omega), List.take_of_length_le (by simp)]
    have hb : i * k ≤ 512 := by omega
    generalize hp : i * k = p at *
    rw [show decide ((p : Int) < (xs.length : Int)) = true by simp; omega, iteP_true]
    rw [h2, bindP_some, letP_eq]
    have hm : min (k : Int) ((xs.drop p).length : Int) = ((min k (xs.length - p) : Nat) : Int) := by simp; omega
    simp only [hm]
    rw [pwr (by omega)]
    have h3 : sub xs (p : Int) ((p : Int) + ((min k (xs.length - p) : Nat) : Int)) = some (piece k xs i) := by
      have := piece_sub (k := k) (xs := xs) (i := i) (by omega)
      rw [hp] at this
      rw [← this]; congr 1; omega
    rw [h3, bindP_some, clone_eq (by have := piece_small (k := k) (xs := xs) (i := i); omega), bindP_some, app_ok (by simp; omega), bindP_some, bindP_some, letP_eq, pwr (by omega)]
    congr 1
    refine Prod.ext ?_ ?_
    · simp only [Nat.add_mul, Nat.one_mul, hp]; omega
    · simp only [range_snoc, List.length_map, List.length_range, tm4, pkt0]
  · have h1 : ¬ nsp k xs * k < xs.length := fun h => by have := (nsp_lt hk (xs := xs) (i := nsp k xs)).2 h; omega
    rw [show decide (((nsp k xs * k : Nat) : Int) < (xs.length : Int)) = false by simp; omega, iteP_false]
theorem marks {to frm : Int} {ow : Bool} {tag : Int} {k : Nat} {xs : List Int} (hk : 0 < k) (hx : 0 < xs.length) {x0 x1 : Packet_} (h0 : ((List.range (nsp k xs)).map (pkt0 to frm ow tag k xs))[0]? = some x0)
    (h1 : (((List.range (nsp k xs)).map (pkt0 to frm ow tag k xs)).set 0 { x0 with Start := true })[nsp k xs - 1]? = some x1) : ((((List.range (nsp k xs)).map (pkt0 to frm ow tag k xs)).set 0 { x0 with Start := true }).set (nsp k xs - 1) { x1 with End := true }) = pkts to frm ow tag k xs := by
  have hp := nsp_pos hk hx
  have e0 : pkt0 to frm ow tag k xs 0 = x0 := by simpa [List.getElem?_map, List.getElem?_range hp] using h0
  apply List.ext_getElem?
  intro j
  by_cases hj : j < nsp k xs
  · rw [List.getElem?_set]
    by_cases hl : nsp k xs - 1 = j
    · rw [if_pos hl, if_pos (by simp; omega)]
      rw [hl, List.getElem?_set] at h1
      simp only [pkts, List.getElem?_map, List.getElem?_range hj, Option.map_some]
      by_cases hz : 0 = j
      · rw [if_pos hz, if_pos (by simp; omega)] at h1
        simp only [Option.some.injEq] at h1
        rw [← h1, ← e0, ← hz]
        simp only [pkt0, pkt, Option.some.injEq, Packet_.mk.injEq, and_self, true_and, and_true, decide_true]
        simp; omega
      · rw [if_neg hz] at h1
        simp only [List.getElem?_map, List.getElem?_range hj, Option.map_some, Option.some.injEq] at h1
        rw [← h1]
        simp only [pkt0, pkt, Option.some.injEq, Packet_.mk.injEq, and_self, true_and, and_true]
        simp; omega
    · rw [if_neg hl, List.getElem?_set]
      simp only [pkts, List.getElem?_map, List.getElem?_range hj, Option.map_some]
      by_cases hz : 0 = j
      · rw [if_pos hz, if_pos (by simp; omega), ← e0, ← hz]
        simp only [pkt0, pkt, Option.some.injEq, Packet_.mk.injEq, and_self, true_and, and_true]
        simp; omega
      · rw [if_neg hz]
        simp only [pkt0, pkt, Option.some.injEq, Packet_.mk.injEq, and_self, true_and, and_true]
        simp; omega
  · rw [List.getElem?_eq_none (by simp; omega), List.getElem?_eq_none (by simp [pkts]; omega)]
theorem Split_eq {fuel : Nat} (hf : 600 < fuel) (to frm : Int) (ow : Bool) (tag size : Int) (xs : List Int) : fragment_Split fuel to frm ow tag size xs = some (splitR to frm ow tag size xs) := by
  unfold fragment_Split splitR
  rw [endpoint_eq, bindP_some, joinP]
  have tail : ∀ (hb : ¬ (tag < 0 ∨ 8 ≤ tag ∨ size < 1 ∨ 64 < size)),
      (letP ((xs.length : Int) == 0) fun x1 => iteP x1 (some ([], 1)) (letP (decide ((xs.length : Int) > 512)) fun x2 => iteP x2 (some ([], 3)) (
        bindP (slices_Chunk_byte_byte fuel xs size) fun y2 =>
        bindP (slices_Chunk_byte_byte_1_2 fuel (fun (s3 : ((List Packet_))) (x3 : List Int) => bindP (slices_Clone_byte_byte fuel x3) fun y4 => bindP (app 56 s3 ([(⟨to, frm, false, false, (Int.tmod (s3.length : Int) 4), ow, tag, y4⟩ : Packet_)])) fun x4 => some (x4)) ([]) y2.1 y2.2) fun y3 =>
        bindP (idx y3 0) fun x5 => letP (upd y3 0 ({ x5 with Start := true })) fun d1 => bindP (idx d1 (IntKind.i64.wrap ((y3.length : Int) - 1))) fun x6 =>
        letP (upd d1 (IntKind.i64.wrap ((y3.length : Int) - 1)) ({ x6 with End := true })) fun d2 => some ((d2, 0) : List Packet_ × Int))))
      = some (if xs.length = 0 then ([], 1) else if 512 < xs.length then ([], 3) else (pkts to frm ow tag size.toNat xs, 0)) := by
    intro hb
    rw [letP_eq]
    by_cases h0 : xs.length = 0
    · simp [h0]
    rw [show ((xs.length : Int) == 0) = false from beq_eq_false_iff_ne.2 (by omega), iteP_false, if_neg h0, letP_eq]
    by_cases h5 : 512 < xs.length
    · rw [show decide ((xs.length : Int) > 512) = true by simp; omega, iteP_true, if_pos h5]
    rw [show decide ((xs.length : Int) > 512) = false by simp; omega, iteP_false, if_neg h5]
    obtain ⟨k, hk⟩ : ∃ k : Nat, size = k := ⟨size.toNat, by omega⟩
    subst hk
    unfold slices_Chunk_byte_byte
    rw [show decide ((k : Int) < 1) = false by simp; omega, iteP_false, bindP_some]
    dsimp only
    have hkp : 0 < k := by omega
    have hp := nsp_pos hkp (xs := xs) (by omega)
    have hle := nsp_le hkp xs
    rw [chunk_run hkp (by omega) (by omega) hf, bindP_some]
    obtain ⟨x0, hx0⟩ : ∃ x0, ((List.range (nsp k xs)).map (pkt0 to frm ow tag k xs))[0]? = some x0 := ⟨_, List.getElem?_eq_getElem (by simp; omega)⟩
    have i0 : idx ((List.range (nsp k xs)).map (pkt0 to frm ow tag k xs)) 0 = some x0 := (idx_nat _ 0).trans hx0
    rw [i0, bindP_some, letP_eq]
    have hw : IntKind.i64.wrap ((((List.range (nsp k xs)).map (pkt0 to frm ow tag k xs)).length : Int) - 1) = ((nsp k xs - 1 : Nat) : Int) := by
      rw [pwr (by simp; omega)]; simp; omega
    simp only [hw]
    obtain ⟨x1, hx1⟩ : ∃ x1, (((List.range (nsp k xs)).map (pkt0 to frm ow tag k xs)).set 0 { x0 with Start := true })[nsp k xs - 1]? = some x1 := ⟨_, List.getElem?_eq_getElem (by simp; omega)⟩
    have hu : upd ((List.range (nsp k xs)).map (pkt0 to frm ow tag k xs)) 0 { x0 with Start := true } = ((List.range (nsp k xs)).map (pkt0 to frm ow tag k xs)).set 0 { x0 with Start := true } := rfl
    rw [hu, idx_nat, hx1, bindP_some, letP_eq]
    have hm := marks hkp (by omega) hx0 hx1
    have hu2 : ∀ z : Packet_, upd (((List.range (nsp k xs)).map (pkt0 to frm ow tag k xs)).set 0 { x0 with Start := true }) ((nsp k xs - 1 : Nat) : Int) z = (((List.range (nsp k xs)).map (pkt0 to frm ow tag k xs)).set 0 { x0 with Start := true }).set (nsp k xs - 1) z := fun z => by simp [upd]
    rw [hu2, hm]; simp
  cases e1 : endp to with
  | false => simp
  | true =>
    simp only [Bool.not_true, iteP_false]
    rw [endpoint_eq, bindP_some, letP_eq]
    cases e2 : endp frm with
    | false => simp
    | true =>
      simp only [Bool.not_true, iteP_false, Bool.true_eq_false, false_or, if_false, joinP]
      by_cases h1 : tag < 0
      · simp [h1]
      rw [show decide (tag < 0) = false by simpa using h1, iteP_false]
      by_cases h2 : 8 ≤ tag
      · simp [h2]
      rw [show decide (tag ≥ 8) = false by simpa using h2, iteP_false]
      by_cases h3 : size < 1
      · simp [h3]
      rw [show decide (size < 1) = false by simpa using h3, iteP_false, letP_eq]
      by_cases h4 : 64 < size
      · simp [h4]
      rw [show decide (size > 64) = false by simpa using h4, iteP_false, if_neg (by omega)]
      exact tail (by omega)
theorem td_mul {i k : Nat} (hk : 0 < k) : Int.tdiv ((i * k : Nat) : Int) (k : Int) = (i : Int) := by
  rw [Int.natCast_mul, Int.mul_tdiv_cancel _ (by omega)]
theorem splitR_len {to frm : Int} {ow : Bool} {tag size : Int} {xs : List Int} : (splitR to frm ow tag size xs).1.length ≤ 512 ∧ ∀ p ∈ (splitR to frm ow tag size xs).1, p.Data.length ≤ 512 := by
  unfold splitR
  split
  · simp
  split
  · simp
  split
  · simp
  split
  · simp
  rename_i h1 h2 h3 h4
  have hle := nsp_le (k := size.toNat) (by omega) xs
  refine ⟨by simp [pkts]; omega, fun p hp => ?_⟩
  simp only [pkts, List.mem_map] at hp
  obtain ⟨i, _, rfl⟩ := hp
  have := piece_small (k := size.toNat) (xs := xs) (i := i)
  simp only [pkt]; omega
instance : DecidableEq Packet_ := fun a b => by
  rcases a with ⟨a1, a2, a3, a4, a5, a6, a7, a8⟩
  rcases b with ⟨b1, b2, b3, b4, b5, b6, b7, b8⟩
  rw [Packet_.mk.injEq]; infer_instance
def vnum (p : Packet_) : Bool := decide (0 ≤ p.Sequence ∧ p.Sequence < 4 ∧ 0 ≤ p.Tag ∧ p.Tag < 8 ∧ 1 ≤ p.Data.length ∧ p.Data.length ≤ 64)
def pvalidB (p : Packet_) : Bool := endp p.To && (endp p.From && vnum p)
theorem fragValid_eq (fuel : Nat) (p : Packet_) : fragment_Valid fuel p = some (pvalidB p) := by
  unfold fragment_Valid pvalidB vnum
  rw [endpoint_eq, bindP_some]
  cases endp p.To with
  | false => simp
  | true =>
    rw [iteP_true, endpoint_eq, bindP_some]
    cases endp p.From with
    | false => simp
    | true =>
      rw [iteP_true]
      have e5 : decide ((p.Data.length : Int) ≥ 1) = decide (1 ≤ p.Data.length) := decide_eq_decide.2 (by omega)
      have e6 : decide ((p.Data.length : Int) ≤ 64) = decide (p.Data.length ≤ 64) := decide_eq_decide.2 (by omega)
      rw [e5, e6]
      generalize p.Data.length = n
      by_cases h1 : 0 ≤ p.Sequence <;> by_cases h2 : p.Sequence < 4 <;> by_cases h3 : 0 ≤ p.Tag <;> by_cases h4 : p.Tag < 8 <;> by_cases h5 : 1 ≤ n <;> by_cases h6 : n ≤ 64 <;> simp [h1, h2, h3, h4, h5, h6]
theorem validB_num {p : Packet_} (h : pvalidB p = true) : 0 ≤ p.Sequence ∧ p.Sequence < 4 ∧ 0 ≤ p.Tag ∧ p.Tag < 8 ∧ 1 ≤ p.Data.length ∧ p.Data.length ≤ 64 := by
  simp only [pvalidB, vnum, Bool.and_eq_true, decide_eq_true_eq] at h
  exact h.2.2
theorem endp_rg {n : Int} (h : endp n = true) : 8 ≤ n ∧ n ≤ 254 := by simpa [endp] using h
def pfl1 (b : Bool) (m : Int) : Int := if b then m else 0
def pflags (s e o : Bool) (q t : Int) : Int := pfl1 s 128 + pfl1 e 64 + 16 * q + pfl1 o 8 + t
def orB (b : Bool) (x m : Int) : Int := if b then bOr .u8 x m else x
theorem flags_or : ∀ (q : Fin 4) (t : Fin 8) (s e o : Bool), orB o (orB e (orB s (IntKind.u8.wrap (IntKind.i64.wrap ((IntKind.i64.wrap (16 * ((q.val : Nat) : Int))) + ((t.val : Nat) : Int)))) 128) 64) 8 = pflags s e o ((q.val : Nat) : Int) ((t.val : Nat) : Int) := by decide +kernel
theorem flags_dec : ∀ (q : Fin 4) (t : Fin 8) (s e o : Bool), let x := pflags s e o ((q.val : Nat) : Int) ((t.val : Nat) : Int);
    0 ≤ x ∧ x ≤ 255 ∧ (x / 128 == 1) = s ∧ (x / 64 % 2 == 1) = e ∧ x / 16 % 4 = ((q.val : Nat) : Int) ∧ (x / 8 % 2 == 1) = o ∧ x % 8 = ((t.val : Nat) : Int) := by decide +kernel
theorem dec_and : ∀ (x : Fin 256), let v : Int := ((x.val : Nat) : Int);
    ((bAnd .u8 v 128) != 0) = (v / 128 == 1) ∧ ((bAnd .u8 v 64) != 0) = (v / 64 % 2 == 1) ∧ IntKind.i64.wrap (Int.tmod (IntKind.u8.wrap (Int.tdiv v 16)) 4) = v / 16 % 4 ∧ ((bAnd .u8 v 8) != 0) = (v / 8 % 2 == 1) ∧ IntKind.i64.wrap (Int.tmod v 8) = v % 8 := by decide +kernel
theorem dec_ref : ∀ (x : Fin 256), let v : Int := ((x.val : Nat) : Int);
    (IntKind.i64.wrap (Int.tdiv (IntKind.i64.wrap v) 128) == 1) = (v / 128 == 1) ∧ ((Int.tmod (IntKind.i64.wrap (Int.tdiv (IntKind.i64.wrap v) 64)) 2) == 1) = (v / 64 % 2 == 1) ∧ (Int.tmod (IntKind.i64.wrap (Int.tdiv (IntKind.i64.wrap v) 16)) 4) = v / 16 % 4 ∧ ((Int.tmod (IntKind.i64.wrap (Int.tdiv (IntKind.i64.wrap v) 8)) 2) == 1) = (v / 8 % 2 == 1) ∧ (Int.tmod (IntKind.i64.wrap v) 8) = v % 8 := by decide +kernel
theorem enc_dec : ∀ (x : Fin 256), let v : Int := ((x.val : Nat) : Int); pflags (v / 128 == 1) (v / 64 % 2 == 1) (v / 8 % 2 == 1) (v / 16 % 4) (v % 8) = v ∧ 0 ≤ v / 16 % 4 ∧ v / 16 % 4 < 4 ∧ 0 ≤ v % 8 ∧ v % 8 < 8 := by decide +kernel
def encR (p : Packet_) : List Int × Int := if pvalidB p = true then ([1, p.To, p.From, pflags p.Start p.End p.Owner p.Sequence p.Tag] ++ p.Data, 0) else ([], 1)
theorem fragEncode_eq {fuel : Nat} (hf : 10 < fuel) (p : Packet_) : fragment_Encode fuel p = some (encR p) := by
  unfold fragment_Encode encR
  rw [fragValid_eq, bindP_some]
  cases hv : pvalidB p with
  | false => simp
  | true =>
    obtain ⟨h1, h2, h3, h4, h5, h6⟩ := validB_num hv
    simp only [Bool.not_true, iteP_false, letP_eq, if_true]
    obtain ⟨q, hq⟩ : ∃ q : Fin 4, p.Sequence = ((q.val : Nat) : Int) := ⟨⟨p.Sequence.toNat, by omega⟩, by simp; omega⟩
    obtain ⟨t, ht⟩ : ∃ t : Fin 8, p.Tag = ((t.val : Nat) : Int) := ⟨⟨p.Tag.toNat, by omega⟩, by simp; omega⟩
    have hfl := flags_or q t p.Start p.End p.Owner
    rw [← hq, ← ht] at hfl
    obtain ⟨f, rfl⟩ : ∃ f, fuel = f + 1 + 1 + 1 + 1 := ⟨fuel - 4, by omega⟩
    have w0 : IntKind.i64.wrap (0 + 1) = 1 := by decide
    have w1 : IntKind.i64.wrap (1 + 1) = 2 := by decide
    have w2 : IntKind.i64.wrap (2 + 1) = 3 := by decide
    have i0 : ∀ (a b c : Anon_af38c4), idx [a, b, c] 0 = some a := fun _ _ _ => rfl
    have i1 : ∀ (a b c : Anon_af38c4), idx [a, b, c] 1 = some b := fun _ _ _ => rfl
    have i2 : ∀ (a b c : Anon_af38c4), idx [a, b, c] 2 = some c := fun _ _ _ => rfl
    have d0 : decide ((0 : Int) < (([(⟨p.Start, 128⟩ : Anon_af38c4), (⟨p.End, 64⟩ : Anon_af38c4), (⟨p.Owner, 8⟩ : Anon_af38c4)]).length : Int)) = true := by simp
    have d1 : decide ((1 : Int) < (([(⟨p.Start, 128⟩ : Anon_af38c4), (⟨p.End, 64⟩ : Anon_af38c4), (⟨p.Owner, 8⟩ : Anon_af38c4)]).length : Int)) = true := by simp
    have d2 : decide ((2 : Int) < (([(⟨p.Start, 128⟩ : Anon_af38c4), (⟨p.End, 64⟩ : Anon_af38c4), (⟨p.Owner, 8⟩ : Anon_af38c4)]).length : Int)) = true := by simp
    have d3 : decide ((3 : Int) < (([(⟨p.Start, 128⟩ : Anon_af38c4), (⟨p.End, 64⟩ : Anon_af38c4), (⟨p.Owner, 8⟩ : Anon_af38c4)]).length : Int)) = false := by simp
    have key : ∀ (b : Bool) (x m : Int) (k : Int → Option (List Int × Int)), iteP b (k (bOr .u8 x m)) (k x) = k (orB b x m) := by intro b x m k; cases b <;> rfl
    simp only [loopP, d0, d1, d2, d3, iteP_true, iteP_false, i0, i1, i2, bindP_some, w0, w1, w2]
    have fin : ∀ y : Int, (bindP (app 1 [1, p.To, p.From, y] p.Data) fun x3 => some ((x3, 0) : List Int × Int)) = some ([1, p.To, p.From, y] ++ p.Data, 0) := fun y => by rw [app_ok (by simp; omega), bindP_some]
    simp only [fin]
    rw [← hfl]
    cases p.Start <;> cases p.End <;> cases p.Owner <;> rfl
def decR (b : List Int) : Packet_ × Int := match b with
  | x0 :: x1 :: x2 :: x3 :: y :: r => if x0 ≠ 1 then (Packet_.z, 6) else if endp x1 = false ∨ endp x2 = false then (Packet_.z, 13) else if 64 < (y :: r).length then (Packet_.z, 3) else
      (⟨x1, x2, x3 / 128 == 1, x3 / 64 % 2 == 1, x3 / 16 % 4, x3 / 8 % 2 == 1, x3 % 8, y :: r⟩, 0)
  | _ => (Packet_.z, 4)
theorem fragDecode_eq {fuel : Nat} (hf : 600 < fuel) {b : List Int} (hl : b.length ≤ 500) (hb : ∀ x ∈ b, byte x) : fragment_Decode fuel b = some (decR b) := by
  unfold fragment_Decode
  rw [letP_eq]
  match b, hl, hb with
  | [], _, _ => rfl
  | [_], _, _ => rfl
  | [_, _], _, _ => rfl
  | [_, _, _], _, _ => rfl
  | [_, _, _, _], _, _ => rfl
  | x0 :: x1 :: x2 :: x3 :: y :: r, hl, hb =>
    have e0 : idx (x0 :: x1 :: x2 :: x3 :: y :: r) 0 = some x0 := rfl
    have e1 : idx (x0 :: x1 :: x2 :: x3 :: y :: r) 1 = some x1 := rfl
    have e2 : idx (x0 :: x1 :: x2 :: x3 :: y :: r) 2 = some x2 := rfl
    have e3 : idx (x0 :: x1 :: x2 :: x3 :: y :: r) 3 = some x3 := rfl
    have e4 : sub (x0 :: x1 :: x2 :: x3 :: y :: r) 4 (((x0 :: x1 :: x2 :: x3 :: y :: r).length : Nat) : Int) = some (y :: r) := sub_drop (by omega) (by simp; omega)
    rw [show decide (((x0 :: x1 :: x2 :: x3 :: y :: r).length : Int) ≤ 4) = false by simp; omega, iteP_false, e0, bindP_some, letP_eq]
    simp only [decR]
    by_cases h0 : x0 = 1
    · rw [show (x0 != 1) = false by simp [h0], iteP_false, if_neg (by simp [h0]), e1, bindP_some, endpoint_eq, bindP_some, joinP]
      cases p1 : endp x1 with
      | false => simp
      | true =>
        simp only [Bool.not_true, iteP_false]
        rw [e2, bindP_some, endpoint_eq, bindP_some, letP_eq]
        cases p2 : endp x2 with
        | false => simp
        | true =>
          simp only [Bool.not_true, iteP_false, Bool.true_eq_false, or_self, if_false]
          rw [pwr (by simp at hl ⊢; omega), letP_eq]
          by_cases h6 : 64 < (y :: r).length
          · rw [show decide (((x0 :: x1 :: x2 :: x3 :: y :: r).length : Int) - 4 > 64) = true by simp at h6 ⊢; omega, iteP_true, if_pos h6]
          · rw [show decide (((x0 :: x1 :: x2 :: x3 :: y :: r).length : Int) - 4 > 64) = false by simp at h6 ⊢; omega, iteP_false, if_neg h6, e3, bindP_some, bindP_some, bindP_some, e4, bindP_some, clone_eq (by simp at hl ⊢; omega), bindP_some]
            have hx3 := hb x3 (by simp)
            obtain ⟨v, hv⟩ : ∃ v : Fin 256, x3 = ((v.val : Nat) : Int) := ⟨⟨x3.toNat, by have := hx3.1; have := hx3.2; omega⟩, by have := hx3.1; simp; omega⟩
            obtain ⟨q1, q2, q3, q4, q5⟩ := dec_and v
            rw [hv]
            simp only [q1, q2, q3, q4, q5]
    · rw [show (x0 != 1) = true by simpa using h0, iteP_true, if_pos h0]
/-- A packet survives its bytes. -/
theorem dec_enc {p : Packet_} (h : pvalidB p = true) : decR (encR p).1 = (p, 0) := by
  obtain ⟨h1, h2, h3, h4, h5, h6⟩ := validB_num h
  have hv := h
  simp only [pvalidB, Bool.and_eq_true] at hv
  obtain ⟨v1, v2, _⟩ := hv
  simp only [encR, h, if_true]
  obtain ⟨q, hq⟩ : ∃ q : Fin 4, p.Sequence = ((q.val : Nat) : Int) := ⟨⟨p.Sequence.toNat, by omega⟩, by simp; omega⟩
  obtain ⟨t, ht⟩ : ∃ t : Fin 8, p.Tag = ((t.val : Nat) : Int) := ⟨⟨p.Tag.toNat, by omega⟩, by simp; omega⟩
  obtain ⟨_, _, d1, d2, d3, d4, d5⟩ := flags_dec q t p.Start p.End p.Owner
  rw [← hq, ← ht] at d1 d2 d3 d4 d5
  rcases p with ⟨a1, a2, a3, a4, a5, a6, a7, a8⟩
  simp only at *
  cases a8 with
  | nil => simp at h5
  | cons y r => simp only [List.cons_append, List.nil_append, decR, v1, v2, d1, d2, d3, d4, d5]; simp at h6 ⊢; omega
theorem enc_of_dec {b : List Int} (hb : ∀ x ∈ b, byte x) (h : (decR b).2 = 0) : encR (decR b).1 = (b, 0) := by
  match b, hb, h with
  | [], _, h => simp [decR] at h
  | [_], _, h => simp [decR] at h
  | [_, _], _, h => simp [decR] at h
  | [_, _, _], _, h => simp [decR] at h
  | [_, _, _, _], _, h => simp [decR] at h
  | x0 :: x1 :: x2 :: x3 :: y :: r, hb, h =>
    simp only [decR] at h ⊢
    by_cases h0 : x0 ≠ 1
    · rw [if_pos h0] at h; simp [decR] at h
    rw [if_neg h0] at h ⊢
    by_cases h1 : endp x1 = false ∨ endp x2 = false
    · rw [if_pos h1] at h; simp [decR] at h
    rw [if_neg h1] at h ⊢
    by_cases h6 : 64 < (y :: r).length
    · rw [if_pos h6] at h; simp [decR] at h
    rw [if_neg h6] at h ⊢
    have hx3 := hb x3 (by simp)
    obtain ⟨v, hv⟩ : ∃ v : Fin 256, x3 = ((v.val : Nat) : Int) := ⟨⟨x3.toNat, by have := hx3.1; have := hx3.2; omega⟩, by have := hx3.1; simp; omega⟩
    obtain ⟨q1, q2, q3, q4, q5⟩ := enc_dec v
    rw [← hv] at q1 q2 q3 q4 q5
    have p1 : endp x1 = true := by cases h : endp x1; exact absurd (.inl h) h1; rfl
    have p2 : endp x2 = true := by cases h : endp x2; exact absurd (.inr h) h1; rfl
    have hval : pvalidB ⟨x1, x2, x3 / 128 == 1, x3 / 64 % 2 == 1, x3 / 16 % 4, x3 / 8 % 2 == 1, x3 % 8, y :: r⟩ = true := by
      simp only [pvalidB, vnum, p1, p2, Bool.true_and, decide_eq_true_eq]
      exact ⟨q2, q3, q4, q5, by simp, by omega⟩
    simp only [encR, hval, if_true, q1, List.cons_append, List.nil_append, Prod.mk.injEq, and_true, List.cons.injEq, true_and]
    omega
theorem decR_small {b : List Int} (h : b.length ≤ 500) : (decR b).1.Data.length ≤ 500 := by
  match b, h with
  | [], _ => simp [decR, Packet_.z]
  | [_], _ => simp [decR, Packet_.z]
  | [_, _], _ => simp [decR, Packet_.z]
  | [_, _, _], _ => simp [decR, Packet_.z]
  | [_, _, _, _], _ => simp [decR, Packet_.z]
  | x0 :: x1 :: x2 :: x3 :: y :: r, h =>
    simp only [decR]
    split
    · simp [Packet_.z]
    split
    · simp [Packet_.z]
    split
    · simp [Packet_.z]
    simp at h ⊢; omega
theorem encR_len {p : Packet_} (h : p.Data.length ≤ 400) : (encR p).1.length ≤ 500 := by
  unfold encR; split <;> simp; omega
theorem encR_byte {p : Packet_} (h : pvalidB p = true) (hd : ∀ x ∈ p.Data, byte x) : ∀ x ∈ (encR p).1, byte x := by
  obtain ⟨h1, h2, h3, h4, h5, h6⟩ := validB_num h
  have hv := h
  simp only [pvalidB, Bool.and_eq_true] at hv
  obtain ⟨v1, v2, _⟩ := hv
  have r1 := endp_rg v1
  have r2 := endp_rg v2
  obtain ⟨q, hq⟩ : ∃ q : Fin 4, p.Sequence = ((q.val : Nat) : Int) := ⟨⟨p.Sequence.toNat, by omega⟩, by simp; omega⟩
  obtain ⟨t, ht⟩ : ∃ t : Fin 8, p.Tag = ((t.val : Nat) : Int) := ⟨⟨p.Tag.toNat, by omega⟩, by simp; omega⟩
  obtain ⟨f1, f2, _⟩ := flags_dec q t p.Start p.End p.Owner
  rw [← hq, ← ht] at f1 f2
  simp only [encR, h, if_true]
  intro x hx
  simp only [List.cons_append, List.nil_append, List.mem_cons] at hx
  rcases hx with rfl | rfl | rfl | rfl | hx
  · exact ⟨by decide, by decide⟩
  · exact ⟨by omega, by omega⟩
  · exact ⟨by omega, by omega⟩
  · exact ⟨f1, f2⟩
  · exact hd x hx
end Lift
