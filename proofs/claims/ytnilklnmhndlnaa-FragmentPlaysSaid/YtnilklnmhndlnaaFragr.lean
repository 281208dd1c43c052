/- The document's assembler: closed forms. No program in sight. -/
import Derived.Test.YtnilklnmhndlnaaDicedq
set_option linter.unusedVariables false
set_option linter.unusedSimpArgs false
namespace Lift
open Go
def toI (o : fragment_open) : ref22_Item := ⟨o.whole, o.size, (o.last + 1) % 4⟩
def refOf (a : fragment_Assembler) : ref22_Assembler := ⟨a.own, a.open_.map toI⟩
theorem RNew_eq (fuel : Nat) (n : Int) : ref22_New fuel n = some (if endp n = false then (none, 13) else (some (refOf ⟨n, []⟩), 0)) := by
  unfold ref22_New
  rw [Endpoint_eq, bindP_some]
  cases endp n <;> rfl
theorem idx_map {l : List fragment_open} {i : Nat} {o : fragment_open} (h : l[i]? = some o) : idx (l.map toI) (i : Int) = some (toI o) := by rw [idx_nat, List.getElem?_map, h]; rfl
theorem Rfind_eq {fuel : Nat} {a : fragment_Assembler} {p : Packet_} (hl : a.open_.length ≤ 64) (hf : 100 < fuel) : ref22_Assembler_find fuel (refOf a) p = some (ffind a.open_ p) := by
  unfold ref22_Assembler_find
  exact find_loop (l := a.open_) (p := fkey p) (fun i x hx k => by
      have hi := lt_len hx
      have hlen : ((refOf a).Items.length : Int) = (a.open_.length : Int) := by simp [refOf]
      rw [hlen, show decide ((i : Int) < (a.open_.length : Int)) = true by simp; omega, iteP_true]
      rw [show (refOf a).Items = a.open_.map toI from rfl, idx_map hx, bindP_some, joinP]
      simp only [toI, fkey, letP_eq, wi i (by omega)]
      have key : ∀ (x1 x2 x3 : Bool) (u v : Option Int), iteP x1 (iteP x2 (iteP x3 u v) (iteP false u v)) (iteP false u v) = if (x1 && (x2 && x3)) = true then u else v := by intro x1 x2 x3 u v; cases x1 <;> cases x2 <;> cases x3 <;> rfl
      exact key _ _ _ _ _) (fun k => by simp [refOf]) fuel 0 (by omega) (by omega)
theorem Rdrop_eq {fuel : Nat} {r : ref22_Assembler} {i : Nat} (hi : i < r.Items.length) (hl : r.Items.length ≤ 64) (hf : 100 < fuel) : ref22_Assembler_drop fuel r (i : Int) = some { r with Items := fdel r.Items i } := by
  unfold ref22_Assembler_drop
  refine loop_run (fun j => ((j : Int), if j ≤ i then r.Items.take j else r.Items.take i ++ (r.Items.take j).drop (i + 1))) r.Items.length (by simp) (by omega) (fun j hj k => ?_) (fun k => ?_)
  · have hx : r.Items[j]? = some (r.Items[j]'hj) := by simp
    rw [show decide ((j : Int) < (r.Items.length : Int)) = true by simp; omega, iteP_true]
    have hlen : (if j ≤ i then r.Items.take j else r.Items.take i ++ (r.Items.take j).drop (i + 1)).length ≤ 64 := by split <;> simp <;> omega
    rcases Nat.lt_trichotomy j i with h | h | h
    · rw [show ((j : Int) != (i : Int)) = true by simp; omega, iteP_true, idx_nat, hx, bindP_some, app_ok (by simp only [List.length_cons, List.length_nil]; omega), bindP_some, letP_eq, wi j (by omega)]
      rw [if_pos (by omega), if_pos (by omega), List.take_add_one, hx]; rfl
    · subst h
      rw [show ((j : Int) != (j : Int)) = false by simp, iteP_false, letP_eq, wi j (by omega)]
      rw [if_pos (Nat.le_refl _), if_neg (by omega)]
      have : (r.Items.take (j + 1)).drop (j + 1) = [] := List.drop_eq_nil_of_le (by simp; omega)
      rw [this, List.append_nil]; rfl
    · rw [show ((j : Int) != (i : Int)) = true by simp; omega, iteP_true, idx_nat, hx, bindP_some, app_ok (by simp only [List.length_cons, List.length_nil]; omega), bindP_some, letP_eq, wi j (by omega)]
      rw [if_neg (by omega), if_neg (by omega), List.take_add_one, hx]
      have : (r.Items.take j ++ (some (r.Items[j]'hj)).toList).drop (i + 1) = (r.Items.take j).drop (i + 1) ++ [r.Items[j]'hj] := by
        rw [List.drop_append_of_le_length (by simp; omega)]; rfl
      rw [this, List.append_assoc]; rfl
  · rw [show decide ((r.Items.length : Int) < (r.Items.length : Int)) = false by simp, iteP_false, if_neg (by omega), List.take_length]; rfl
theorem Rdrop_ref {fuel : Nat} {a : fragment_Assembler} {i : Nat} (hi : i < a.open_.length) (hl : a.open_.length ≤ 64) (hf : 100 < fuel) : ref22_Assembler_drop fuel (refOf a) (i : Int) = some (refOf { a with open_ := fdel a.open_ i }) := by
  rw [Rdrop_eq (by simpa [refOf] using hi) (by simpa [refOf] using hl) hf]
  simp only [refOf, fdel_map]
theorem RAccept_eq {fuel : Nat} (hf : 600 < fuel) {a : fragment_Assembler} (h : AR a) (p : Packet_) : ref22_Assembler_Accept fuel (refOf a) p = some ((acc a p).1, (acc a p).2.1, (acc a p).2.2.1, refOf (acc a p).2.2.2) := by
  have hle := h.le
  unfold ref22_Assembler_Accept acc
  rw [RValid_eq, bindP_some]
  cases hv : validB p with
  | false => simp
  | true =>
    obtain ⟨v1, v2, v3, v4, v5, v6⟩ := validB_num hv
    simp only [Bool.not_true, iteP_false, Bool.true_eq_false, if_false]
    rw [show (refOf a).Own = a.own from rfl]
    by_cases hto : p.To = a.own
    · rw [show (p.To != a.own) = false by simp [hto], iteP_false, if_neg (by simp [hto]), Rfind_eq (by omega) (by omega), bindP_some]
      cases hS : p.Start with
      | true =>
        rw [iteP_true, joinP, if_pos rfl]
        have tail : ∀ l : List fragment_open, l.length ≤ 8 → (bindP (ref01_Copy fuel p.Data) fun y3 => iteP p.End (some (((⟨p.From, p.Owner, p.Tag, y3⟩ : Whole_), true, 0, refOf { a with open_ := l }) : Whole_ × Bool × Int × ref22_Assembler)) (
            joinP (fun (s2 : ref22_Assembler) => bindP (app 56 s2.Items ([(⟨(⟨p.From, p.Owner, p.Tag, y3⟩ : Whole_), (p.Data.length : Int), (Int.tmod (IntKind.i64.wrap (p.Sequence + 1)) 4)⟩ : ref22_Item)])) fun x1 => some (Whole_.z, false, 0, { s2 with Items := x1 })) fun j2 =>
            iteP (decide (((refOf { a with open_ := l }).Items.length : Int) ≥ 8)) (bindP (ref22_Assembler_drop fuel (refOf { a with open_ := l }) 0) fun y4 => j2 (y4)) (j2 (refOf { a with open_ := l }))))
            = some (if p.End = true then (wof p, true, 0, refOf { a with open_ := l }) else (Whole_.z, false, 0, refOf { a with open_ := room l ++ [oof p] })) := by
          intro l hl
          rw [Copy_eq (by omega) (by omega), bindP_some]
          cases hE : p.End with
          | true => rfl
          | false =>
            rw [iteP_false, joinP]
            simp only [Bool.false_eq_true, if_false, tmod4 ⟨v1, v2⟩]
            have hln : ((refOf { a with open_ := l }).Items.length : Int) = (l.length : Int) := by simp [refOf]
            rw [hln]
            by_cases h8 : l.length = 8
            · have hd := Rdrop_ref (fuel := fuel) (a := { a with open_ := l }) (i := 0) (by simp only; omega) (by simp only; omega) (by omega)
              have hd' : ref22_Assembler_drop fuel (refOf { a with open_ := l }) 0 = some (refOf { a with open_ := fdel l 0 }) := hd
              rw [show decide ((l.length : Int) ≥ 8) = true by simp; omega, iteP_true, hd', bindP_some, app_ok (by have := fdel_le (l := l) (i := 0); simp only [refOf, List.length_map, List.length_cons, List.length_nil]; omega), bindP_some]
              simp only [room, if_pos h8, refOf, List.map_append]; rfl
            · rw [show decide ((l.length : Int) ≥ 8) = false by simp; omega, iteP_false, app_ok (by simp only [refOf, List.length_map, List.length_cons, List.length_nil]; omega), bindP_some]
              simp only [room, if_neg h8, refOf, List.map_append]; rfl
        rcases ffind_cases a.open_ p with ⟨h1, _⟩ | ⟨i, o, h1, h2, h3⟩
        · have hd : dropped a.open_ p = a.open_ := by simp [dropped, h1]
          rw [h1, show decide ((-1 : Int) ≥ 0) = false from rfl, iteP_false, hd]
          refine (tail a.open_ hle).trans ?_
          cases p.End <;> rfl
        · have hi := lt_len h2
          have hd : dropped a.open_ p = fdel a.open_ i := by simp only [dropped, h1, Int.toNat_natCast]; rw [if_neg (by omega)]
          rw [h1, show decide ((i : Int) ≥ 0) = true by simp, iteP_true, Rdrop_ref hi (by omega) (by omega), bindP_some, hd]
          refine (tail _ (by have := fdel_le (l := a.open_) (i := i); omega)).trans ?_
          cases p.End <;> rfl
      | false =>
        rw [iteP_false, if_neg (by simp)]
        rcases ffind_cases a.open_ p with ⟨h1, _⟩ | ⟨i, o, h1, h2, h3⟩
        · rw [h1]; rfl
        · have hi := lt_len h2
          obtain ⟨o1, o2, o3, o4, o5⟩ := h.el o (List.mem_of_getElem? h2)
          have hget : a.open_.getD i fragment_open.z = o := by rw [List.getD_eq_getElem?_getD, h2]; rfl
          rw [h1, show decide ((i : Int) < 0) = false by simp, iteP_false, show (refOf a).Items = a.open_.map toI from rfl, idx_map h2, bindP_some, if_neg (by omega)]
          simp only [Int.toNat_natCast, hget]
          have hj : ∀ j : Bool → Option (Whole_ × Bool × Int × ref22_Assembler), joinP j (fun j => iteP (p.Sequence != (toI o).Next) (j (true)) (iteP (decide ((p.Data.length : Int) > (toI o).Size)) (j (true)) (
              iteP (decide ((p.Data.length : Int) < (toI o).Size)) (j (!p.End)) (j (false))))) = j (bad o p) := by
            intro j
            rw [joinP]
            have key : ∀ (x1 x2 x3 e : Bool), iteP x1 (j true) (iteP x2 (j true) (iteP x3 (j !e) (j false))) = j (x1 || (x2 || (x3 && !e))) := by intro x1 x2 x3 e; cases x1 <;> cases x2 <;> cases x3 <;> rfl
            exact key _ _ _ _
          rw [hj]
          cases hb : bad o p with
          | true => rw [iteP_true, Rdrop_ref hi (by omega) (by omega), bindP_some]; rfl
          | false =>
            have hseq : p.Sequence = (o.last + 1) % 4 := by
              simp only [bad, Bool.or_eq_false_iff] at hb
              simpa using hb.1
            rw [iteP_false, show (toI o).Whole = o.whole from rfl, wr (by omega), if_neg (by simp)]
            by_cases h5 : 512 < o.whole.Data.length + p.Data.length
            · rw [show decide ((o.whole.Data.length : Int) + (p.Data.length : Int) > 512) = true by simp; omega, iteP_true, Rdrop_ref hi (by omega) (by omega), bindP_some, if_pos h5]
            · rw [show decide ((o.whole.Data.length : Int) + (p.Data.length : Int) > 512) = false by simp; omega, iteP_false, Copy_eq (by omega) (by omega), bindP_some, app_ok (by omega), bindP_some, letP_eq, if_neg h5]
              cases hE : p.End with
              | true => rw [iteP_true, Rdrop_ref hi (by omega) (by omega), bindP_some]; rfl
              | false =>
                rw [iteP_false, bindP_some, letP_eq]
                have hu : ∀ (l : List ref22_Item) (x : ref22_Item), upd l (i : Int) x = l.set i x := fun l x => by simp [upd]
                have hn : Int.tmod (IntKind.i64.wrap ((toI o).Next + 1)) 4 = (p.Sequence + 1) % 4 := by
                  rw [tmod4 (by simp only [toI]; omega), hseq]; rfl
                rw [hu, hn]
                simp only [Bool.false_eq_true, if_false]
                have : ({ { toI o with Next := (p.Sequence + 1) % 4 } with Whole := { o.whole with Data := o.whole.Data ++ p.Data } } : ref22_Item) = toI (grown o p) := rfl
                simp only [refOf, List.map_set]
                rfl
    · rw [show (p.To != a.own) = true by simpa using hto, iteP_true, if_pos hto]
theorem SameWhole_eq {fuel : Nat} (hf : 2000 < fuel) (w : Whole_) (h : w.Data.length ≤ 1000) : ref22_SameWhole fuel w w = some true := by
  unfold ref22_SameWhole
  simp only [beq_self_eq_true, iteP_true]
  rw [Same_eq (by omega) (by omega)]; simp
theorem acc_small {a : fragment_Assembler} (h : AR a) (p : Packet_) : (acc a p).1.Data.length ≤ 1000 := by
  unfold acc
  split
  · simp [Whole_.z]
  rename_i hv
  obtain ⟨v1, v2, v3, v4, v5, v6⟩ := validB_num (by simpa using hv)
  split
  · simp [Whole_.z]
  split
  · split
    · simp only [wof]; omega
    · simp [Whole_.z]
  split
  · simp [Whole_.z]
  rename_i hf
  rcases ffind_cases a.open_ p with ⟨h1, _⟩ | ⟨i, o, h1, h2, h3⟩
  · rw [h1] at hf; exact absurd (by decide) hf
  obtain ⟨o1, _⟩ := h.el o (List.mem_of_getElem? h2)
  have hget : a.open_.getD i fragment_open.z = o := by rw [List.getD_eq_getElem?_getD, h2]; rfl
  simp only [h1, Int.toNat_natCast, hget]
  split
  · simp [Whole_.z]
  split
  · simp [Whole_.z]
  split
  · simp only [grown, List.length_append]; omega
  · simp [Whole_.z]
end Lift
