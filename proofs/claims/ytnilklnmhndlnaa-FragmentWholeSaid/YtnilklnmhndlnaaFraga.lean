/- The assembler: closed forms. No program in sight. -/
import Derived.Test.YtnilklnmhndlnaaFragm
set_option linter.unusedVariables false
set_option linter.unusedSimpArgs false
namespace Lift
open Go
/-- The first place of an element that is looked for, or -1. -/
def fidx {α : Type} (p : α → Bool) : List α → Int → Int
  | [], _ => -1
  | x :: l, i => if p x then i else fidx p l (i + 1)
theorem fidx_cases {α : Type} (p : α → Bool) : ∀ (l : List α) (b : Nat), (fidx p l b = -1 ∧ ∀ x ∈ l, p x = false) ∨ ∃ i x, fidx p l b = ((b + i : Nat) : Int) ∧ l[i]? = some x ∧ p x = true
  | [], b => .inl ⟨rfl, fun _ h => (by cases h)⟩
  | x :: l, b => by
    unfold fidx
    by_cases hp : p x = true
    · exact .inr ⟨0, x, by simp [hp], rfl, hp⟩
    · have hp' : p x = false := by simpa using hp
      rw [if_neg hp]
      have e : ((b : Int) + 1) = ((b + 1 : Nat) : Int) := by omega
      rw [e]
      rcases fidx_cases p l (b + 1) with ⟨h1, h2⟩ | ⟨i, y, h1, h2, h3⟩
      · refine .inl ⟨h1, fun y hy => ?_⟩
        rcases List.mem_cons.1 hy with rfl | hy
        · exact hp'
        · exact h2 y hy
      · exact .inr ⟨i + 1, y, by rw [h1]; omega, by simpa using h2, h3⟩
theorem fidx_map {α β : Type} (f : α → β) (p : β → Bool) : ∀ (l : List α) (b : Int), fidx p (l.map f) b = fidx (fun x => p (f x)) l b
  | [], _ => rfl
  | x :: l, b => by simp only [List.map_cons, fidx, fidx_map f p l]
theorem find_loop {α : Type} {l : List α} {p : α → Bool} {step : (Int → Option Int) → Int → Option Int} (hs : ∀ (i : Nat) x, l[i]? = some x → ∀ k, step k (i : Int) = if p x then some (i : Int) else k ((i : Int) + 1)) (he : ∀ k, step k (l.length : Int) = some (-1)) :
    ∀ (fuel i : Nat), i ≤ l.length → l.length - i < fuel → loopP step fuel (i : Int) = some (fidx p (l.drop i) i)
  | 0, i, _, hf => by omega
  | f + 1, i, hi, hf => by
    show step (loopP step f) (i : Int) = _
    by_cases hl : i < l.length
    · have hx : l[i]? = some l[i] := by simp [hl]
      rw [hs i _ hx, List.drop_eq_getElem_cons hl]
      simp only [fidx]
      by_cases hp : p l[i] = true
      · rw [if_pos hp, if_pos hp]
      · rw [if_neg hp, if_neg hp]
        have := find_loop hs he f (i + 1) (by omega) (by omega)
        simpa using this
    · have : i = l.length := by omega
      subst this
      rw [he, List.drop_length]; rfl


def fkey (p : Packet_) (o : fragment_open) : Bool := o.whole.From == p.From && (o.whole.Owner == p.Owner && o.whole.Tag == p.Tag)
def ffind (l : List fragment_open) (p : Packet_) : Int := fidx (fkey p) l 0
theorem ffind_cases (l : List fragment_open) (p : Packet_) : (ffind l p = -1 ∧ ∀ x ∈ l, fkey p x = false) ∨ ∃ (i : Nat) (x : fragment_open), ffind l p = (i : Int) ∧ l[i]? = some x ∧ fkey p x = true := by
  rcases fidx_cases (fkey p) l 0 with ⟨h1, h2⟩ | ⟨i, x, h1, h2, h3⟩
  · exact .inl ⟨h1, h2⟩
  · exact .inr ⟨i, x, by simpa [ffind] using h1, h2, h3⟩
def fdel {α : Type} (l : List α) (i : Nat) : List α := l.take i ++ l.drop (i + 1)
theorem fdel_len {α : Type} {l : List α} {i : Nat} (h : i < l.length) : (fdel l i).length = l.length - 1 := by simp [fdel]; omega
theorem fdel_le {α : Type} {l : List α} {i : Nat} : (fdel l i).length ≤ l.length := by simp [fdel]; omega
theorem fdel_set {α : Type} {l : List α} {i : Nat} {x : α} : fdel (l.set i x) i = fdel l i := by
  simp only [fdel, List.take_set_of_le (Nat.le_refl i), List.drop_set_of_lt (Nat.lt_succ_self i)]
theorem fdel_mem {α : Type} {l : List α} {i : Nat} {x : α} (h : x ∈ fdel l i) : x ∈ l := by
  rcases List.mem_append.1 h with h | h
  · exact List.mem_of_mem_take h
  · exact List.mem_of_mem_drop h
theorem fdel_map {α β : Type} (f : α → β) (l : List α) (i : Nat) : fdel (l.map f) i = (fdel l i).map f := by simp [fdel, List.map_take, List.map_drop]
/-- What holds of an assembler. -/
structure AR (a : fragment_Assembler) : Prop where
  le : a.open_.length ≤ 8
  el : ∀ o ∈ a.open_, o.whole.Data.length ≤ 512 ∧ 0 ≤ o.last ∧ o.last < 4 ∧ 0 ≤ o.size ∧ o.size ≤ 64
theorem find12_eq (fuel : Nat) (o : fragment_open) (p : Packet_) : fragment_Assembler_find_1_2 fuel o p = some (fkey p o) := by
  unfold fragment_Assembler_find_1_2 fkey
  cases (o.whole.From == p.From) <;> cases (o.whole.Owner == p.Owner) <;> rfl
theorem ffind_eq {fuel : Nat} {a : fragment_Assembler} {p : Packet_} (hl : a.open_.length ≤ 64) (hf : 100 < fuel) : fragment_Assembler_find fuel a p = some (ffind a.open_ p) := by
  unfold fragment_Assembler_find slices_IndexFunc_fragment_open_fragment_open_fragment_Assembler_find_1
  have := find_loop (l := a.open_) (p := fkey p) (step := fun k1 (s1 : Int) => iteP (decide (s1 < (a.open_.length : Int))) (bindP (idx a.open_ s1) fun x1 => bindP (fragment_Assembler_find_1_2 fuel x1 p) fun y1 => iteP y1 (some s1) (k1 ((IntKind.i64.wrap (s1 + 1))))) (some (-1)))
    (fun i x hx k => by
      have hi := lt_len hx
      simp only [show ((i : Int) < (a.open_.length : Int)) by omega, decide_true, iteP_true, idx_nat, hx, bindP_some, find12_eq, wi i (by omega), iteP_eq, if_true]) (fun k => by simp) fuel 0 (by omega) (by omega)
  exact congrArg (fun z => bindP z fun y1 => some y1) this
theorem fdrop_eq {fuel : Nat} {a : fragment_Assembler} {i : Nat} (hi : i < a.open_.length) (hl : a.open_.length ≤ 64) : fragment_Assembler_drop fuel a (i : Int) = some { a with open_ := fdel a.open_ i } := by
  unfold fragment_Assembler_drop slices_Delete_fragment_open_fragment_open
  rw [wi i (by omega)]
  have e : ((i : Int) + 1) = ((i + 1 : Nat) : Int) := by omega
  have hlen : (a.open_.take i ++ a.open_.drop (i + 1)).length = a.open_.length - 1 := by simp; omega
  simp only [e, Int.toNat_natCast, hlen]
  rw [decide_eq_true (by omega), chk_true, bindP_some, show ((i : Int) == ((i + 1 : Nat) : Int)) = false by simp; omega, iteP_false, decide_eq_true (by omega), chk_true, bindP_some, decide_eq_true (by omega), chk_true, bindP_some,
    decide_eq_true (by omega), chk_true, bindP_some, decide_eq_true (by omega), chk_true, bindP_some, decide_eq_true (by omega), chk_true, bindP_some, decide_eq_true (by omega), chk_true, bindP_some, bindP_some]
  rfl
def bad (o : fragment_open) (p : Packet_) : Bool := (p.Sequence != (o.last + 1) % 4) || (decide (o.size < (p.Data.length : Int)) || (decide ((p.Data.length : Int) < o.size) && !p.End))
def wof (p : Packet_) : Whole_ := ⟨p.From, p.Owner, p.Tag, p.Data⟩
def oof (p : Packet_) : fragment_open := ⟨wof p, (p.Data.length : Int), p.Sequence⟩
def dropped (l : List fragment_open) (p : Packet_) : List fragment_open := if ffind l p < 0 then l else fdel l (ffind l p).toNat
def room (l : List fragment_open) : List fragment_open := if l.length = 8 then fdel l 0 else l
def grown (o : fragment_open) (p : Packet_) : fragment_open := { o with whole := { o.whole with Data := o.whole.Data ++ p.Data }, last := p.Sequence }
def acc (a : fragment_Assembler) (p : Packet_) : Whole_ × Bool × Int × fragment_Assembler :=
  if validB p = false then (Whole_.z, false, 1, a) else if p.To ≠ a.own then (Whole_.z, false, 13, a)
  else if p.Start = true then (if p.End = true then (wof p, true, 0, { a with open_ := dropped a.open_ p }) else (Whole_.z, false, 0, { a with open_ := room (dropped a.open_ p) ++ [oof p] }))
  else if ffind a.open_ p < 0 then (Whole_.z, false, 8, a)
  else (fun (i : Nat) (o : fragment_open) => if bad o p = true then (Whole_.z, false, 15, { a with open_ := fdel a.open_ i }) else if 512 < o.whole.Data.length + p.Data.length then (Whole_.z, false, 3, { a with open_ := fdel a.open_ i })
    else if p.End = true then ((grown o p).whole, true, 0, { a with open_ := fdel a.open_ i }) else (Whole_.z, false, 0, { a with open_ := a.open_.set i (grown o p) })) (ffind a.open_ p).toNat (a.open_.getD (ffind a.open_ p).toNat fragment_open.z)
theorem dropped_le {l : List fragment_open} {p : Packet_} : (dropped l p).length ≤ l.length := by unfold dropped; split; exact Nat.le_refl _; exact fdel_le
theorem dropped_mem {l : List fragment_open} {p : Packet_} {o : fragment_open} (h : o ∈ dropped l p) : o ∈ l := by
  unfold dropped at h; split at h
  · exact h
  · exact fdel_mem h
theorem room_mem {l : List fragment_open} {o : fragment_open} (h : o ∈ room l) : o ∈ l := by
  unfold room at h; split at h
  · exact fdel_mem h
  · exact h
theorem begin_eq {fuel : Nat} (hf : 600 < fuel) {a : fragment_Assembler} (h : AR a) {p : Packet_} (hp : p.Data.length ≤ 64) :
    fragment_Assembler_begin fuel a p = some (if p.End = true then (wof p, true, { a with open_ := dropped a.open_ p }) else (Whole_.z, false, { a with open_ := room (dropped a.open_ p) ++ [oof p] })) := by
  have hle := h.le
  unfold fragment_Assembler_begin
  rw [ffind_eq (by omega) (by omega), bindP_some, joinP]
  have tail : ∀ l : List fragment_open, l.length ≤ 8 → (bindP (slices_Clone_byte_byte fuel p.Data) fun y2 => letP ({ (⟨p.From, p.Owner, p.Tag, []⟩ : Whole_) with Data := y2 }) fun d1 =>
      iteP p.End (some (({ d1 with Data := ({ (⟨p.From, p.Owner, p.Tag, []⟩ : Whole_) with Data := y2 }).Data }, true, { a with open_ := l }) : Whole_ × Bool × fragment_Assembler)) (
      joinP (fun (s2 : fragment_Assembler) => bindP (app 56 s2.open_ ([{ (⟨d1, (p.Data.length : Int), p.Sequence⟩ : fragment_open) with whole := { (⟨d1, (p.Data.length : Int), p.Sequence⟩ : fragment_open).whole with Data := ({ (⟨p.From, p.Owner, p.Tag, []⟩ : Whole_) with Data := y2 }).Data } }])) fun x1 =>
        some (Whole_.z, false, { s2 with open_ := x1 })) fun j2 =>
      iteP ((({ a with open_ := l } : fragment_Assembler).open_.length : Int) == 8) (bindP (fragment_Assembler_drop fuel { a with open_ := l } 0) fun y3 => j2 (y3)) (j2 { a with open_ := l })))
      = some (if p.End = true then (wof p, true, { a with open_ := l }) else (Whole_.z, false, { a with open_ := room l ++ [oof p] })) := by
    intro l hl
    rw [clone_eq (by omega), bindP_some, letP_eq]
    cases hE : p.End with
    | true => rfl
    | false =>
      rw [iteP_false, joinP]
      simp only [Bool.false_eq_true, if_false]
      by_cases h8 : l.length = 8
      · have hd := fdrop_eq (fuel := fuel) (a := { a with open_ := l }) (i := 0) (by simp only; omega) (by simp only; omega)
        rw [show ((l.length : Int) == 8) = true by simp; omega, iteP_true]
        have hd' : fragment_Assembler_drop fuel { a with open_ := l } 0 = some { a with open_ := fdel l 0 } := hd
        rw [hd', bindP_some, app_ok (by have := fdel_le (l := l) (i := 0); simp only [List.length_cons, List.length_nil]; omega), bindP_some]
        simp only [room, if_pos h8]; rfl
      · rw [show ((l.length : Int) == 8) = false from beq_eq_false_iff_ne.2 (by omega), iteP_false, app_ok (by simp only [List.length_cons, List.length_nil]; omega), bindP_some]
        simp only [room, if_neg h8]; rfl
  rcases ffind_cases a.open_ p with ⟨h1, _⟩ | ⟨i, o, h1, h2, h3⟩
  · have hd : dropped a.open_ p = a.open_ := by simp [dropped, h1]
    rw [h1, show decide ((-1 : Int) ≥ 0) = false from rfl, iteP_false, hd]
    exact tail a.open_ hle
  · have hi := lt_len h2
    have hd : dropped a.open_ p = fdel a.open_ i := by simp only [dropped, h1, Int.toNat_natCast]; rw [if_neg (by omega)]
    rw [h1, show decide ((i : Int) ≥ 0) = true by simp, iteP_true, fdrop_eq hi (by omega), bindP_some, hd]
    exact tail _ (by have := fdel_le (l := a.open_) (i := i); omega)
theorem tmod4 {x : Int} (h : 0 ≤ x ∧ x < 4) : Int.tmod (IntKind.i64.wrap (x + 1)) 4 = (x + 1) % 4 := by
  rw [wr (by omega), Int.tmod_eq_emod_of_nonneg (by omega)]
theorem Accept_eq {fuel : Nat} (hf : 600 < fuel) {a : fragment_Assembler} (h : AR a) (p : Packet_) : fragment_Assembler_Accept fuel a p = some (acc a p) := by
  have hle := h.le
  unfold fragment_Assembler_Accept acc
  rw [Valid_eq, bindP_some, letP_eq]
  cases hv : validB p with
  | false => simp
  | true =>
    obtain ⟨v1, v2, v3, v4, v5, v6⟩ := validB_num hv
    simp only [Bool.not_true, iteP_false, Bool.true_eq_false, if_false]
    by_cases hto : p.To = a.own
    · rw [show (p.To != a.own) = false by simp [hto], iteP_false, if_neg (by simp [hto])]
      cases hS : p.Start with
      | true =>
        rw [iteP_true, begin_eq hf h (by omega), bindP_some, if_pos rfl]
        cases p.End <;> rfl
      | false =>
        rw [iteP_false, if_neg (by simp), ffind_eq (by omega) (by omega), bindP_some]
        rcases ffind_cases a.open_ p with ⟨h1, _⟩ | ⟨i, o, h1, h2, h3⟩
        · rw [h1]; rfl
        · have hi := lt_len h2
          obtain ⟨o1, o2, o3, o4, o5⟩ := h.el o (List.mem_of_getElem? h2)
          have hget : a.open_.getD i fragment_open.z = o := by rw [List.getD_eq_getElem?_getD, h2]; rfl
          rw [h1, show decide ((i : Int) < 0) = false by simp, iteP_false, idx_nat, h2, bindP_some, if_neg (by omega)]
          simp only [Int.toNat_natCast, hget]
          have hj : ∀ j : Bool → Option (Whole_ × Bool × Int × fragment_Assembler), joinP j (fun j => letP (p.Sequence != (Int.tmod (IntKind.i64.wrap (o.last + 1)) 4)) fun x7 => iteP x7 (j (true)) (letP (decide ((p.Data.length : Int) > o.size)) fun x8 => iteP x8 (j (true)) (
              letP (decide ((p.Data.length : Int) < o.size)) fun x9 => iteP x9 (j (!p.End)) (j (false))))) = j (bad o p) := by
            intro j
            rw [joinP]
            simp only [letP_eq, tmod4 ⟨o2, o3⟩, bad]
            cases (p.Sequence != (o.last + 1) % 4) <;> simp only [iteP_true, iteP_false, Bool.true_or, Bool.false_or]
            rw [show decide ((p.Data.length : Int) > o.size) = decide (o.size < (p.Data.length : Int)) from rfl]
            cases decide (o.size < (p.Data.length : Int)) <;> simp only [iteP_true, iteP_false, Bool.true_or, Bool.false_or]
            cases decide ((p.Data.length : Int) < o.size) <;> simp only [iteP_true, iteP_false, Bool.true_and, Bool.false_and]
          rw [hj]
          cases hb : bad o p with
          | true => rw [iteP_true, fdrop_eq hi (by omega), bindP_some]; rfl
          | false =>
            rw [iteP_false, wr (by omega), letP_eq, if_neg (by simp)]
            by_cases h5 : 512 < o.whole.Data.length + p.Data.length
            · rw [show decide ((o.whole.Data.length : Int) + (p.Data.length : Int) > 512) = true by simp; omega, iteP_true, fdrop_eq hi (by omega), bindP_some, if_pos h5]
            · rw [show decide ((o.whole.Data.length : Int) + (p.Data.length : Int) > 512) = false by simp; omega, iteP_false, app_ok (by omega), bindP_some, letP_eq, if_neg h5]
              have hu : ∀ (l : List fragment_open) (x : fragment_open), upd l (i : Int) x = l.set i x := fun l x => by simp [upd]
              simp only [hu, idx_nat]
              have hs1 : ∀ x : fragment_open, (a.open_.set i x)[i]? = some x := fun x => by simp [hi]
              rw [hs1, bindP_some, letP_eq, List.set_set]
              cases hE : p.End with
              | false => simp only [Bool.not_false, iteP_true]; rfl
              | true =>
                simp only [Bool.not_true, iteP_false]
                rw [hs1, bindP_some]
                have hd := fdrop_eq (fuel := fuel) (a := { a with open_ := a.open_.set i (grown o p) }) (i := i) (by simpa using hi) (by simp only [List.length_set]; omega)
                rw [fdel_set] at hd
                have hd2 := congrArg (fun z => bindP z fun y6 => some (({ (grown o p).whole with Data := (grown o p).whole.Data }, true, 0, y6) : Whole_ × Bool × Int × fragment_Assembler)) hd
                exact hd2
    · rw [show (p.To != a.own) = true by simpa using hto, iteP_true, if_pos hto]
theorem AR.acc {a : fragment_Assembler} (h : AR a) (p : Packet_) : AR (acc a p).2.2.2 ∧ (acc a p).2.2.2.own = a.own := by
  have hle := h.le
  unfold Lift.acc
  split
  · exact ⟨h, rfl⟩
  rename_i hv
  obtain ⟨v1, v2, v3, v4, v5, v6⟩ := validB_num (by simpa using hv)
  split
  · exact ⟨h, rfl⟩
  split
  · split
    · exact ⟨⟨Nat.le_trans dropped_le hle, fun o ho => h.el o (dropped_mem ho)⟩, rfl⟩
    · refine ⟨⟨?_, fun o ho => ?_⟩, rfl⟩
      · have := dropped_le (l := a.open_) (p := p)
        simp only [room]
        split
        · rename_i h8
          rw [List.length_append, fdel_len (by omega)]; simp; omega
        · simp; omega
      · rcases List.mem_append.1 ho with ho | ho
        · exact h.el o (dropped_mem (room_mem ho))
        · simp at ho; subst ho
          exact ⟨by simp only [oof, wof]; omega, by simp only [oof]; omega, by simp only [oof]; omega, by simp only [oof]; omega, by simp only [oof]; omega⟩
  split
  · exact ⟨h, rfl⟩
  rename_i hf
  rcases ffind_cases a.open_ p with ⟨h1, _⟩ | ⟨i, o, h1, h2, h3⟩
  · rw [h1] at hf; exact absurd (by decide) hf
  obtain ⟨o1, o2, o3, o4, o5⟩ := h.el o (List.mem_of_getElem? h2)
  have hget : a.open_.getD i fragment_open.z = o := by rw [List.getD_eq_getElem?_getD, h2]; rfl
  simp only [h1, Int.toNat_natCast, hget]
  have hdel : AR { a with open_ := fdel a.open_ i } := ⟨Nat.le_trans fdel_le hle, fun o ho => h.el o (fdel_mem ho)⟩
  split
  · exact ⟨hdel, rfl⟩
  split
  · exact ⟨hdel, rfl⟩
  split
  · exact ⟨hdel, rfl⟩
  · refine ⟨⟨by simpa using hle, fun x hx => ?_⟩, rfl⟩
    rcases List.mem_or_eq_of_mem_set hx with hx | rfl
    · exact h.el x hx
    · rename_i hn _
      exact ⟨by simp only [grown, List.length_append]; omega, v1, v2, o4, o5⟩
theorem FNew_eq (fuel : Nat) (n : Int) : fragment_New fuel n = some (if endp n = false then (none, 13) else (some ⟨n, []⟩, 0)) := by
  unfold fragment_New
  rw [endpoint_eq, bindP_some]
  cases endp n <;> rfl
theorem new_AR (n : Int) : AR ⟨n, []⟩ := ⟨by simp, fun o ho => (by cases ho)⟩
end Lift
