/- The reference's repository does what the repository does. No program in sight. -/
import Derived.Test.YtmhmkgijjgkbcaaRepo
set_option linter.unusedVariables false
set_option linter.unusedSimpArgs false
namespace Lift
open Go
def toItem (x : repository_record) : ref11_Item := ⟨x.id, x.bytes⟩
def toRef (r : repository_Repository) : ref11_Repository := ⟨r.capacity, r.records.map toItem, r.number, r.held, r.last⟩
theorem r11New_eq (fuel : Nat) (n : Int) : ref11_New fuel n = some (if n < 1 ∨ 10240 < n then (none, 2) else (some (toRef (rnew n)), 0)) := by
  unfold ref11_New
  simp only [joinP_eq]
  by_cases h1 : n < 1
  · simp [h1]
  · by_cases h2 : 10240 < n
    · simp [h1, h2]
    · simp [h1, h2, rnew, toRef]
theorem r11Free_eq {fuel : Nat} {r : repository_Repository} (h : RR r) (hf : 100 < fuel) : ref11_Repository_Free fuel (toRef r) = some (rfree r) := by
  have hl := h.le
  unfold ref11_Repository_Free
  refine loop_run (fun i => (r.capacity - rtot (r.records.take i), (i : Int))) r.records.length (by simp [rtot, toRef]) (by omega) (fun i hi k => ?_) (fun k => ?_)
  · have hx : r.records[i]? = some r.records[i] := by simp [hi]
    have h1 := rtot_le (l := r.records.take i) (fun x hx => (h.rg x (List.mem_of_mem_take hx)).2.2.2)
    have h2 := (h.rg _ (List.getElem_mem hi)).2.2.2
    have h3 : (r.records.take i).length ≤ 64 := by simp; omega
    have h4 := h.cap
    simp only [toRef, List.length_map, show ((i : Int) < (r.records.length : Int)) by omega, decide_true, iteP_true, idx_nat, List.getElem?_map, hx, Option.map_some, bindP_some, letP_eq, toItem]
    rw [wi i (by omega), wr (by omega), rtot_succ hx]
    congr 2
    · omega
  · simp [rfree, List.take_length, toRef]
theorem r11Find_eq {fuel : Nat} {r : repository_Repository} {id : Int} (hl : r.records.length ≤ 64) (hf : 100 < fuel) : ref11_Repository_Find fuel (toRef r) id = some (rfind r.records id) := by
  unfold ref11_Repository_Find
  have := find_loop (l := r.records) (p := fun x => x.id == id) (step := fun k1 (s1 : Int) => iteP (decide (s1 < ((toRef r).Items.length : Int))) (bindP (idx (toRef r).Items s1) fun x1 => iteP (x1.ID == id) (some s1) (letP (IntKind.i64.wrap (s1 + 1)) fun x2 => k1 (x2))) (some (-1)))
    (fun i x hx k => by
      have hi := lt_len hx
      simp only [toRef, List.length_map, show ((i : Int) < (r.records.length : Int)) by omega, decide_true, iteP_true, idx_nat, List.getElem?_map, hx, Option.map_some, bindP_some, letP_eq, wi i (by omega), iteP_eq, toItem, if_true]) (fun k => by simp [toRef]) fuel 0 (by omega) (by omega)
  exact this
theorem r11add_loop {fuel0 : Nat} {r : repository_Repository} {b : List Int} (hl : r.records.length ≤ 64) (hb : b.length ≤ 1000) (hf0 : 2000 < fuel0) : ∀ (n fuel : Nat) (x : Int), 0 ≤ x ∧ x ≤ 65534 → n < fuel → 0 < n → srch n (r.records.map (·.id)) x ∉ r.records.map (·.id) →
    loopP (fun k1 (s2 : Int) =>
      bindP (ref11_Repository_Find fuel0 (toRef r) s2) fun y2 =>
      iteP (decide (y2 ≥ 0)) (
      letP (IntKind.i64.wrap ((Int.tmod s2 65534) + 1)) fun x2 =>
      k1 (x2)) (
      letP ({ (toRef r) with Given := s2 }) fun d1 =>
      bindP (ref01_Copy fuel0 b) fun y3 =>
      bindP (app 32 (toRef r).Items ([(⟨s2, y3⟩ : ref11_Item)])) fun x3 =>
      letP ({ d1 with Held := false }) fun d2 =>
      some ((IntKind.u16.wrap s2), (0 : Int), { d2 with Items := x3 }))) fuel (nxt x) = some (srch n (r.records.map (·.id)) x, 0, toRef { r with records := r.records ++ [⟨srch n (r.records.map (·.id)) x, b⟩], last := srch n (r.records.map (·.id)) x, held := false })
  | 0, _, _, _, _, h, _ => by omega
  | n + 1, 0, _, _, h, _, _ => by omega
  | n + 1, f + 1, x, hx, hf, _, hs => by
    rw [loopP_succ]
    have hnx : 0 ≤ nxt x ∧ nxt x ≤ 65534 := by unfold nxt; omega
    simp only [letP_eq]
    rw [r11Find_eq (by exact hl) (by omega), bindP_some]
    by_cases hm : nxt x ∈ r.records.map (·.id)
    · have h0 := rfind_mem hm
      have e : srch (n + 1) (r.records.map (·.id)) x = srch n (r.records.map (·.id)) (nxt x) := by rw [srch, if_pos hm]
      rw [e] at hs ⊢
      have hn : 0 < n := by
        rcases Nat.eq_zero_or_pos n with rfl | h
        · exact absurd hm hs
        · exact h
      rw [show decide (rfind r.records (nxt x) ≥ 0) = true by simpa using h0, iteP_true, tm64' hnx]
      exact r11add_loop hl hb hf0 n f (nxt x) hnx (by omega) hn hs
    · have e : srch (n + 1) (r.records.map (·.id)) x = nxt x := by rw [srch, if_neg hm]
      rw [e, rfind_none hm]
      rw [show decide ((-1 : Int) ≥ 0) = false from rfl, iteP_false, Copy_eq (by omega) (by omega), bindP_some, app_ok (by simp [toRef]; omega), bindP_some, w_u16]
      have e2 : nxt x % 65536 = nxt x := by omega
      rw [e2]
      simp [toRef, toItem]
theorem r11Add_eq {fuel : Nat} {r : repository_Repository} (h : RR r) {b : List Int} (hb : b.length ≤ 1000) (hf : 2000 < fuel) :
    ref11_Repository_Add fuel (toRef r) b = some (if b.length = 0 ∨ 160 < b.length then (0, 1, toRef r) else if r.records.length = 64 then (0, 3, toRef r) else if rfree r < (b.length : Int) then (0, 9, toRef r) else (rid r, 0, toRef (radd r b))) := by
  have hl := h.le
  have key := r11add_loop (r := r) (b := b) hl hb hf 65 fuel r.last h.lst (by omega) (by omega) (rid_free h)
  have hg : (toRef r).Given = r.last := rfl
  have hi : (toRef r).Items.length = r.records.length := by simp [toRef]
  refine Ev.eq ?_
  unfold ref11_Repository_Add
  refine Ev.join (fun s => s = decide (b.length = 0 ∨ 160 < b.length)) (fun s hs => ?_) (fun j hj => Ev.beq (fun h1 => hj _ (by rw [eq_comm, decide_eq_true_iff]; omega)) (fun h1 => hj _ (by rw [decide_eq_decide]; omega)))
  subst hs
  by_cases h1 : b.length = 0 ∨ 160 < b.length
  · exact Ev.decT h1 (Ev.ret (by rw [if_pos h1]))
  rw [hi]
  refine Ev.decF h1 (Ev.dec (fun h3 => Ev.ret (by rw [if_neg h1, if_pos (by omega)])) (fun h3 => Ev.to (r11Free_eq h (by omega)) (Ev.dec (fun h4 => Ev.ret (by rw [if_neg h1, if_neg (by omega), if_pos (by omega)])) (fun h4 => Ev.letP ?_))))
  rw [if_neg h1, if_neg (by omega), if_neg (by omega), hg, tm64' h.lst]
  exact ⟨_, key, rfl⟩
theorem r11Reserve_eq {fuel : Nat} {r : repository_Repository} (h : 0 ≤ r.number ∧ r.number ≤ 65535) : ref11_Repository_Reserve fuel (toRef r) = some ((rres r).number, toRef (rres r)) := by
  unfold ref11_Repository_Reserve
  have e : IntKind.i64.wrap (Int.tmod (toRef r).Last 65535 + 1) = r.number % 65535 + 1 := by
    show IntKind.i64.wrap (Int.tmod r.number 65535 + 1) = _
    rw [Int.tmod_eq_emod_of_nonneg h.1, wr (by omega)]
  simp only [letP_eq, e, w_u16]
  have e2 : (r.number % 65535 + 1) % 65536 = r.number % 65535 + 1 := by omega
  rw [e2]; rfl
theorem r11held_eq {fuel : Nat} {r : repository_Repository} {v : Int} (h : 0 ≤ v ∧ v ≤ 65535) : ref11_Repository_held fuel (toRef r) v = some (rholds r v) := by
  unfold ref11_Repository_held rholds
  rw [wr (by omega)]
  show iteP r.held _ _ = _
  cases r.held <;> simp [toRef]
theorem r11look {fuel : Nat} {r : repository_Repository} (h : RR r) {id : Int} (hid : 0 ≤ id ∧ id ≤ 65535) (hf : 100 < fuel) :
    (rlook r id = none ∧ ∃ i, ref11_Repository_index fuel (toRef r) id = some i ∧ i < 0) ∨
    ∃ (i : Nat) (x : repository_record), ref11_Repository_index fuel (toRef r) id = some (i : Int) ∧ r.records[i]? = some x ∧ rlook r id = some (x.bytes, ((r.records[i + 1]?).map (·.id)).getD 0) ∧ ref11_Repository_next fuel (toRef r) (i : Int) = some (((r.records[i + 1]?).map (·.id)).getD 0) := by
  have hl := h.le
  have hi : (toRef r).Items.length = r.records.length := by simp [toRef]
  have hnext : ∀ i : Nat, i < r.records.length → ref11_Repository_next fuel (toRef r) (i : Int) = some (((r.records[i + 1]?).map (·.id)).getD 0) := by
    intro i hil
    unfold ref11_Repository_next
    rw [wi i (by omega), hi]
    by_cases h2 : i + 1 < r.records.length
    · have hy : r.records[i + 1]? = some r.records[i + 1] := by simp [h2]
      have hr := h.rg _ (List.getElem_mem h2)
      have e2 : ((i : Int) + 1) = ((i + 1 : Nat) : Int) := by omega
      rw [e2, show decide (((i + 1 : Nat) : Int) < (r.records.length : Int)) = true by simp; omega, iteP_true, idx_nat]
      show bindP (((r.records.map toItem))[i + 1]?) _ = _
      rw [List.getElem?_map, hy]
      simp only [Option.map_some, bindP_some, toItem, w_u16, Option.getD_some]
      congr 1; omega
    · rw [show decide ((i : Int) + 1 < (r.records.length : Int)) = false by simp; omega, iteP_false, List.getElem?_eq_none (by omega)]; rfl
  have hindex : ref11_Repository_index fuel (toRef r) id = some (if id = 0 ∧ 0 < r.records.length then 0 else rfind r.records id) := by
    unfold ref11_Repository_index
    simp only [joinP_eq, hi, wr (show -1000000000 ≤ id ∧ id ≤ 1000000000 by omega), r11Find_eq hl hf, bindP_some]
    by_cases h0 : id = 0
    · by_cases hp : 0 < r.records.length
      · simp [h0, hp]
      · have : r.records.length = 0 := by omega
        simp [h0, this]
    · rw [show (id == 0) = false from beq_eq_false_iff_ne.2 h0, iteP_false, iteP_false, if_neg (fun hc => h0 hc.1)]
  rw [hindex]
  by_cases h0 : id = 0
  · subst h0
    by_cases hp : 0 < r.records.length
    · refine .inr ⟨0, r.records[0], by simp [hp], by simp [hp], ?_, hnext 0 hp⟩
      unfold rlook; simp [hp]
    · have hnil : r.records = [] := List.eq_nil_of_length_eq_zero (by omega)
      refine .inl ⟨by unfold rlook; simp [hnil], _, rfl, ?_⟩
      rw [if_neg (by omega), hnil]; decide
  · have hne : ¬ (id = 0 ∧ 0 < r.records.length) := fun hc => h0 hc.1
    rw [if_neg hne]
    rcases rfind_cases r.records id with ⟨h1, _⟩ | ⟨i, x, h1, h2, h3⟩
    · exact .inl ⟨by unfold rlook; simp [h0, h1], _, rfl, by omega⟩
    · refine .inr ⟨i, x, by rw [h1], h2, ?_, hnext i (lt_len h2)⟩
      unfold rlook
      simp only [h0, if_false, h1, Int.toNat_natCast, h2]
      rw [if_neg (by omega)]; rfl
theorem r11Get_eq {fuel : Nat} {r : repository_Repository} (h : RR r) {id : Int} (hid : 0 ≤ id ∧ id ≤ 65535) (hf : 2000 < fuel) : ref11_Repository_Get fuel (toRef r) id = some (rget r id) := by
  unfold ref11_Repository_Get rget
  rcases r11look h hid (show 100 < fuel by omega) with ⟨h1, i, h2, h3⟩ | ⟨i, x, h1, h2, h3, h4⟩
  · rw [h2, bindP_some, decide_eq_true h3, iteP_true, h1]
  · have hx := h.rg x (List.mem_of_getElem? h2)
    rw [h1, bindP_some, show decide ((i : Int) < 0) = false by simp, iteP_false, idx_nat]
    show bindP (((r.records.map toItem))[i]?) _ = _
    rw [List.getElem?_map, h2]
    simp only [Option.map_some, bindP_some, toItem]
    rw [Copy_eq (by omega) (by omega), bindP_some, h4, bindP_some, h3]
theorem r11Read_eq {fuel : Nat} {r : repository_Repository} (h : RR r) {v id o c : Int} (hv : 0 ≤ v ∧ v ≤ 65535) (hid : 0 ≤ id ∧ id ≤ 65535) (hf : 2000 < fuel) : ref11_Repository_Read fuel (toRef r) v id o c = some (rread r v id o c) := by
  refine Ev.eq ?_
  unfold ref11_Repository_Read rread
  refine Ev.join (fun s => s = decide (o ≠ 0 ∧ rholds r v = false)) (fun s hs => ?_) (fun j hj => Ev.bne (fun ho => Ev.to (r11held_eq hv) (hj _ (by cases rholds r v <;> simp [ho]))) (fun ho => hj _ (by simp [ho])))
  subst hs
  by_cases hc : o ≠ 0 ∧ rholds r v = false
  · rw [if_pos hc]; exact Ev.decT hc (Ev.ret rfl)
  · rw [if_neg hc]
    refine Ev.decF hc ?_
    rcases r11look h hid (show 100 < fuel by omega) with ⟨h1, i, h2, h3⟩ | ⟨i, x, h1, h2, h3, h4⟩
    · rw [h1]; exact Ev.to h2 (Ev.decT h3 (Ev.ret rfl))
    · have hx := h.rg x (List.mem_of_getElem? h2)
      rw [h3]
      refine Ev.to h1 (Ev.decF (by omega) (Ev.to (a := toItem x) (by rw [idx_nat]; show ((r.records.map toItem))[i]? = _; rw [List.getElem?_map, h2]; rfl) ?_))
      refine Ev.join (fun s => s = decide (o < 0 ∨ c < 0 ∨ (x.bytes.length : Int) < o ∨ (x.bytes.length : Int) - o < c)) (fun s hs => ?_) (fun j hj => Ev.dec (fun h1 => hj _ (by rw [eq_comm, decide_eq_true_iff]; omega)) (fun h1 => Ev.dec (fun h2 => hj _ (by rw [eq_comm, decide_eq_true_iff]; omega)) (fun h2 => Ev.dec (fun h3 => hj _ (by have h3' : o > (x.bytes.length : Int) := h3; rw [eq_comm, decide_eq_true_iff]; omega)) (fun h3 => hj _ ?_))))
      · subst hs
        by_cases h5 : o < 0 ∨ c < 0 ∨ (x.bytes.length : Int) < o ∨ (x.bytes.length : Int) - o < c
        · simp only; rw [if_pos h5]; exact Ev.decT h5 (Ev.ret rfl)
        · simp only; rw [if_neg h5]
          refine Ev.decF h5 ?_
          rw [wr (by omega)]
          obtain ⟨n, rfl⟩ := Int.eq_ofNat_of_zero_le (show 0 ≤ o by omega)
          obtain ⟨m, rfl⟩ := Int.eq_ofNat_of_zero_le (show 0 ≤ c by omega)
          have e : ((n : Int) + (m : Int)) = ((n + m : Nat) : Int) := by omega
          rw [e]
          exact Ev.to (sub_ok (by omega) (by simp only [toItem]; omega)) (Ev.to (Copy_eq (by simp [toItem]; omega) (by simp [toItem]; omega)) (Ev.to h4 (Ev.ret (by simp [toItem]))))
      · have h3' : ¬ o > (x.bytes.length : Int) := h3
        have ew : IntKind.i64.wrap (((toItem x).Data.length : Int) - o) = (x.bytes.length : Int) - o := wr (by simp only [toItem]; omega)
        rw [ew, decide_eq_decide]; omega
theorem r11Delete_eq {fuel : Nat} {r : repository_Repository} (h : RR r) {v id : Int} (hv : 0 ≤ v ∧ v ≤ 65535) (hid : 0 ≤ id ∧ id ≤ 65535) (hf : 100 < fuel) :
    ref11_Repository_Delete fuel (toRef r) v id = some (if rholds r v = false then (11, toRef r) else if rfind r.records id < 0 then (8, toRef r) else (0, toRef (rdel r (rfind r.records id).toNat))) := by
  have hl := h.le
  have hi : (toRef r).Items.length = r.records.length := by simp [toRef]
  unfold ref11_Repository_Delete
  rw [r11held_eq hv, bindP_some, wr (by omega)]
  cases hh : rholds r v with
  | false => simp
  | true =>
    rw [show (!true) = false from rfl, iteP_false, if_neg (by simp), r11Find_eq hl hf, bindP_some]
    rcases rfind_cases r.records id with ⟨h1, _⟩ | ⟨i, x, h1, h2, h3⟩
    · rw [h1]; rfl
    · rw [h1, show decide ((i : Int) < 0) = false by simp, iteP_false, if_neg (by omega), Int.toNat_natCast]
      have hil := lt_len h2
      refine loop_run (fun j => ((j : Int), ((r.records.take j).eraseIdx i).map toItem)) r.records.length (by simp) (by omega) (fun j hj k => ?_) (fun k => ?_)
      · have hx : r.records[j]? = some r.records[j] := by simp [hj]
        rw [hi]
        simp only [show ((j : Int) < (r.records.length : Int)) by omega, decide_true, iteP_true, letP_eq]
        rw [wi j (by omega)]
        by_cases hji : j = i
        · subst hji
          rw [show ((j : Int) != (j : Int)) = false by simp, iteP_false]
          congr 3
          rw [List.take_add_one, hx, List.eraseIdx_of_length_le (l := r.records.take j) (by simp; omega)]
          have hlt : (r.records.take j).length = j := by simp; omega
          rw [List.eraseIdx_append_of_length_le (by omega), hlt, Nat.sub_self]; simp
        · rw [show ((j : Int) != (i : Int)) = true by simp; omega, iteP_true, idx_nat]
          show bindP (((r.records.map toItem))[j]?) _ = _
          rw [List.getElem?_map, hx]
          simp only [Option.map_some, bindP_some]
          have hle : (((r.records.take j).eraseIdx i).map toItem).length ≤ 64 := by
            have := List.length_eraseIdx_le (r.records.take j) i
            simp at this ⊢; omega
          rw [app_ok (by simp only [List.length_singleton]; omega), bindP_some]
          congr 2
          rw [List.take_add_one, hx]
          have hlt : (r.records.take j).length = j := by simp; omega
          rcases Nat.lt_or_ge i j with hlt2 | hge
          · rw [List.eraseIdx_append_of_lt_length (by omega)]; simp
          · rw [List.eraseIdx_append_of_length_le (by omega), List.eraseIdx_of_length_le (l := r.records.take j) (by omega), hlt, List.eraseIdx_of_length_le (by simp; omega), List.map_append]; rfl
      · simp only [hi, Int.lt_irrefl, decide_false, iteP_false, letP_eq, List.take_length]
        rw [List.eraseIdx_eq_take_drop_succ]; rfl
theorem r11Clear_eq {fuel : Nat} {r : repository_Repository} {v : Int} (hv : 0 ≤ v ∧ v ≤ 65535) : ref11_Repository_Clear fuel (toRef r) v = some (if rholds r v = false then (11, toRef r) else (0, toRef { r with records := [], held := false })) := by
  unfold ref11_Repository_Clear
  rw [r11held_eq hv, bindP_some]
  cases rholds r v <;> simp [toRef]
theorem r11IDs_eq {fuel : Nat} {r : repository_Repository} (h : RR r) (hf : 100 < fuel) : ref11_Repository_IDs fuel (toRef r) = some (r.records.map (·.id)) := by
  have hl := h.le
  have hi : (toRef r).Items.length = r.records.length := by simp [toRef]
  unfold ref11_Repository_IDs
  refine loop_run (fun i => ((i : Int), (r.records.take i).map (·.id))) r.records.length (by simp) (by omega) (fun i hil k => ?_) (fun k => ?_)
  · have hx : r.records[i]? = some r.records[i] := by simp [hil]
    have hr := h.rg _ (List.getElem_mem hil)
    rw [hi]
    simp only [show ((i : Int) < (r.records.length : Int)) by omega, decide_true, iteP_true, idx_nat]
    show bindP (((r.records.map toItem))[i]?) _ = _
    rw [List.getElem?_map, hx]
    simp only [Option.map_some, bindP_some, letP_eq, toItem, w_u16]
    have e16 : r.records[i].id % 65536 = r.records[i].id := by omega
    rw [app_ok (by simp; omega), bindP_some, wi i (by omega), List.take_add_one, hx, List.map_append, e16]; rfl
  · simp [hi, List.take_length]
theorem sameIDs_eq {fuel : Nat} {a b : List Int} (ha : a.length ≤ 100000) (hf : a.length < fuel) : law11_sameIDs fuel a b = some (decide (a = b)) := by
  unfold law11_sameIDs
  by_cases hl : a.length = b.length
  · have e0 : ((a.length : Int) != (b.length : Int)) = false := by simp [hl]
    rw [e0, iteP_false]
    refine same_loop hl ha hf (fun i x y hx hy k => ?_) (fun k => ?_)
    · have hi := lt_len hx
      simp only [show ((i : Int) < (a.length : Int)) by omega, decide_true, iteP_true, idx_nat, hx, hy, bindP_some, letP_eq, wi i (by omega), iteP_eq]
      by_cases e : x = y <;> simp [e]
    · simp
  · have e0 : ((a.length : Int) != (b.length : Int)) = true := by simp; omega
    rw [e0, iteP_true]
    have : a ≠ b := fun e => hl (by rw [e])
    simp [this]
theorem rread_len {r : repository_Repository} (h : RR r) (v id o c : Int) : (rread r v id o c).1.length ≤ 160 := by
  unfold rread
  split
  · simp
  · cases hp : rlook r id with
    | none => simp
    | some p =>
      have := rlook_len h hp
      simp only
      split
      · simp
      · simp; omega
theorem rget_len {r : repository_Repository} (h : RR r) (id : Int) : (rget r id).1.length ≤ 160 := by
  unfold rget
  cases hp : rlook r id with
  | none => simp
  | some p => exact rlook_len h hp
end Lift
