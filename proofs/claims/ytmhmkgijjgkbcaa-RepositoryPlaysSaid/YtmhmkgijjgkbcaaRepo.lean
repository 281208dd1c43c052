/- The repository in closed form. No program in sight. -/
import Derived.Test.YtmhmkgijjgkbcaaEach
import Derived.Test.YtmhmkgijjgkbcaaDicebytes
set_option linter.unusedVariables false
set_option linter.unusedSimpArgs false
namespace Lift
open Go

theorem Ev.eq {α : Type} {x : Option α} {a : α} (h : Ev x (fun y => y = a)) : x = some a := by obtain ⟨y, e, rfl⟩ := h; exact e
theorem wr {n : Int} (h : -1000000000 ≤ n ∧ n ≤ 1000000000) : IntKind.i64.wrap n = n := w_i64 (by omega) (by omega)
theorem w_u16 (n : Int) : IntKind.u16.wrap n = n % 65536 := by simp [IntKind.wrap, IntKind.bits, IntKind.signed]
/-- The first place of an element that is looked for, or -1. -/
def fidx {α : Type} (p : α → Bool) : List α → Int → Int
  | [], _ => -1
  | x :: l, i => if p x then i else fidx p l (i + 1)
theorem fidx_cases {α : Type} (p : α → Bool) : ∀ (l : List α) (b : Nat), (fidx p l b = -1 ∧ ∀ x ∈ l, p x = false) ∨ ∃ i x, fidx p l b = ((b + i : Nat) : Int) ∧ l[i]? = some x ∧ p x = true
  | [], b => .inl ⟨rfl, fun _ h => (by cases h)⟩
  | x :: l, b => by
    unfold fidx
    by_cases hp : p x = true
    · exact .inr ⟨0, x, by simp [hp], rfl, hp⟩
    · have hp' : p x = false := by simpa using hp
      rw [if_neg hp]
      have e : ((b : Int) + 1) = ((b + 1 : Nat) : Int) := by omega
      rw [e]
      rcases fidx_cases p l (b + 1) with ⟨h1, h2⟩ | ⟨i, y, h1, h2, h3⟩
      · refine .inl ⟨h1, fun y hy => ?_⟩
        rcases List.mem_cons.1 hy with rfl | hy
        · exact hp'
        · exact h2 y hy
      · exact .inr ⟨i + 1, y, by rw [h1]; omega, by simpa using h2, h3⟩
theorem fidx_map {α β : Type} (f : α → β) (p : β → Bool) : ∀ (l : List α) (b : Int), fidx p (l.map f) b = fidx (fun x => p (f x)) l b
  | [], _ => rfl
  | x :: l, b => by simp only [List.map_cons, fidx, fidx_map f p l]
theorem find_loop {α : Type} {l : List α} {p : α → Bool} {step : (Int → Option Int) → Int → Option Int} (hs : ∀ (i : Nat) x, l[i]? = some x → ∀ k, step k (i : Int) = if p x then some (i : Int) else k ((i : Int) + 1)) (he : ∀ k, step k (l.length : Int) = some (-1)) :
    ∀ (fuel i : Nat), i ≤ l.length → l.length - i < fuel → loopP step fuel (i : Int) = some (fidx p (l.drop i) i)
  | 0, i, _, hf => by omega
  | f + 1, i, hi, hf => by
    show step (loopP step f) (i : Int) = _
    by_cases hl : i < l.length
    · have hx : l[i]? = some l[i] := by simp [hl]
      rw [hs i _ hx, List.drop_eq_getElem_cons hl]
      simp only [fidx]
      by_cases hp : p l[i] = true
      · rw [if_pos hp, if_pos hp]
      · rw [if_neg hp, if_neg hp]
        have := find_loop hs he f (i + 1) (by omega) (by omega)
        simpa using this
    · have : i = l.length := by omega
      subst this
      rw [he, List.drop_length]; rfl

def rtot : List repository_record → Int
  | [] => 0
  | x :: l => (x.bytes.length : Int) + rtot l
theorem rtot_append (l m : List repository_record) : rtot (l ++ m) = rtot l + rtot m := by
  induction l with
  | nil => simp [rtot]
  | cons x l ih => simp only [List.cons_append, rtot, ih]; omega
theorem rtot_le {l : List repository_record} (h : ∀ x ∈ l, x.bytes.length ≤ 160) : 0 ≤ rtot l ∧ rtot l ≤ 160 * l.length := by
  induction l with
  | nil => simp [rtot]
  | cons x l ih =>
    have h1 := ih (fun y hy => h y (by simp [hy]))
    have h2 := h x (by simp)
    simp only [rtot, List.length_cons]; omega
theorem rtot_succ {l : List repository_record} {i : Nat} {x : repository_record} (h : l[i]? = some x) : rtot (l.take (i + 1)) = rtot (l.take i) + x.bytes.length := by
  rw [List.take_add_one, h, rtot_append]; simp [rtot]
theorem rtot_erase {l : List repository_record} {i : Nat} {x : repository_record} (h : l[i]? = some x) : rtot (l.take i ++ l.drop (i + 1)) + x.bytes.length = rtot l := by
  have e : l = l.take (i + 1) ++ l.drop (i + 1) := (List.take_append_drop _ _).symm
  have e2 := congrArg rtot e
  rw [rtot_append, rtot_succ h] at e2
  rw [rtot_append]; omega

/-- A repository that calls lead to. -/
structure RR (r : repository_Repository) : Prop where
  cap : 1 ≤ r.capacity ∧ r.capacity ≤ 10240
  le : r.records.length ≤ 64
  nd : (r.records.map (·.id)).Nodup
  rg : ∀ x ∈ r.records, 1 ≤ x.id ∧ x.id ≤ 65534 ∧ 1 ≤ x.bytes.length ∧ x.bytes.length ≤ 160
  tot : rtot r.records ≤ r.capacity
  lst : 0 ≤ r.last ∧ r.last ≤ 65534
  num : 0 ≤ r.number ∧ r.number ≤ 65535
def rfree (r : repository_Repository) : Int := r.capacity - rtot r.records
theorem RR.t {r : repository_Repository} (h : RR r) : 0 ≤ rtot r.records ∧ rtot r.records ≤ 160 * r.records.length := rtot_le (fun x hx => (h.rg x hx).2.2.2)
theorem Free_eq {fuel : Nat} {r : repository_Repository} (h : RR r) (hf : 100 < fuel) : repository_Repository_Free fuel r = some (rfree r) := by
  have hl := h.le
  unfold repository_Repository_Free
  refine loop_run (fun i => (r.capacity - rtot (r.records.take i), (i : Int))) r.records.length (by simp [rtot]) (by omega) (fun i hi k => ?_) (fun k => ?_)
  · have hx : r.records[i]? = some r.records[i] := by simp [hi]
    have h1 := rtot_le (l := r.records.take i) (fun x hx => (h.rg x (List.mem_of_mem_take hx)).2.2.2)
    have h2 := (h.rg _ (List.getElem_mem hi)).2.2.2
    have h3 : (r.records.take i).length ≤ 64 := by simp; omega
    have h4 := h.cap
    simp only [show ((i : Int) < (r.records.length : Int)) by omega, decide_true, iteP_true, idx_nat, hx, bindP_some, letP_eq]
    rw [wi i (by omega), wr (by omega), rtot_succ hx]
    congr 2
    · omega
  · simp [rfree, List.take_length]

def rfind (l : List repository_record) (id : Int) : Int := fidx (fun x => x.id == id) l 0
theorem find_eq {fuel : Nat} {r : repository_Repository} {id : Int} (hl : r.records.length ≤ 64) (hf : 100 < fuel) : repository_Repository_find fuel r id = some (rfind r.records id) := by
  unfold repository_Repository_find slices_IndexFunc_repository_record_repository_record_repository_Repository_find_1
  have := find_loop (l := r.records) (p := fun x => x.id == id) (step := fun k1 (s1 : Int) => iteP (decide (s1 < (r.records.length : Int))) (bindP (idx r.records s1) fun x1 => bindP (repository_Repository_find_1_2 fuel x1 id) fun y1 => iteP y1 (some s1) (k1 ((IntKind.i64.wrap (s1 + 1))))) (some (-1)))
    (fun i x hx k => by
      have hi := lt_len hx
      simp only [show ((i : Int) < (r.records.length : Int)) by omega, decide_true, iteP_true, idx_nat, hx, bindP_some, repository_Repository_find_1_2, letP_eq, wi i (by omega), iteP_eq, if_true]) (fun k => by simp) fuel 0 (by omega) (by omega)
  exact congrArg (fun z => bindP z fun y1 => some y1) this
theorem rfind_cases (l : List repository_record) (id : Int) : (rfind l id = -1 ∧ ∀ x ∈ l, x.id ≠ id) ∨ ∃ (i : Nat) (x : repository_record), rfind l id = (i : Int) ∧ l[i]? = some x ∧ x.id = id := by
  rcases fidx_cases (fun x : repository_record => x.id == id) l 0 with ⟨h1, h2⟩ | ⟨i, x, h1, h2, h3⟩
  · exact .inl ⟨h1, fun x hx => by simpa using h2 x hx⟩
  · exact .inr ⟨i, x, by simpa [rfind] using h1, h2, by simpa using h3⟩
theorem rfind_at {l : List repository_record} (hn : (l.map (·.id)).Nodup) {k : Nat} {x : repository_record} (hx : l[k]? = some x) : rfind l x.id = (k : Int) := by
  rcases rfind_cases l x.id with ⟨_, h2⟩ | ⟨i, y, h1, h2, h3⟩
  · exact absurd rfl (h2 x (List.mem_of_getElem? hx))
  · rw [h1]
    obtain ⟨hk, ek⟩ := List.getElem?_eq_some_iff.1 hx
    obtain ⟨hi, ei⟩ := List.getElem?_eq_some_iff.1 h2
    have e1 : (l.map (·.id))[i]'(by simpa using hi) = (l.map (·.id))[k]'(by simpa using hk) := by simp [ei, ek, h3]
    rcases Nat.lt_trichotomy i k with hlt | rfl | hlt
    · exact absurd e1 (List.pairwise_iff_getElem.1 hn i k (by simpa using hi) (by simpa using hk) hlt)
    · rfl
    · exact absurd e1.symm (List.pairwise_iff_getElem.1 hn k i (by simpa using hk) (by simpa using hi) hlt)
theorem rfind_none {l : List repository_record} {id : Int} (h : id ∉ l.map (·.id)) : rfind l id = -1 := by
  rcases rfind_cases l id with ⟨h1, _⟩ | ⟨i, x, _, h2, h3⟩
  · exact h1
  · exact absurd (List.mem_map.2 ⟨x, List.mem_of_getElem? h2, h3⟩) h
theorem rfind_mem {l : List repository_record} {id : Int} (h : id ∈ l.map (·.id)) : 0 ≤ rfind l id := by
  rcases rfind_cases l id with ⟨_, h2⟩ | ⟨i, x, h1, _, _⟩
  · obtain ⟨x, hx, e⟩ := List.mem_map.1 h
    exact absurd e (h2 x hx)
  · omega

theorem loopP_succ {σ β : Type} {step : (σ → Option β) → σ → Option β} {n : Nat} {s : σ} : loopP step (n + 1) s = step (loopP step n) s := rfl
/-! ### the next free ID -/
def nxt (x : Int) : Int := x % 65534 + 1
def srch : Nat → List Int → Int → Int
  | 0, _, x => x
  | n + 1, ids, x => if nxt x ∈ ids then srch n ids (nxt x) else nxt x
theorem nodup_len {l : List Int} : ∀ {m : List Int}, l.Nodup → (∀ x ∈ l, x ∈ m) → l.length ≤ m.length := by
  induction l with
  | nil => intro m _ _; simp
  | cons x l ih =>
    intro m hn hs
    have hx := hs x (by simp)
    obtain ⟨h1, h2⟩ := List.nodup_cons.1 hn
    have := ih (m := m.erase x) h2 (fun y hy => (List.mem_erase_of_ne (fun e => h1 (by rw [← e]; exact hy))).2 (hs y (by simp [hy])))
    have h3 := List.length_erase_of_mem hx
    have h4 := List.length_pos_of_mem hx
    simp only [List.length_cons]; omega
theorem srch_all {ids : List Int} : ∀ (n : Nat) (x : Int), srch n ids x ∈ ids → ∀ j : Nat, j < n → (x % 65534 + j) % 65534 + 1 ∈ ids
  | 0, x, _, j, hj => by omega
  | n + 1, x, h, j, hj => by
    unfold srch at h
    by_cases hm : nxt x ∈ ids
    · rw [if_pos hm] at h
      cases j with
      | zero => have e : (x % 65534 + (0 : Nat)) % 65534 + 1 = nxt x := by simp [nxt]
                rw [e]; exact hm
      | succ j =>
        have := srch_all n (nxt x) h j (by omega)
        have e : (nxt x % 65534 + (j : Int)) % 65534 + 1 = (x % 65534 + ((j + 1 : Nat) : Int)) % 65534 + 1 := by unfold nxt; omega
        rw [← e]; exact this
    · rw [if_neg hm] at h; exact absurd h hm
theorem srch_free {ids : List Int} {x : Int} (hl : ids.length ≤ 64) : srch 65 ids x ∉ ids := by
  intro h
  have hall := srch_all 65 x h
  have hn : ((List.range 65).map (fun j : Nat => (x % 65534 + (j : Int)) % 65534 + 1)).Nodup := by
    unfold List.Nodup
    rw [List.pairwise_map]
    exact List.Pairwise.imp_of_mem (fun {a b} ha hb hab => by
      have := List.mem_range.1 ha
      have := List.mem_range.1 hb
      omega) List.pairwise_lt_range
  have := nodup_len hn (m := ids) (fun y hy => by
    obtain ⟨j, hj, rfl⟩ := List.mem_map.1 hy
    exact hall j (List.mem_range.1 hj))
  simp at this; omega
theorem srch_rg {ids : List Int} : ∀ (n : Nat) (x : Int), 1 ≤ x ∧ x ≤ 65534 → 1 ≤ srch n ids x ∧ srch n ids x ≤ 65534
  | 0, x, h => h
  | n + 1, x, h => by
    unfold srch
    have h2 : 1 ≤ nxt x ∧ nxt x ≤ 65534 := by unfold nxt; omega
    split
    · exact srch_rg n _ h2
    · exact h2
def rid (r : repository_Repository) : Int := srch 65 (r.records.map (·.id)) r.last
theorem rid_rg (r : repository_Repository) : 1 ≤ rid r ∧ rid r ≤ 65534 := by
  unfold rid srch
  have h2 : 1 ≤ nxt r.last ∧ nxt r.last ≤ 65534 := by unfold nxt; omega
  split
  · exact srch_rg _ _ h2
  · exact h2
theorem rid_free {r : repository_Repository} (h : RR r) : rid r ∉ r.records.map (·.id) := srch_free (by have := h.le; simpa using this)
theorem tm16 {x : Int} (h : 0 ≤ x ∧ x ≤ 65534) : IntKind.u16.wrap (Int.tmod x 65534 + 1) = nxt x := by
  rw [w_u16, Int.tmod_eq_emod_of_nonneg h.1]; unfold nxt; omega
theorem tm64' {x : Int} (h : 0 ≤ x ∧ x ≤ 65534) : IntKind.i64.wrap (Int.tmod x 65534 + 1) = nxt x := by
  rw [Int.tmod_eq_emod_of_nonneg h.1, wr (by omega)]; rfl
def radd (r : repository_Repository) (b : List Int) : repository_Repository := { r with records := r.records ++ [⟨rid r, b⟩], last := rid r, held := false }
theorem add_loop {fuel0 : Nat} {r : repository_Repository} {b : List Int} (hl : r.records.length ≤ 64) (hb : b.length ≤ 1000) (hf0 : 100 < fuel0) : ∀ (n fuel : Nat) (x : Int), 0 ≤ x ∧ x ≤ 65534 → n < fuel → 0 < n → srch n (r.records.map (·.id)) x ∉ r.records.map (·.id) →
    loopP (fun k1 (s2 : repository_Repository) =>
      letP ({ s2 with last := (IntKind.u16.wrap ((Int.tmod s2.last 65534) + 1)) }) fun d1 =>
      bindP (repository_Repository_find fuel0 ({ d1 with records := s2.records }) d1.last) fun y2 =>
      iteP (decide (y2 < 0)) (
      bindP (slices_Clone_byte_byte fuel0 b) fun y3 =>
      bindP (app 32 s2.records ([(⟨({ d1 with records := s2.records }).last, y3⟩ : repository_record)])) fun x3 =>
      letP ({ { d1 with records := s2.records } with held := false }) fun d2 =>
      some (d2.last, (0 : Int), { d2 with records := x3 })) (
      k1 ({ d1 with records := s2.records }))) fuel { r with last := x } = some (srch n (r.records.map (·.id)) x, 0, { r with records := r.records ++ [⟨srch n (r.records.map (·.id)) x, b⟩], last := srch n (r.records.map (·.id)) x, held := false })
  | 0, _, _, _, _, h, _ => by omega
  | n + 1, 0, _, _, h, _, _ => by omega
  | n + 1, f + 1, x, hx, hf, _, hs => by
    rw [loopP_succ]
    simp only [letP_eq, tm16 hx]
    rw [find_eq (by exact hl) hf0, bindP_some]
    by_cases hm : nxt x ∈ r.records.map (·.id)
    · have h0 := rfind_mem hm
      have e : srch (n + 1) (r.records.map (·.id)) x = srch n (r.records.map (·.id)) (nxt x) := by rw [srch, if_pos hm]
      rw [e] at hs ⊢
      have hn : 0 < n := by
        rcases Nat.eq_zero_or_pos n with rfl | h
        · exact absurd hm hs
        · exact h
      rw [show decide (rfind r.records (nxt x) < 0) = false by simp; omega, iteP_false]
      exact add_loop hl hb hf0 n f (nxt x) (by unfold nxt; omega) (by omega) hn hs
    · have e : srch (n + 1) (r.records.map (·.id)) x = nxt x := by rw [srch, if_neg hm]
      rw [e, rfind_none hm]
      rw [show decide ((-1 : Int) < 0) = true from rfl, iteP_true, clone_eq (by omega), bindP_some, app_ok (by simp; omega), bindP_some]
theorem Add_eq {fuel : Nat} {r : repository_Repository} (h : RR r) {b : List Int} (hb : b.length ≤ 1000) (hf : 100 < fuel) :
    repository_Repository_Add fuel r b = some (if b.length = 0 ∨ 160 < b.length then (0, 1, r) else if r.records.length = 64 then (0, 3, r) else if rfree r < (b.length : Int) then (0, 9, r) else (rid r, 0, radd r b)) := by
  have hl := h.le
  have key := add_loop (r := r) (b := b) hl hb hf 65 fuel r.last h.lst (by omega) (by omega) (rid_free h)
  refine Ev.eq ?_
  unfold repository_Repository_Add
  refine Ev.join (fun s => s = decide (b.length = 0 ∨ 160 < b.length)) (fun s hs => ?_) (fun j hj => Ev.beq (fun h1 => hj _ (by rw [eq_comm, decide_eq_true_iff]; omega)) (fun h1 => Ev.letP (hj _ (by rw [decide_eq_decide]; omega))))
  subst hs
  by_cases h1 : b.length = 0 ∨ 160 < b.length
  · exact Ev.decT h1 (Ev.ret (by rw [if_pos h1]))
  refine Ev.decF h1 (Ev.letP (Ev.beq (fun h3 => Ev.ret (by rw [if_neg h1, if_pos (by omega)])) (fun h3 => Ev.to (Free_eq h hf) (Ev.letP (Ev.dec (fun h4 => Ev.ret (by rw [if_neg h1, if_neg (by omega), if_pos (by omega)])) (fun h4 => ?_))))))
  rw [if_neg h1, if_neg (by omega), if_neg (by omega)]
  exact ⟨_, key, rfl⟩
theorem RR.add {r : repository_Repository} (h : RR r) {b : List Int} (h1 : ¬ (b.length = 0 ∨ 160 < b.length)) (h2 : ¬ r.records.length = 64) (h3 : ¬ rfree r < (b.length : Int)) : RR (radd r b) := by
  have hl := h.le
  refine ⟨h.cap, by simp [radd]; omega, ?_, fun x hx => ?_, ?_, ?_, h.num⟩
  · simp only [radd, List.map_append, List.map_cons, List.map_nil]
    refine List.nodup_append.2 ⟨h.nd, by simp, fun a ha b hb e => ?_⟩
    simp at hb; subst hb; subst e
    exact rid_free h ha
  · rcases List.mem_append.1 hx with hx | hx
    · exact h.rg x hx
    · simp at hx; subst hx
      have := rid_rg r
      exact ⟨this.1, this.2, by simp only; omega, by simp only; omega⟩
  · simp only [radd, rtot_append, rtot]; unfold rfree at h3; omega
  · have := rid_rg r; simp only [radd]; omega

def rres (r : repository_Repository) : repository_Repository := { r with number := r.number % 65535 + 1, held := true }
theorem Reserve_eq {fuel : Nat} {r : repository_Repository} (h : 0 ≤ r.number ∧ r.number ≤ 65535) : repository_Repository_Reserve fuel r = some ((rres r).number, rres r) := by
  unfold repository_Repository_Reserve
  simp only [joinP_eq, letP_eq, w_u16]
  by_cases h1 : r.number = 65535
  · rw [show (r.number == 65535) = true by simpa using h1, iteP_true]
    simp [rres, h1]
  · rw [show (r.number == 65535) = false by simpa using h1, iteP_false]
    have e : (r.number + 1) % 65536 = r.number % 65535 + 1 := by omega
    simp only [e]; rfl
theorem RR.res {r : repository_Repository} (h : RR r) : RR (rres r) := ⟨h.cap, h.le, h.nd, h.rg, h.tot, h.lst, by simp only [rres]; omega⟩
def rholds (r : repository_Repository) (v : Int) : Bool := r.held && v == r.number
theorem holds_eq {fuel : Nat} {r : repository_Repository} {v : Int} : repository_Repository_holds fuel r v = some (rholds r v) := by
  unfold repository_Repository_holds rholds
  cases r.held <;> simp
/-- The record under an ID and the ID of the next one. -/
def rlook (r : repository_Repository) (id : Int) : Option (List Int × Int) :=
  let i := if id = 0 then 0 else rfind r.records id
  if i < 0 then none else (r.records[i.toNat]?).map fun x => (x.bytes, ((r.records[i.toNat + 1]?).map (·.id)).getD 0)
theorem look_eq {fuel : Nat} {r : repository_Repository} {id : Int} (hl : r.records.length ≤ 64) (hf : 100 < fuel) :
    repository_Repository_look fuel r id = some (match rlook r id with | some p => (p.1, p.2, 0) | none => ([], 0, 8)) := by
  have hi : ∃ i : Int, (if id = 0 then 0 else rfind r.records id) = i ∧ (i = -1 ∨ ∃ n : Nat, i = n) := by
    refine ⟨_, rfl, ?_⟩
    split
    · exact .inr ⟨0, rfl⟩
    · rcases rfind_cases r.records id with ⟨h, _⟩ | ⟨n, _, h, _⟩
      · exact .inl h
      · exact .inr ⟨n, h⟩
  obtain ⟨i, ei, hi⟩ := hi
  refine Ev.eq ?_
  unfold repository_Repository_look
  refine Ev.to (find_eq hl hf) (Ev.join (fun s => s = i) (fun s hs => ?_) (fun j hj => Ev.beq (fun h => hj _ (by rw [← ei, if_pos h])) (fun h => hj _ (by rw [← ei, if_neg h]))))
  subst hs
  unfold rlook
  rw [ei]
  refine Ev.join (fun q => q = decide (s < 0 ∨ s ≥ (r.records.length : Int))) (fun q hq => ?_) (fun j hj => Ev.dec (fun h => hj _ (by simp [h])) (fun h => hj _ (by simp [h])))
  subst hq
  rcases hi with rfl | ⟨n, rfl⟩
  · exact Ev.decT (.inl (by decide)) (Ev.ret (by simp))
  · simp only [show ¬ (n : Int) < 0 by omega, if_false, Int.toNat_natCast]
    by_cases hn : n < r.records.length
    · have hx : r.records[n]? = some r.records[n] := by simp [hn]
      refine Ev.decF (fun h => by rcases h with h | h; exact h; omega) ?_
      rw [hx]
      refine Ev.join (fun q => q = ((r.records[n + 1]?).map (·.id)).getD 0) (fun q hq => Ev.to (by rw [idx_nat, hx]) (Ev.ret (by rw [hq]; rfl))) (fun j hj => ?_)
      rw [wi n (by omega)]
      have e2 : ((n : Int) + 1) = ((n + 1 : Nat) : Int) := by omega
      rw [e2]
      refine Ev.dec (fun h2 => ?_) (fun h2 => hj _ (by rw [List.getElem?_eq_none (by omega)]; rfl))
      have hy : r.records[n + 1]? = some (r.records[n + 1]'(by omega)) := by simp
      exact Ev.to (by rw [idx_nat, hy]) (hj _ (by rw [hy]; rfl))
    · refine Ev.decT (.inr (show (n : Int) ≥ (r.records.length : Int) by omega)) (Ev.ret ?_)
      rw [List.getElem?_eq_none (l := r.records) (i := n) (by omega)]; rfl
theorem rlook_len {r : repository_Repository} (h : RR r) {id : Int} {p : List Int × Int} (hp : rlook r id = some p) : p.1.length ≤ 160 := by
  unfold rlook at hp
  generalize (if id = 0 then 0 else rfind r.records id) = i at hp
  simp only at hp
  by_cases h0 : i < 0
  · rw [if_pos h0] at hp; cases hp
  · rw [if_neg h0] at hp
    cases hx : r.records[i.toNat]? with
    | none => rw [hx] at hp; cases hp
    | some x => rw [hx] at hp; cases hp; exact (h.rg x (List.mem_of_getElem? hx)).2.2.2
def rget (r : repository_Repository) (id : Int) : List Int × Int × Int := match rlook r id with | some p => (p.1, p.2, 0) | none => ([], 0, 8)
theorem Get_eq {fuel : Nat} {r : repository_Repository} (h : RR r) {id : Int} (hf : 100 < fuel) : repository_Repository_Get fuel r id = some (rget r id) := by
  unfold repository_Repository_Get
  rw [look_eq h.le hf, bindP_some]
  unfold rget
  cases hp : rlook r id with
  | none => simp only; rw [clone_eq (by simp), bindP_some]
  | some p => simp only; rw [clone_eq (by have := rlook_len h hp; omega), bindP_some]
def rread (r : repository_Repository) (v id o c : Int) : List Int × Int × Int :=
  if o ≠ 0 ∧ rholds r v = false then ([], 0, 11) else
  match rlook r id with
  | none => ([], 0, 8)
  | some p => if o < 0 ∨ c < 0 ∨ (p.1.length : Int) < o ∨ (p.1.length : Int) - o < c then ([], 0, 2) else ((p.1.drop o.toNat).take c.toNat, p.2, 0)
theorem Read_eq {fuel : Nat} {r : repository_Repository} (h : RR r) {v id o c : Int} (hf : 100 < fuel) : repository_Repository_Read fuel r v id o c = some (rread r v id o c) := by
  refine Ev.eq ?_
  unfold repository_Repository_Read rread
  refine Ev.join (fun s => s = decide (o ≠ 0 ∧ rholds r v = false)) (fun s hs => ?_) (fun j hj => Ev.bne (fun ho => Ev.to holds_eq (hj _ (by cases rholds r v <;> simp [ho]))) (fun ho => hj _ (by simp [ho])))
  subst hs
  by_cases hc : o ≠ 0 ∧ rholds r v = false
  · rw [if_pos hc]; exact Ev.decT hc (Ev.ret rfl)
  · rw [if_neg hc]
    refine Ev.decF hc (Ev.to (look_eq h.le hf) (Ev.letP ?_))
    cases hp : rlook r id with
    | none => exact Ev.bneT (by decide) (Ev.ret rfl)
    | some p =>
      have hl := rlook_len h hp
      refine Ev.bneF rfl (Ev.join (fun s => s = decide (o < 0 ∨ c < 0 ∨ (p.1.length : Int) < o ∨ (p.1.length : Int) - o < c)) (fun s hs => ?_) (fun j hj => Ev.dec (fun h1 => hj _ (by rw [eq_comm, decide_eq_true_iff]; omega)) (fun h1 => Ev.dec (fun h2 => hj _ (by rw [eq_comm, decide_eq_true_iff]; omega)) (fun h2 => Ev.dec (fun h3 => hj _ (by have h3' : o > (p.1.length : Int) := h3; rw [eq_comm, decide_eq_true_iff]; omega)) (fun h3 => Ev.letP (hj _ ?_))))))
      · subst hs
        by_cases h5 : o < 0 ∨ c < 0 ∨ (p.1.length : Int) < o ∨ (p.1.length : Int) - o < c
        · simp only; rw [if_pos h5]; exact Ev.decT h5 (Ev.ret rfl)
        · simp only; rw [if_neg h5]
          refine Ev.decF h5 ?_
          rw [wr (by omega)]
          obtain ⟨n, rfl⟩ := Int.eq_ofNat_of_zero_le (show 0 ≤ o by omega)
          obtain ⟨m, rfl⟩ := Int.eq_ofNat_of_zero_le (show 0 ≤ c by omega)
          have e : ((n : Int) + (m : Int)) = ((n + m : Nat) : Int) := by omega
          rw [e]
          exact Ev.to (sub_ok (by omega) (by omega)) (Ev.to (clone_eq (by simp; omega)) (Ev.ret (by simp)))
      · have h3' : ¬ o > (p.1.length : Int) := h3
        simp only
        rw [wr (by omega), decide_eq_decide]; omega
def rdel (r : repository_Repository) (i : Nat) : repository_Repository := { r with records := r.records.take i ++ r.records.drop (i + 1), held := false }
theorem Del_eq {fuel : Nat} {l : List repository_record} {i : Nat} (hi : i < l.length) (hl : l.length ≤ 64) : slices_Delete_repository_record_repository_record fuel l (i : Int) (IntKind.i64.wrap ((i : Int) + 1)) = some (l.take i ++ l.drop (i + 1)) := by
  unfold slices_Delete_repository_record_repository_record
  rw [wi i (by omega)]
  have e : ((i : Int) + 1) = ((i + 1 : Nat) : Int) := by omega
  have hlen : (l.take i ++ l.drop (i + 1)).length = l.length - 1 := by simp; omega
  simp only [e, Int.toNat_natCast, hlen]
  rw [decide_eq_true (by omega), chk_true, bindP_some, show ((i : Int) == ((i + 1 : Nat) : Int)) = false by simp; omega, iteP_false, decide_eq_true (by omega), chk_true, bindP_some, decide_eq_true (by omega), chk_true, bindP_some,
    decide_eq_true (by omega), chk_true, bindP_some, decide_eq_true (by omega), chk_true, bindP_some, decide_eq_true (by omega), chk_true, bindP_some]
theorem Delete_eq {fuel : Nat} {r : repository_Repository} (h : RR r) {v id : Int} (hf : 100 < fuel) :
    repository_Repository_Delete fuel r v id = some (if rholds r v = false then (11, r) else if rfind r.records id < 0 then (8, r) else (0, rdel r (rfind r.records id).toNat)) := by
  have hl := h.le
  unfold repository_Repository_Delete
  rw [find_eq hl hf, bindP_some, holds_eq, bindP_some]
  simp only [letP_eq]
  cases hh : rholds r v with
  | false => simp
  | true =>
    rw [show (!true) = false from rfl, iteP_false, if_neg (by simp)]
    rcases rfind_cases r.records id with ⟨h1, _⟩ | ⟨i, x, h1, h2, h3⟩
    · rw [h1]; rfl
    · rw [h1, show decide ((i : Int) < 0) = false by simp, iteP_false, if_neg (by omega), Del_eq (lt_len h2) hl, bindP_some]
      rfl
theorem RR.del {r : repository_Repository} (h : RR r) {i : Nat} : RR (rdel r i) := by
  have hl := h.le
  have hsub : List.Sublist (r.records.take i ++ r.records.drop (i + 1)) r.records := by
    rw [← List.eraseIdx_eq_take_drop_succ]; exact List.eraseIdx_sublist _ _
  refine ⟨h.cap, by simp [rdel]; omega, (hsub.map _).nodup h.nd, fun x hx => h.rg x (hsub.subset hx), ?_, h.lst, h.num⟩
  simp only [rdel]
  by_cases hi : i < r.records.length
  · have := rtot_erase (l := r.records) (i := i) (x := r.records[i]) (by simp [hi])
    have := h.tot; omega
  · rw [List.take_of_length_le (by omega), List.drop_of_length_le (by omega), List.append_nil]; exact h.tot
theorem Clear_eq {fuel : Nat} {r : repository_Repository} {v : Int} : repository_Repository_Clear fuel r v = some (if rholds r v = false then (11, r) else (0, { r with records := [], held := false })) := by
  unfold repository_Repository_Clear
  rw [holds_eq, bindP_some]
  cases rholds r v <;> simp
theorem RR.clear {r : repository_Repository} (h : RR r) : RR { r with records := [], held := false } :=
  ⟨h.cap, by simp, by simp, fun x hx => (by cases hx), by have := h.cap; simp only [rtot]; omega, h.lst, h.num⟩
theorem IDs_eq {fuel : Nat} {r : repository_Repository} (hl : r.records.length ≤ 64) (hf : 100 < fuel) : repository_Repository_IDs fuel r = some (r.records.map (·.id)) := by
  unfold repository_Repository_IDs
  refine loop_run (fun i => ((i : Int), (r.records.take i).map (·.id))) r.records.length (by simp) (by omega) (fun i hi k => ?_) (fun k => ?_)
  · have hx : r.records[i]? = some r.records[i] := by simp [hi]
    simp only [show ((i : Int) < (r.records.length : Int)) by omega, decide_true, iteP_true, idx_nat, hx, bindP_some]
    rw [app_ok (by simp; omega), bindP_some, wi i (by omega), List.take_add_one, hx, List.map_append]; rfl
  · simp [List.take_length]
def rnew (n : Int) : repository_Repository := ⟨n, [], 0, 0, false⟩
theorem New_eq (fuel : Nat) (n : Int) : repository_New fuel n = some (if n < 1 ∨ 10240 < n then (none, 2) else (some (rnew n), 0)) := by
  unfold repository_New
  simp only [joinP_eq]
  by_cases h1 : n < 1
  · simp [h1]
  · by_cases h2 : 10240 < n
    · simp [h1, h2]
    · simp [h1, h2, rnew]
theorem New_ok (fuel : Nat) {n : Int} (h : 1 ≤ n ∧ n ≤ 10240) : repository_New fuel n = some (some (rnew n), 0) := by rw [New_eq, if_neg (by omega)]
theorem rnew_RR {n : Int} (h : 1 ≤ n ∧ n ≤ 10240) : RR (rnew n) := ⟨h, by simp [rnew], by simp [rnew], fun x hx => (by cases hx), by simp only [rnew, rtot]; omega, by simp [rnew], by simp [rnew]⟩
theorem law11_awake_eq : law11_awake 10000 = some true := by decide +kernel
end Lift
