import Derived.Test.YtahlmfpllhmjoaaGreatDoorTopk
set_option linter.unusedVariables false
set_option linter.unusedSimpArgs false
namespace Lift
open Go
def recs : Nat → List (List Int) → List repository_record
  | _, [] => []
  | i, b :: t => ⟨((i + 1 : Nat) : Int), b⟩ :: recs (i + 1) t
theorem recs_len : ∀ (bs : List (List Int)) (i : Nat), (recs i bs).length = bs.length
  | [], _ => rfl
  | b :: t, i => by simp [recs, recs_len t]
theorem recs_at : ∀ (bs : List (List Int)) (i j : Nat) (b : List Int), bs[j]? = some b → (recs i bs)[j]? = some ⟨((i + j + 1 : Nat) : Int), b⟩
  | [], _, _, _, h => by simp at h
  | c :: t, i, 0, b, h => by simp at h; subst h; rfl
  | c :: t, i, j + 1, b, h => by
    have := recs_at t (i + 1) j b (by simpa using h)
    simp only [recs, List.getElem?_cons_succ]
    rw [this]; congr 3; omega
theorem recs_snoc : ∀ (bs : List (List Int)) (i : Nat) (b : List Int), recs i (bs ++ [b]) = recs i bs ++ [⟨((i + bs.length + 1 : Nat) : Int), b⟩]
  | [], i, b => rfl
  | c :: t, i, b => by
    simp only [List.cons_append, recs, recs_snoc t, List.length_cons]
    congr 5; omega
structure BS (bs : List (List Int)) : Prop where
  len : bs.length ≤ 5
  each : ∀ b ∈ bs, 1 ≤ b.length ∧ b.length ≤ 160
theorem find_hit {fuel : Nat} (hf : 100 < fuel) {bs : List (List Int)} (h : BS bs) {j : Nat} (hj : j < bs.length) : Ev (slices_IndexFunc_repository_record_repository_record_repository_Repository_find_1 fuel (recs 0 bs) ((j + 1 : Nat) : Int)) (fun y => y = j) := by
  unfold slices_IndexFunc_repository_record_repository_record_repository_Repository_find_1
  have hl := recs_len bs 0
  have h5 := h.len
  refine Ev.loop (fun (n : Nat) (i : Int) => ∃ k : Nat, i = k ∧ k + n = bs.length ∧ k ≤ j) (fun n i hI self hself => ?_) (n := bs.length) (by omega) ⟨0, rfl, by omega, by omega⟩
  obtain ⟨k, rfl, k2, k3⟩ := hI
  have hk : k < bs.length := by omega
  obtain ⟨b, be⟩ : ∃ b, bs[k]? = some b := ⟨_, List.getElem?_eq_getElem hk⟩
  have hx : idx (recs 0 bs) (k : Int) = some ⟨((0 + k + 1 : Nat) : Int), b⟩ := by rw [idx_nat]; exact recs_at bs 0 k b be
  have hw : IntKind.i64.wrap ((k : Int) + 1) = ((k + 1 : Nat) : Int) := by rw [w_i64 (by omega) (by omega)]; rfl
  refine Ev.decT (by omega) (Ev.to hx (Ev.bind (P := fun y => y = decide (k = j)) ?_ (fun y hy => ?_)))
  · unfold repository_Repository_find_1_2
    refine Ev.letP (Ev.ret ?_)
    simp only
    by_cases e : k = j
    · subst e; simp
    · simp [e]; omega
  · subst hy
    refine Ev.dec (fun e => Ev.ret (by omega)) (fun e => by rw [hw]; exact hself (n - 1) _ (by omega) ⟨k + 1, rfl, by omega, by omega⟩)
theorem find_miss {fuel : Nat} (hf : 100 < fuel) {bs : List (List Int)} (h : BS bs) : Ev (slices_IndexFunc_repository_record_repository_record_repository_Repository_find_1 fuel (recs 0 bs) ((bs.length + 1 : Nat) : Int)) (fun y => y = -1) := by
  unfold slices_IndexFunc_repository_record_repository_record_repository_Repository_find_1
  have hl := recs_len bs 0
  have h5 := h.len
  refine Ev.loop (fun (n : Nat) (i : Int) => ∃ k : Nat, i = k ∧ k + n = bs.length) (fun n i hI self hself => ?_) (n := bs.length) (by omega) ⟨0, rfl, by omega⟩
  obtain ⟨k, rfl, k2⟩ := hI
  refine Ev.dec (fun hlt => ?_) (fun _ => Ev.ret rfl)
  have hk : k < bs.length := by omega
  obtain ⟨b, be⟩ : ∃ b, bs[k]? = some b := ⟨_, List.getElem?_eq_getElem hk⟩
  have hx : idx (recs 0 bs) (k : Int) = some ⟨((0 + k + 1 : Nat) : Int), b⟩ := by rw [idx_nat]; exact recs_at bs 0 k b be
  have hw : IntKind.i64.wrap ((k : Int) + 1) = ((k + 1 : Nat) : Int) := by rw [w_i64 (by omega) (by omega)]; rfl
  refine Ev.to hx (Ev.bind (P := fun y => y = false) ?_ (fun y hy => Ev.iteF hy (by rw [hw]; exact hself (n - 1) _ (by omega) ⟨k + 1, rfl, by omega⟩)))
  unfold repository_Repository_find_1_2
  refine Ev.letP (Ev.ret ?_)
  simp; omega
theorem free_ev {fuel : Nat} (hf : 100 < fuel) {bs : List (List Int)} (h : BS bs) (a b c : Int) (d : Bool) : Ev (repository_Repository_Free fuel ⟨800, recs 0 bs, a, b, d⟩) (fun y => 800 - 160 * (bs.length : Int) ≤ y) := by
  unfold repository_Repository_Free
  have hl := recs_len bs 0
  have h5 := h.len
  refine Ev.loop (fun (n : Nat) (x : Int × Int) => ∃ k : Nat, x.2 = k ∧ k + n = bs.length ∧ 800 - 160 * (k : Int) ≤ x.1 ∧ x.1 ≤ 800) (fun n x hI self hself => ?_) (n := bs.length) (by omega) ⟨0, rfl, by omega, by simp, by simp⟩
  obtain ⟨acc, pos⟩ := x
  obtain ⟨k, k1, k2, k3, k4⟩ := hI
  simp only at k1 k3 k4 ⊢
  subst k1
  refine Ev.dec (fun hlt => ?_) (fun _ => Ev.ret (by omega))
  have hk : k < bs.length := by omega
  obtain ⟨b', be⟩ : ∃ b, bs[k]? = some b := ⟨_, List.getElem?_eq_getElem hk⟩
  have hb := h.each b' (List.mem_of_getElem? be)
  have hx : idx (recs 0 bs) (k : Int) = some ⟨((0 + k + 1 : Nat) : Int), b'⟩ := by rw [idx_nat]; exact recs_at bs 0 k b' be
  have hw : IntKind.i64.wrap ((k : Int) + 1) = ((k + 1 : Nat) : Int) := by rw [w_i64 (by omega) (by omega)]; rfl
  refine Ev.to hx (Ev.letE (c := acc - b'.length) (w_i64 (by simp only; omega) (by simp only; omega)) ?_)
  rw [hw]
  exact hself (n - 1) _ (by omega) ⟨k + 1, rfl, by omega, by simp only; omega, by simp only; omega⟩
theorem Add_ev {fuel : Nat} (hf : 100 < fuel) {bs : List (List Int)} {b : List Int} (h : BS (bs ++ [b])) : Ev (repository_Repository_Add fuel ⟨800, recs 0 bs, (bs.length : Int), 0, false⟩ b) (fun y => y.2.1 = 0 ∧ y.2.2 = ⟨800, recs 0 (bs ++ [b]), ((bs ++ [b]).length : Int), 0, false⟩) := by
  have hb := h.each b (by simp)
  have h5 : bs.length + 1 ≤ 5 := by have := h.len; simpa using this
  have hbs : BS bs := ⟨by omega, fun x hx => h.each x (by simp [hx])⟩
  have hl := recs_len bs 0
  unfold repository_Repository_Add
  refine Ev.join (fun v => v = false) (fun v hv => Ev.iteF hv (Ev.letP (Ev.iteF (by simp [hl]; omega) (Ev.bind (P := fun y => 800 - 160 * (bs.length : Int) ≤ y) (free_ev hf hbs _ _ 0 _) (fun y1 e1 => ?_))))) (fun j hj => Ev.beqF (show (b.length : Int) ≠ 0 by omega) (Ev.letP (hj _ (by simp; omega))))
  have hroom : ¬ (b.length : Int) > y1 := by omega
  refine Ev.letP (Ev.decF hroom ?_)
  refine Ev.loop (fun (n : Nat) (x : repository_Repository) => x = ⟨800, recs 0 bs, (bs.length : Int), 0, false⟩) (fun n x hI self hself => ?_) (n := 0) (by omega) rfl
  subst hI
  have hid : IntKind.u16.wrap (Int.tmod (bs.length : Int) 65534 + 1) = ((bs.length + 1 : Nat) : Int) := by
    rw [Int.tmod_eq_emod_of_nonneg (by omega), w_u16]; omega
  refine Ev.letE (c := ⟨800, recs 0 bs, ((bs.length + 1 : Nat) : Int), 0, false⟩) (by simp only [hid]) ?_
  refine Ev.bind (P := fun y => y = -1) (by unfold repository_Repository_find; exact Ev.bind (find_miss hf hbs) (fun y hy => Ev.ret hy)) (fun y2 e2 => Ev.decT (by omega) (Ev.to (clone_eq (by omega)) (Ev.app (by simp [hl]; omega) (Ev.letP (Ev.ret ⟨rfl, ?_⟩)))))
  rw [recs_snoc]
  simp
def held (bs : List (List Int)) : repository_Repository := ⟨800, recs 0 bs, (bs.length : Int), 1, true⟩
theorem Reserve_ev (fuel : Nat) (bs : List (List Int)) : Ev (repository_Repository_Reserve fuel ⟨800, recs 0 bs, (bs.length : Int), 0, false⟩) (fun y => y = (1, held bs)) := by
  unfold repository_Repository_Reserve
  refine Ev.join (fun x => x = ⟨800, recs 0 bs, (bs.length : Int), 0, false⟩) (fun x hx => Ev.letP (Ev.letP (Ev.ret ?_))) (fun j hj => Ev.iteF rfl (hj _ rfl))
  subst hx; rfl
theorem IDs_ev {fuel : Nat} (hf : 100 < fuel) {bs : List (List Int)} (h : BS bs) : Ev (repository_Repository_IDs fuel (held bs)) (fun y => y.length = bs.length ∧ ∀ j : Nat, j < bs.length → y[j]? = some ((j + 1 : Nat) : Int)) := by
  unfold repository_Repository_IDs held
  have hl := recs_len bs 0
  have h5 := h.len
  refine Ev.loop (fun (n : Nat) (x : Int × List Int) => ∃ k : Nat, x.1 = k ∧ k + n = bs.length ∧ x.2.length = k ∧ ∀ j : Nat, j < k → x.2[j]? = some ((j + 1 : Nat) : Int)) (fun n x hI self hself => ?_) (n := bs.length) (by omega) ⟨0, rfl, by omega, rfl, by omega⟩
  obtain ⟨pos, acc⟩ := x
  obtain ⟨k, k1, k2, k3, k4⟩ := hI
  simp only at k1 k3 k4 ⊢
  subst k1
  refine Ev.dec (fun hlt => ?_) (fun _ => Ev.ret ⟨by omega, fun j hj => k4 j (by omega)⟩)
  have hk : k < bs.length := by omega
  obtain ⟨b', be⟩ : ∃ b, bs[k]? = some b := ⟨_, List.getElem?_eq_getElem hk⟩
  have hx : idx (recs 0 bs) (k : Int) = some ⟨((0 + k + 1 : Nat) : Int), b'⟩ := by rw [idx_nat]; exact recs_at bs 0 k b' be
  have hw : IntKind.i64.wrap ((k : Int) + 1) = ((k + 1 : Nat) : Int) := by rw [w_i64 (by omega) (by omega)]; rfl
  rw [hw]
  refine Ev.to hx (Ev.app (by simp; omega) (hself (n - 1) _ (by omega) ⟨k + 1, rfl, by omega, by simp [k3], fun j hj => ?_⟩))
  simp only
  by_cases e : j = k
  · subst e
    rw [List.getElem?_append_right (by omega), k3, Nat.sub_self]
    simp
  · rw [List.getElem?_append_left (by omega)]; exact k4 j (by omega)
theorem look_ev {fuel : Nat} (hf : 100 < fuel) {bs : List (List Int)} (h : BS bs) {j : Nat} {b : List Int} (hb : bs[j]? = some b) : Ev (repository_Repository_look fuel (held bs) ((j + 1 : Nat) : Int)) (fun y => y.1 = b ∧ y.2.2 = 0) := by
  unfold repository_Repository_look
  have hj := lt_len hb
  have hl := recs_len bs 0
  have h5 := h.len
  have hfd : Ev (repository_Repository_find fuel (held bs) ((j + 1 : Nat) : Int)) (fun y => y = (j : Int)) := by
    unfold repository_Repository_find; exact Ev.bind (find_hit hf h hj) (fun y hy => Ev.ret hy)
  refine Ev.bind hfd (fun y1 e1 => ?_)
  subst e1
  refine Ev.join (fun x => x = (j : Int)) (fun x hx => ?_) (fun k hk => Ev.iteF (by simp; omega) (hk _ rfl))
  subst hx
  have hrl : (held bs).records.length = bs.length := hl
  refine Ev.join (fun v => v = false) (fun v hv => Ev.iteF hv ?_) (fun k hk => Ev.decF (by omega) (hk _ (by simp; omega)))
  have hx : idx (held bs).records (j : Int) = some ⟨((0 + j + 1 : Nat) : Int), b⟩ := by rw [idx_nat]; exact recs_at bs 0 j b hb
  refine Ev.join (fun _ => True) (fun v _ => Ev.to hx (Ev.ret ⟨rfl, rfl⟩)) (fun k hk => ?_)
  have hw : IntKind.i64.wrap ((j : Int) + 1) = ((j + 1 : Nat) : Int) := by rw [w_i64 (by omega) (by omega)]; rfl
  rw [hw]
  exact Ev.dec (fun hlt => Ev.idx (by omega) hlt (fun x _ _ => hk _ trivial)) (fun _ => hk _ trivial)
theorem Get_ev {fuel : Nat} (hf : 100 < fuel) {bs : List (List Int)} (h : BS bs) {j : Nat} {b : List Int} (hb : bs[j]? = some b) : Ev (repository_Repository_Get fuel (held bs) ((j + 1 : Nat) : Int)) (fun y => y.1 = b ∧ y.2.2 = 0) := by
  unfold repository_Repository_Get
  have h160 := (h.each b (List.mem_of_getElem? hb)).2
  exact Ev.bind (look_ev hf h hb) (fun y hy => Ev.to (clone_eq (by rw [hy.1]; omega)) (Ev.ret hy))
theorem Read_ev {fuel : Nat} (hf : 100 < fuel) {bs : List (List Int)} (h : BS bs) {j : Nat} {b : List Int} (hb : bs[j]? = some b) {p n : Nat} (hp : p + n ≤ b.length) : Ev (repository_Repository_Read fuel (held bs) 1 ((j + 1 : Nat) : Int) (p : Int) (n : Int)) (fun y => y.1 = (b.drop p).take n ∧ y.2.2 = 0) := by
  unfold repository_Repository_Read
  have h160 := (h.each b (List.mem_of_getElem? hb)).2
  refine Ev.join (fun v => v = false) (fun v hv => Ev.iteF hv (Ev.bind (look_ev hf h hb) (fun y1 e1 => ?_))) (fun k hk => Ev.bne (fun _ => Ev.bind (P := fun y => y = true) (by unfold repository_Repository_holds; exact Ev.iteT rfl (Ev.letP (Ev.ret rfl))) (fun y hy => hk _ (by rw [hy]; rfl))) (fun _ => hk _ rfl))
  rw [e1.1, e1.2]
  refine Ev.letP (Ev.iteF rfl (Ev.join (fun v => v = false) (fun v hv => Ev.iteF hv ?_) (fun k hk => Ev.decF (by omega) (Ev.decF (by omega) (Ev.decF (by omega) (Ev.letP (hk _ ?_)))))))
  · have hs : sub b (p : Int) (IntKind.i64.wrap ((p : Int) + (n : Int))) = some ((b.drop p).take n) := by
      rw [w_i64 (by omega) (by omega)]
      unfold sub
      rw [if_pos ⟨by omega, by omega, by omega⟩]
      congr 2
      omega
    exact Ev.to hs (Ev.to (clone_eq (by simp; omega)) (Ev.ret ⟨rfl, rfl⟩))
  · rw [w_i64 (by omega) (by omega)]; simp; omega
end Lift
