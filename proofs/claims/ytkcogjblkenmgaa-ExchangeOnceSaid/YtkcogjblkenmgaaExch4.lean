/- The requesters that codes give. No program in sight. -/
import Derived.Test.YtkcogjblkenmgaaExch3
set_option linter.unusedVariables false
set_option linter.unusedSimpArgs false
namespace Lift
open Go
theorem u8w {n : Int} : byte (IntKind.u8.wrap n) := by rw [w_u8]; constructor <;> omega
theorem nil_small : Small ([] : List Int) := ⟨by simp, fun x hx => (by cases hx)⟩
theorem fBytes_ok {c : field_Codes} (h : COk c) {n : Nat} (hn : n ≤ 200) : ∃ L c', field_Codes_Bytes 10000 c (n : Int) = some (L, c') ∧ L.length ≤ n ∧ (∀ x ∈ L, byte x) ∧ COk c' := by
  suffices hE : Ev (field_Codes_Bytes 10000 c (n : Int)) (fun p => p.1.length ≤ n ∧ (∀ x ∈ p.1, byte x) ∧ COk p.2) by
    obtain ⟨⟨L, c'⟩, e, h1, h2, h3⟩ := hE; exact ⟨L, c', e, h1, h2, h3⟩
  unfold field_Codes_Bytes
  rw [wr (n := (n : Int) + 1) (by omega)]
  obtain ⟨r, c1, e1, l1, k1⟩ := fnext_nat 10000 h (m := n + 1) (by omega) (by omega)
  refine Ev.to e1 ?_
  refine Ev.loop (fun m (s : Int × field_Codes × List Int) => s.1 = (m : Int) ∧ m ≤ n ∧ COk s.2.1 ∧ s.2.2.length + m ≤ n ∧ ∀ x ∈ s.2.2, byte x) (fun m s hI self hself => ?_) (n := r) (by omega) ⟨rfl, by omega, k1, by simp; omega, fun x hx => (by cases hx)⟩
  obtain ⟨h1, h2, h3, h4, h5⟩ := hI
  rw [h1]
  refine Ev.dec (fun hp => ?_) (fun _ => Ev.ret ⟨by simp only; omega, h5, h3⟩)
  obtain ⟨r2, c2, e2, l2, k2⟩ := fnext_nat 10000 h3 (m := 256) (by omega) (by omega)
  refine Ev.to e2 (Ev.to (app_ok (by simp; omega)) (Ev.letP ?_))
  rw [wr (n := (m : Int) - 1) (by omega)]
  refine hself (m - 1) _ (by omega) ⟨by simp only; omega, by omega, k2, by simp; omega, fun x hx => ?_⟩
  rcases List.mem_append.1 hx with h | h
  · exact h5 x h
  · simp only [List.mem_singleton] at h; rw [h]; exact u8w
theorem fNow_ok {c : field_Codes} (h : COk c) : ∃ n c', field_Codes_Now 10000 c = some (n, c') ∧ -1 ≤ n ∧ n ≤ 17179869185 ∧ COk c' := by
  suffices hE : Ev (field_Codes_Now 10000 c) (fun p => -1 ≤ p.1 ∧ p.1 ≤ 17179869185 ∧ COk p.2) by
    obtain ⟨⟨n, c'⟩, e, h1, h2, h3⟩ := hE; exact ⟨n, c', e, h1, h2, h3⟩
  unfold field_Codes_Now
  obtain ⟨r, c1, e1, l1, k1⟩ := fnext_nat 10000 h (m := 12) (by omega) (by omega)
  refine Ev.to e1 (Ev.beq (fun _ => ?_) (fun _ => ?_))
  · obtain ⟨r2, c2, e2, l2, k2⟩ := fnext_nat 10000 k1 (m := 5) (by omega) (by omega)
    refine Ev.to e2 ?_
    obtain ⟨z, hz, hz1, hz2⟩ : ∃ z, ([0, 17179869184, 17179869183, 17179869185, (-1)] : List Int)[r2]? = some z ∧ -1 ≤ z ∧ z ≤ 17179869185 := by
      have : r2 = 0 ∨ r2 = 1 ∨ r2 = 2 ∨ r2 = 3 ∨ r2 = 4 := by omega
      rcases this with rfl | rfl | rfl | rfl | rfl <;> exact ⟨_, rfl, by omega, by omega⟩
    exact Ev.to (a := z) (by rw [idx_nat]; exact hz) (Ev.ret ⟨hz1, hz2, k2⟩)
  · obtain ⟨r2, c2, e2, l2, k2⟩ := fnext_nat 10000 k1 (m := 200) (by omega) (by omega)
    exact Ev.to e2 (Ev.ret ⟨by simp only; omega, by simp only; omega, k2⟩)
theorem pick2 {r : Nat} (h : r < 2) : ∃ z : Int, idx ([64, 65] : List Int) (r : Int) = some z ∧ (z = 64 ∨ z = 65) := by
  have : r = 0 ∨ r = 1 := by omega
  rcases this with rfl | rfl
  · exact ⟨64, rfl, .inl rfl⟩
  · exact ⟨65, rfl, .inr rfl⟩
/-- What the codes' play keeps: P holds of what Send, Tick and Receive return too. -/
theorem rval_of_send {r : Requester_} {to fn cm now : Int} {data : List Int} (h : (rsend r to fn cm data now).2.2 = 0) : RV r := by
  refine Classical.byContradiction fun hc => ?_
  unfold rsend at h
  rw [if_pos hc] at h
  cases h
theorem play24_ok {c : field_Codes} (h : COk c) {steps : Nat} (hs : steps ≤ 20) (P : Requester_ → Prop) (h0 : P ⟨32, 0, []⟩)
    (p1 : ∀ r to cm data now, RT r → P r → (to = 64 ∨ to = 65) → byte cm → (∀ x ∈ data, byte x) → data.length ≤ 2 → 0 ≤ now → (rsend r to 6 cm data now).2.2 = 0 → P (rsend r to 6 cm data now).1)
    (p2 : ∀ r now, RT r → P r → 0 ≤ now → P (rtick r now).1) (p3 : ∀ r b, RT r → P r → Small b → P (rrecv r b).1) :
    Ev (law24_play 10000 c (steps : Int)) (fun p => RT p.1 ∧ P p.1 ∧ 0 ≤ p.2.1 ∧ p.2.1 ≤ 30 * steps ∧ COk p.2.2 ∧ p.1.Pending.length ≤ 9) := by
  unfold law24_play
  rw [wr (n := (steps : Int) + 1) (by omega)]
  obtain ⟨r1, c1, e1, l1, k1⟩ := fnext_nat 10000 h (m := steps + 1) (by omega) (by omega)
  refine Ev.to (r24New_eq _ _) (Ev.to e1 ?_)
  rw [if_pos (by decide)]
  have t0 : RT ⟨32, 0, []⟩ := ⟨⟨by decide, by decide⟩, okI_i64.2 ⟨by decide, by decide⟩, fun p hp => (by cases hp), by simp⟩
  refine Ev.loop (fun n (s : Int × Int × field_Codes × Requester_) => ∃ m, n + m = r1 ∧ s.2.1 = (n : Int) ∧ 0 ≤ s.1 ∧ s.1 ≤ 30 * m ∧ COk s.2.2.1 ∧ RT s.2.2.2 ∧ P s.2.2.2 ∧ s.2.2.2.Pending.length ≤ 9) (fun n s hI self hself => ?_) (n := r1) (by omega) ⟨0, by omega, rfl, by simp, by simp, k1, t0, h0, by simp⟩
  obtain ⟨m, hm, hn, ha0, ha1, hc, ht, hP, hl⟩ := hI
  rw [hn]
  refine Ev.dec (fun hpos => ?_) (fun _ => Ev.ret ⟨ht, hP, ha0, by simp only; omega, hc, hl⟩)
  have hw : IntKind.i64.wrap ((n : Int) - 1) = ((n - 1 : Nat) : Int) := by rw [wr (by omega)]; omega
  obtain ⟨r2, c2, e2, l2, k2⟩ := fnext_nat 10000 hc (m := 4) (by omega) (by omega)
  refine Ev.to e2 (Ev.letP (Ev.join (fun _ => True) (fun s2 _ => Ev.ite (fun _ => ?_) (fun _ => ?_)) (fun j hj => Ev.ite (fun _ => hj _ trivial) (fun _ => Ev.letP (hj _ trivial)))))
  · obtain ⟨r3, c3, e3, l3, k3⟩ := fnext_nat 10000 k2 (m := 2) (by omega) (by omega)
    obtain ⟨z, hz, hzz⟩ := pick2 l3
    obtain ⟨r4, c4, e4, l4, k4⟩ := fnext_nat 10000 k3 (m := 3) (by omega) (by omega)
    obtain ⟨L, c5, e5, hL1, hL2, k5⟩ := fBytes_ok k4 (n := 2) (by omega)
    have bz : byte z := by rcases hzz with rfl | rfl <;> exact ⟨by decide, by decide⟩
    have b6 : byte 6 := ⟨by decide, by decide⟩
    have hL3 : L.length ≤ 1000 := Nat.le_trans hL1 (by omega)
    refine Ev.to e3 (Ev.to hz (Ev.to e4 (Ev.to e5 (Ev.to (r24Send_eq (by omega) ht bz b6 u8w hL2 hL3) (Ev.beq (fun h0 => ?_) (fun _ => ?_))))))
    · refine Ev.letP ?_
      rw [hw]
      refine hself (n - 1) _ (by omega) ⟨m + 1, by omega, rfl, ha0, by simp only; omega, k5, (rsend_RT ht bz b6 u8w hL2 hL3).1, p1 _ _ _ _ _ ht hP hzz u8w hL2 hL1 ha0 h0, ?_⟩
      have hv := rval_of_send h0
      have := RT.len8 hv
      simp only
      unfold rsend
      split
      · simp [Requester_.z]
      · split
        · simp [Requester_.z]
        · split
          · simp [Requester_.z]
          · split
            · simp [Requester_.z]
            · simp; omega
    · refine Ev.letP ?_
      rw [hw]
      exact hself (n - 1) _ (by omega) ⟨m + 1, by omega, rfl, ha0, by simp only; omega, k5, ht, hP, hl⟩
  · refine Ev.letP (Ev.ite (fun _ => ?_) (fun _ => ?_))
    · obtain ⟨r3, c3, e3, l3, k3⟩ := fnext_nat 10000 k2 (m := 30) (by omega) (by omega)
      refine Ev.to e3 ?_
      rw [wr (n := s.1 + (r3 : Int)) (by omega)]
      refine Ev.letP (Ev.to (r24Tick_eq (by omega) ht) (Ev.letP ?_))
      rw [hw]
      refine hself (n - 1) _ (by omega) ⟨m + 1, by omega, rfl, by simp only; omega, by simp only; omega, k3, (rtick_RT ht).1, p2 _ _ ht hP (by omega), ?_⟩
      simp only
      unfold rtick
      split
      · exact hl
      · have := (tfold_len (s.1 + (r3 : Int)) s.2.2.2.Pending s.2.2.2.Pending.length (Nat.le_refl _)).1
        rw [List.take_length] at this
        simp only; omega
    · refine Ev.letP (Ev.ite (fun _ => Ev.dec (fun hp => ?_) (fun _ => ?_)) (fun _ => ?_))
      · obtain ⟨r3, c3, e3, l3, k3⟩ := fnext_nat 10000 k2 (m := s.2.2.2.Pending.length) (by omega) (by omega)
        obtain ⟨q, hq, hqm⟩ := getq l3
        have tq := (ht.ps q hqm).1
        obtain ⟨ty, _⟩ := mreply_MT tq (code := 0) (data := []) ⟨by decide, by decide⟩ (fun x hx => (by cases hx))
        refine Ev.to e3 (Ev.to (by rw [idx_nat, hq]) (Ev.to (rReply_eq (by omega) tq 0 (by simp)) (Ev.to (rResponse_eq (by omega) ty) (Ev.to (r24Recv_eq (by omega) ht (mres_small ty)) (Ev.letP ?_)))))
        rw [hw]
        refine hself (n - 1) _ (by omega) ⟨m + 1, by omega, rfl, ha0, by simp only; omega, k3, (rrecv_RT ht (mres_small ty)).1, p3 _ _ ht hP (mres_small ty), ?_⟩
        simp only
        unfold rrecv
        split
        · exact hl
        · split
          · exact hl
          · simp only [rdrop, List.length_append, List.length_take, List.length_drop]; omega
      · refine Ev.letP ?_
        rw [hw]
        exact hself (n - 1) _ (by omega) ⟨m + 1, by omega, rfl, ha0, by simp only; omega, k2, ht, hP, hl⟩
      · refine Ev.letP ?_
        rw [hw]
        exact hself (n - 1) _ (by omega) ⟨m + 1, by omega, rfl, ha0, by simp only; omega, k2, ht, hP, hl⟩
end Lift
