/- Buses that are loaded with frames. No program in sight. -/
import Derived.Test.YtedddoifbhcinaaAwake21
import Derived.Test.YtedddoifbhcinaaDiceframe
set_option linter.unusedVariables false
set_option linter.unusedSimpArgs false
namespace Lift
open Go
/-- A bus that is loaded: at most four frames at each master. -/
structure LOk (n : Nat) (ms : List bus_master) : Prop where
  b : BOk ms
  len : ms.length = n
  q : ∀ m ∈ ms, m.queue.length ≤ 4 ∧ m.tries = 0 ∧ m.served = false
theorem put_fine {ms : List bus_master} {i : Nat} {m : bus_master} {f : Frame_} (hi : ms[i]? = some m) (hv : valid f = true) (hq : m.queue.length < 16) : put ms (i : Int) f = (0, ms.set i { m with queue := m.queue ++ [(encode f).1] }) := by
  have hl := lt_len hi
  unfold put
  rw [if_pos (by omega), if_pos hv]
  have : ms.getD ((i : Int)).toNat bus_master.z = m := by simp [List.getD_eq_getElem?_getD, hi]
  rw [this, if_pos hq]
  simp [upd]
theorem get_set_ne {α : Type} {l : List α} {i j : Nat} {x y : α} (h : (l.set i x)[j]? = some y) : (j = i ∧ y = x) ∨ (j ≠ i ∧ l[j]? = some y) := by
  by_cases e : i = j
  · subst e
    rw [List.getElem?_set_self (by have := lt_len h; simpa using this)] at h
    simp at h
    exact .inl ⟨rfl, h.symm⟩
  · rw [List.getElem?_set_ne e] at h
    exact .inr ⟨fun h' => e h'.symm, h⟩
theorem loaded_ev {n : Nat} {l : List Int} (hn : 1 ≤ n ∧ n ≤ 8) (hl : l.length ≤ 600) : Ev (law21_loaded 10000 (n : Int) l) (fun r => ∃ ms, LOk n ms ∧ r = (some ⟨ms⟩, ms.map bus_master.queue, true)) := by
  unfold law21_loaded
  refine Ev.to (New_eq 10000 n) ?_
  simp only [if_pos (show 1 ≤ (n : Int) ∧ (n : Int) ≤ 8 by omega)]
  refine Ev.join (fun s => s = false) (fun s hs => ?_) (fun j hj => Ev.iteF rfl (hj _ rfl))
  subst hs
  refine Ev.iteF rfl (Ev.to (Roll_eq 10000 _) (Ev.to (a := List.replicate n []) (by unfold mk; rw [if_pos (by omega)]; simp) ?_))
  refine Ev.loop (fun r (s : Int × made_Dice × (List (List (List Int))) × (Option bus_Bus)) => ∃ (i : Nat) (ms : List bus_master) (d : made_Dice), i ≤ n ∧ r = n - i ∧ s = ((i : Int), d, ms.map bus_master.queue, some ⟨ms⟩) ∧ DOk d ∧ LOk n ms ∧ ∀ j m, i ≤ j → ms[j]? = some m → m.queue = [])
    (fun r s hi self hself => ?_) (n := n) (by omega) ⟨0, newB n, ⟨l, 0⟩, by omega, rfl, by simp [newB, bus_master.z], roll_ok (by omega), ⟨newB_ok (by omega), by simp [newB], fun m hm => by rw [List.eq_of_mem_replicate hm]; simp [bus_master.z]⟩, fun j m _ hm => by
      have := List.mem_of_getElem? hm; rw [List.eq_of_mem_replicate this]; rfl⟩
  obtain ⟨i, ms, d, i1, i2, rfl, hd, hL, he⟩ := hi
  refine Ev.dec (fun hlt => ?_) (fun hge => Ev.ret ⟨ms, hL, rfl⟩)
  simp only at hlt
  obtain ⟨t, d1, e1, t1, t2, hd1⟩ := Next_ok 10000 hd (m := 5) (by omega) (by omega)
  refine Ev.to e1 ?_
  obtain ⟨k, rfl⟩ := Int.eq_ofNat_of_zero_le t1
  have hil : i < ms.length := by have := hL.len; omega
  refine Ev.loop (fun r (s : Int × made_Dice × (List (List (List Int))) × (Option bus_Bus)) => ∃ (k : Nat) (ms : List bus_master) (d : made_Dice) (m : bus_master), r = k ∧ s = ((k : Int), d, ms.map bus_master.queue, some ⟨ms⟩) ∧ DOk d ∧ LOk n ms ∧ ms[i]? = some m ∧ m.queue.length + k ≤ 4 ∧ ∀ j m, i + 1 ≤ j → ms[j]? = some m → m.queue = [])
    (fun r s hi self2 hself2 => ?_) (n := k) (by omega) ⟨k, ms, d1, ms[i]'hil, rfl, rfl, hd1, hL, by simp, by rw [he i _ (Nat.le_refl _) (List.getElem?_eq_getElem hil)]; simp; omega, fun j m hj hm => he j m (by omega) hm⟩
  clear hL he hd1 e1 hd t1 t2
  obtain ⟨k, ms, d, m, hr, rfl, hd, hL, hm, hq, he⟩ := hi
  refine Ev.dec (fun hk => ?_) (fun hk => ?_)
  · simp only at hk
    obtain ⟨f, d2, e2, v1, v2, hd2⟩ := Frame_ok (fuel := 10000) (by omega) hd
    refine Ev.to e2 (Ev.to (Encode_eq v2 (by omega)) ?_)
    have herr : (encode f).2 = 0 := by rw [enc_err, if_pos v1]
    have hput := put_fine hm v1 (by omega)
    have hpo := put_ok (n := (i : Int)) hL.b v2
    rw [hput] at hpo
    have hi2 : i < ms.length := lt_len hm
    refine Ev.join (fun s => s = (false, some ⟨ms.set i { m with queue := m.queue ++ [(encode f).1] }⟩)) (fun s hs => ?_) (fun j hj => ?_)
    · subst hs
      have hidx : idx (ms.map bus_master.queue) (i : Int) = some m.queue := by rw [idx_nat, List.getElem?_map, hm]; rfl
      refine Ev.iteF rfl (Ev.to hidx (Ev.to (app_one (by omega) (by omega)) (Ev.to hidx (Ev.letP (Ev.letP ?_)))))
      simp only
      obtain ⟨k', rfl⟩ : ∃ k', k = k' + 1 := ⟨k - 1, by omega⟩
      refine hself2 k' _ (by omega) ⟨k', ms.set i { m with queue := m.queue ++ [(encode f).1] }, d2, { m with queue := m.queue ++ [(encode f).1] }, rfl, ?_, hd2, ⟨hpo, by simp; exact hL.len, fun x hx => ?_⟩, by simp [hi2], by simp; omega, fun j x hj hx => ?_⟩
      · rw [w_i64 (by omega) (by omega)]
        simp only [upd, List.map_set, Int.toNat_natCast]
        congr 1; omega
      · rcases List.mem_or_eq_of_mem_set hx with hx | rfl
        · exact hL.q x hx
        · have := hL.q m (List.mem_of_getElem? hm)
          exact ⟨by simp; omega, this.2.1, this.2.2⟩
      · rcases get_set_ne hx with ⟨h1, _⟩ | ⟨h1, h2⟩
        · omega
        · exact he j x hj h2
    · refine Ev.bneF herr (Ev.to (a := ⟨ms⟩) rfl (Ev.to (Submit_eq hL.b v2 (by omega)) ?_))
      rw [hput]
      exact hj _ rfl
  · simp only at hk
    refine Ev.letP ?_
    simp only
    rw [wi i (by omega)]
    exact hself (n - (i + 1)) _ (by omega) ⟨i + 1, ms, d, by omega, rfl, by simp, hd, hL, he⟩
theorem among_eq {fuel : Nat} {l : List Int} {x : Int} (hl : l.length ≤ 5000) (hf : 5000 < fuel) : law21_among fuel l x = some (decide (x ∈ l)) := by
  refine Ev.eq.1 ?_
  unfold law21_among
  refine Ev.loop (fun r (s : Int) => ∃ pre post, l = pre ++ post ∧ s = (pre.length : Int) ∧ r = l.length - pre.length ∧ x ∉ pre) (fun r s hi self hself => ?_) (n := l.length) (by omega) ⟨[], l, rfl, rfl, rfl, by simp⟩
  obtain ⟨pre, post, e1, rfl, e3, e4⟩ := hi
  cases post with
  | nil =>
    refine Ev.decF (by rw [e1]; simp) (Ev.ret ?_)
    rw [e1, List.append_nil, decide_eq_false e4]
  | cons y post =>
    have hlt : pre.length < l.length := by rw [e1]; simp
    have hix : idx l (pre.length : Int) = some y := by rw [e1]; exact idx_at
    refine Ev.decT (by omega) (Ev.to hix ?_)
    refine Ev.beq (fun h => Ev.ret ?_) (fun h => Ev.letP ?_)
    · rw [e1, h, decide_eq_true (by simp)]
    · rw [wi _ (by omega)]
      refine hself (l.length - (pre.length + 1)) _ (by omega) ⟨pre ++ [y], post, by rw [e1]; simp, by simp, by simp, ?_⟩
      simp only [List.mem_append, List.mem_singleton, not_or]
      exact ⟨e4, fun e => h e.symm⟩
end Lift
