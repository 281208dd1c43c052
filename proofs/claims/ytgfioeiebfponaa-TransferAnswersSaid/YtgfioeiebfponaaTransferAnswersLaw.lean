/- The plain law of TransferAnswers. uses: ev gen codes transfer transfer2 transfer3 transfer4
-/
import Derived.Test.YtgfioeiebfponaaTransfer4
set_option linter.unusedVariables false
set_option linter.unusedSimpArgs false
namespace Lift
open Go
theorem tnew_byte (s p : Int) : ∀ y ∈ (tnew s p).1.Data, byte y := by
  unfold tnew
  split
  · intro y hy
    rw [List.eq_of_mem_replicate hy]; constructor <;> omega
  · intro y hy; cases hy
theorem tnew_len (s p : Int) : (tnew s p).1.Have.length ≤ 9000 := by
  by_cases h : Rng s p
  · obtain ⟨S, P, rfl, rfl, t, _⟩ := tnew_V h
    have := t.c1; omega
  · unfold tnew; rw [if_neg h]; simp [Download_.z]
/-- What the functions are asked about. -/
def DB (d : Download_) : Prop := (∀ y ∈ d.Data, byte y) ∧ d.Data.length ≤ 9000
theorem tacc_DB {d : Download_} (h : DB d) {i : Int} {x : List Int} (hx : ∀ y ∈ x, byte y) : (∀ y ∈ (tacc d i x).1.Data, byte y) ∧ (tacc d i x).1.Have.length ≤ 9000 := by
  unfold tacc
  split
  · exact ⟨fun y hy => (by cases hy), by simp [Download_.z]⟩
  · rename_i v
    have v : TV d := Classical.not_not.1 v
    obtain ⟨S, P, t, _⟩ := id v
    split
    · exact ⟨fun y hy => (by cases hy), by simp [Download_.z]⟩
    · split
      · exact ⟨fun y hy => (by cases hy), by simp [Download_.z]⟩
      · split
        · exact ⟨fun y hy => (by cases hy), by simp [Download_.z]⟩
        · refine ⟨tput_byte h.1 hx, ?_⟩
          have := t.c1
          show (d.Have.set i.toNat true).length ≤ 9000
          simp; omega
theorem tbytes_b {d : Download_} (h : DB d) : ∀ y ∈ (tbytes d).1, byte y := by
  unfold tbytes
  split
  · intro y hy; cases hy
  · split
    · intro y hy; cases hy
    · exact h.1
theorem twant_len (d : Download_) (m : Int) : (twant d m).length ≤ 9000 := by
  unfold twant
  split
  · rename_i v
    obtain ⟨S, P, t, _⟩ := v
    have := t.c1
    have := fal_len d.Have d.Have.length
    rw [List.length_take]; omega
  · simp
theorem law30_TransferAnswers_true (a0 : List Int) (a1 : Download_) (a2 : List Int) (a3 a4 a5 a6 : Int) (o0 : okL (okI .u8) a0) (o1 : Download_.ok a1) (o2 : okL (okI .u8) a2) (o3 : okI .i64 a3) (o4 : okI .i64 a4) (o5 : okI .i64 a5) (o6 : okI .i64 a6) : ∃ fuel, law30_TransferAnswers fuel a0 a1 a2 a3 a4 a5 a6 = some true := by
  refine ⟨10000, Ev.isTrue ?_⟩
  unfold law30_TransferAnswers
  have hf : 9000 < 10000 := by omega
  have hb2 : ∀ y ∈ a2, byte y := fun x hx => okI_u8.1 (o2.2 x hx)
  refine Ev.to awake_eq (Ev.iteF rfl ?_)
  refine Ev.join (fun s => s = false → a1.Data.length ≤ 9000 ∧ a2.length ≤ 300) (fun s hs => Ev.ite (fun _ => Ev.ret rfl) (fun e => ?_)) (fun j hj => Ev.dec (fun _ => hj _ (fun e => by cases e)) (fun h1 => Ev.dec (fun _ => hj _ (fun e => by cases e)) (fun h2 => hj _ (fun e => ?_))))
  rotate_left
  · have : ¬ (a2.length : Int) > 300 := by simpa using e
    omega
  obtain ⟨hl1, hl2⟩ := hs e
  have hraw : DB a1 := ⟨fun x hx => okI_u8.1 (o1.2.2.2.1.2 x hx), hl1⟩
  refine Ev.to (New_eq _ _ _) (Ev.to (rNew_eq _ _ _) ?_)
  refine Ev.join (fun s => s = false) (fun s hs => Ev.iteF hs ?_) (fun j hj => Ev.bneF rfl (Ev.to (rSame_eq (tnew_byte _ _) (tnew_byte _ _) (tnew_len _ _) hf) (hj _ (by simp))))
  obtain ⟨c, ec, hc⟩ := fNew_ok 10000 (l := a0) (n := 200) (fun x hx => okI_u8.1 (o0.2 x hx)) (by omega) (by omega)
  refine Ev.to ec (Ev.bind (play_ok hc) (fun p hp => ?_))
  obtain ⟨hc2, S, P, hd, hS, hP⟩ := hp
  have t := hd.t
  have hcl := t.h
  have hcS := cnt_le (S := S) t.p1
  have hcp : ref30_Copy 10000 p.1 = some p.1 := by
    unfold ref30_Copy
    rw [app_ok (by simp; omega), bindP_some, app_ok (by simp [t.d]; omega), bindP_some]; rfl
  obtain ⟨r7, c7, e7, l7, k7⟩ := fnext_nat 10000 hc2 (m := 4) (by omega) (by omega)
  refine Ev.to hcp (Ev.to e7 (Ev.letP ?_))
  refine Ev.join (fun s => COk s.1 ∧ DB s.2) (fun s3 hs3 => ?_) (fun j3 hj3 => ?_)
  · obtain ⟨q1, hodd⟩ := hs3
    have hgood : DB p.1 := ⟨hd.b, by rw [t.d]; omega⟩
    refine Ev.count 3 (fun i (s4 : Int × field_Codes) => s4.1 = (i : Int) ∧ COk s4.2) (by omega) ⟨rfl, q1⟩ (fun i s4 hi hI self hself => ?_)
    obtain ⟨hi1, hi2⟩ := hI
    rw [hi1]
    by_cases hil : i < 3
    · obtain ⟨x, hx, hxd⟩ : ∃ x, ([p.1, s3.2, a1] : List Download_)[i]? = some x ∧ DB x := by
        have : i = 0 ∨ i = 1 ∨ i = 2 := by omega
        rcases this with rfl | rfl | rfl
        · exact ⟨_, rfl, hgood⟩
        · exact ⟨_, rfl, hodd⟩
        · exact ⟨_, rfl, hraw⟩
      refine Ev.decT (by simp; omega) (Ev.to (by rw [idx_nat, hx]) ?_)
      rw [wr (n := (p.1.Have.length : Int) + 1) (by omega)]
      obtain ⟨r8, c8, e8, l8, k8⟩ := fnext_nat 10000 hi2 (m := p.1.Have.length + 1) (by omega) (by omega)
      obtain ⟨r9, c9, e9, l9, k9⟩ := fnext_nat 10000 k8 (m := 4) (by omega) (by omega)
      refine Ev.to e8 (Ev.to e9 ?_)
      refine Ev.join (fun s => COk s.2 ∧ (∀ y ∈ s.1, byte y) ∧ s.1.length ≤ 300) (fun s5 hs5 => ?_) (fun j4 hj4 => Ev.dec (fun _ => ?_) (fun _ => hj4 _ ⟨k9, hb2, hl2⟩))
      · obtain ⟨u1, u2, u3⟩ := hs5
        obtain ⟨r10, c10, e10, l10, k10⟩ := fnext_nat 10000 u1 (m := 6) (by omega) (by omega)
        refine Ev.to e10 (Ev.join (fun _ => True) (fun n _ => ?_) (fun j5 hj5 => Ev.beq (fun _ => hj5 _ trivial) (fun _ => hj5 _ trivial)))
        refine Ev.to (tAccept_eq hf x n (by omega)) (Ev.to (rAccept_eq hf hxd.1 n (by omega) u2) (Ev.to (tBytes_eq hf (by have := hxd.2; omega)) (Ev.to (rBytes_eq hf (by have := hxd.2; omega)) ?_)))
        refine Ev.join (fun s => s = false) (fun s hs => Ev.iteF hs ?_) (fun j6 hj6 => ?_)
        · rw [wi i (by omega)]
          exact hself _ hil ⟨by simp, k10⟩
        · obtain ⟨w1, w2⟩ := tacc_DB hxd (i := n) u2
          refine Ev.letP (Ev.bneF rfl (Ev.letP (Ev.bneF rfl (Ev.letP (Ev.bneF rfl (Ev.to (rSame_eq w1 w1 w2 hf) (Ev.letP (Ev.not (Ev.iteT (by simp) ?_)))))))))
          refine Ev.to (tValid_eq hf x) (Ev.to (rValid_eq hf x) (Ev.letP (Ev.bneF rfl (Ev.to (tComplete_eq hf x) (Ev.to (rComplete_eq hf x) (Ev.letP (Ev.bneF rfl ?_)))))))
          refine Ev.to (tWanted_eq hf x a6) (Ev.to (rWanted_eq hf x a6) (Ev.to (ints_eq (twant_len x a6) hf) (hj6 _ (by simp))))
      · -- a part that is made
        have e : (r8 : Int) * p.1.Part = ((r8 * P : Nat) : Int) := by rw [t.p]; simp
        have hr8 : r8 * P ≤ 60 * 9 := Nat.mul_le_mul (by omega) hP
        rw [e, wr (n := ((r8 * P : Nat) : Int)) (by omega), t.s, t.p, wr (n := (S : Int) - ((r8 * P : Nat) : Int)) (by omega)]
        have hmn : max 0 (min (P : Int) ((S : Int) - ((r8 * P : Nat) : Int))) = ((min P (S - r8 * P) : Nat) : Int) := by omega
        rw [hmn]
        refine Ev.to (mk_ok (by omega)) ?_
        have hrl : (List.replicate (min P (S - r8 * P)) (0 : Int)).length = min P (S - r8 * P) := by simp
        refine Ev.count (min P (S - r8 * P)) (fun j (s2 : Int × field_Codes × List Int) => s2.1 = (j : Int) ∧ COk s2.2.1 ∧ s2.2.2.length = min P (S - r8 * P) ∧ ∀ y ∈ s2.2.2, byte y) (by omega)
          ⟨rfl, k9, hrl, fun y hy => by rw [List.eq_of_mem_replicate hy]; constructor <;> omega⟩ (fun j s2 hj hI self2 hself2 => ?_)
        obtain ⟨hj1, hj2, hj3, hj4'⟩ := hI
        rw [hj1, hrl]
        by_cases hjl : j < min P (S - r8 * P)
        · refine Ev.decT (by omega) ?_
          obtain ⟨r5, c5, e5, l5, k5⟩ := fnext_nat 10000 hj2 (m := 3) (by omega) (by omega)
          refine Ev.to e5 (Ev.to (by rw [idx_nat, List.getElem?_eq_getElem (by omega)]) (Ev.letP ?_))
          rw [wi j (by omega)]
          refine hself2 _ hjl ⟨by simp, k5, by simp [upd, hj3], fun y hy => ?_⟩
          rcases List.mem_or_eq_of_mem_set hy with h | h
          · exact hj4' y h
          · rw [h]; exact u8w
        · exact Ev.decF (by omega) (hj4 _ ⟨hj2, hj4', by show s2.2.2.length ≤ 300; omega⟩)
    · exact Ev.decF (by simp; omega) (Ev.ret rfl)
  · have hdl : p.1.Data.length ≤ 9000 := by rw [t.d]; omega
    refine Ev.ite (fun _ => Ev.letP (hj3 _ ⟨k7, hd.b, hdl⟩)) (fun _ => Ev.letP (Ev.beq (fun _ => ?_) (fun _ => Ev.letP (Ev.beq (fun _ => ?_) (fun _ => Ev.letP (Ev.beq (fun _ => ?_) (fun _ => hj3 _ ⟨k7, hd.b, hdl⟩)))))))
    · have hcp1 := cnt_pos (S := S) t.p1 t.s1
      have hs1 : sub p.1.Have 1 p.1.Have.length = some ((p.1.Have.drop (1 : Int).toNat).take ((p.1.Have.length : Int).toNat - (1 : Int).toNat)) := sub_int (by omega) (by omega) (by omega)
      exact Ev.to hs1 (Ev.letP (hj3 _ ⟨k7, hd.b, hdl⟩))
    · have ts1 := t.s1
      obtain ⟨r, c', e', l', k'⟩ := fnext_nat 10000 k7 (m := S) (by omega) (by omega)
      refine Ev.to (by show field_Codes_Next 10000 c7 p.1.Size = _; rw [t.s]; exact e') (Ev.to (by rw [idx_nat, List.getElem?_eq_getElem (by rw [t.d]; exact l')]) (Ev.to (by rw [idx_nat, List.getElem?_eq_getElem (by rw [t.d]; exact l')]) (Ev.letP (hj3 _ ⟨k', fun y hy => ?_, by simp [upd]; exact hdl⟩))))
      rcases List.mem_or_eq_of_mem_set hy with h | h
      · exact hd.b y h
      · rw [h]; exact u8w
    · obtain ⟨r, c', e', l', k'⟩ := fnext_nat 10000 k7 (m := 4) (by omega) (by omega)
      refine Ev.to e' ?_
      have hx : ∃ z, ([0, (-1), 65, IntKind.i64.wrap (p.1.Part + 1)] : List Int)[r]? = some z := ⟨_, List.getElem?_eq_getElem (by simp; omega)⟩
      obtain ⟨z, hz⟩ := hx
      exact Ev.to (a := z) (by rw [idx_nat]; exact hz) (Ev.letP (hj3 _ ⟨k', hd.b, hdl⟩))
end Lift
