/- The plain law of ExchangeIgnores. uses: base lists sum8 ev messages mreplies mparse mround mtyped gen2 codes2 exch exch2 exch3 exch4 exch5 awake24
-/
import Derived.Test.YtkcogjblkenmgaaAwake24
import Derived.Test.YtkcogjblkenmgaaExch5
set_option linter.unusedVariables false
set_option linter.unusedSimpArgs false
namespace Lift
open Go
theorem law24_ExchangeIgnores_true (a0 : List Int) (a1 : Message_) (a2 : List Int) (o0 : okL (okI .u8) a0) (o1 : Message_.ok a1) (o2 : okL (okI .u8) a2) : ∃ fuel, law24_ExchangeIgnores fuel a0 a1 a2 = some true := by
  refine ⟨10000, Ev.isTrue ?_⟩
  unfold law24_ExchangeIgnores
  have hb2 : ∀ y ∈ a2, byte y := fun x hx => okI_u8.1 (o2.2 x hx)
  refine Ev.to law24_awake_eq (Ev.iteF rfl ?_)
  refine Ev.join (fun s => s = false → a2.length ≤ 300 ∧ a1.Data.length ≤ 300) (fun s hs => Ev.ite (fun _ => Ev.ret rfl) (fun e => ?_)) (fun j hj => Ev.dec (fun _ => hj _ (fun e => by cases e)) (fun h => hj _ (fun e => ?_)))
  rotate_left
  · have : ¬ (a1.Data.length : Int) > 300 := by simpa using e
    omega
  obtain ⟨hl2, hl1⟩ := hs e
  have t1 := MT.of o1 (by omega)
  obtain ⟨c, ec, hc⟩ := fNew_ok 10000 (l := a0) (n := 100) (fun x hx => okI_u8.1 (o0.2 x hx)) (by omega) (by omega)
  refine Ev.to ec (Ev.bind (playV_ok hc (steps := 10) (by omega)) (fun p hp => ?_))
  obtain ⟨tr, vr, _, _, _, _⟩ := hp
  have hl8 := RT.len8 vr
  refine Ev.to (mResponse_eq (by omega) t1) ?_
  refine Ev.join Small (fun b hb => ?_) (fun j hj => Ev.bne (fun _ => hj _ ⟨by omega, hb2⟩) (fun _ => hj _ (mres_small t1)))
  refine Ev.to (mpas_eq (by omega) hb) ?_
  have tx := mparse_MT true (l := b) hb.2
  refine Ev.count p.1.Pending.length (fun i (s : Int × Int) => s.2 = (i : Int) ∧ 0 ≤ s.1 ∧ s.1 ≤ i ∧ (0 < s.1 ↔ (mparse true b).2 = 0 ∧ ∃ (k : Nat) (q : Pending_), k < i ∧ p.1.Pending[k]? = some q ∧ MM q.Request (mparse true b).1)) (by omega) ⟨rfl, by simp, by simp, by simp⟩ (fun i s hi hI self hself => ?_)
  obtain ⟨hi1, hi2, hi3, hi4⟩ := hI
  rw [hi1]
  by_cases hil : i < p.1.Pending.length
  · obtain ⟨q, hq, hqm⟩ := getq hil
    refine Ev.decT (by omega) (Ev.to (by rw [idx_nat, hq]) ?_)
    refine Ev.join (fun s4 => s4 = true ↔ (mparse true b).2 = 0 ∧ MM q.Request (mparse true b).1) (fun s4 hs4 => Ev.ite (fun e4 => ?_) (fun e4 => ?_)) (fun j3 hj3 => Ev.beq (fun h0 => Ev.to (mMatches_eq (tr.ps q hqm).1 tx) (hj3 _ (by simp [h0]))) (fun h0 => hj3 _ (by simp [h0])))
    · rw [wr (n := s.1 + 1) (by omega), wi i (by omega)]
      refine Ev.letP (hself _ hil ⟨by simp, by simp only; omega, by simp only; omega, ?_⟩)
      have h4 := hs4.1 e4
      constructor
      · intro _; exact ⟨h4.1, i, q, by omega, hq, h4.2⟩
      · intro _; simp only; omega
    · rw [wi i (by omega)]
      refine hself _ hil ⟨by simp, hi2, by simp only; omega, ?_⟩
      have hn : ¬ ((mparse true b).2 = 0 ∧ MM q.Request (mparse true b).1) := fun h => by rw [hs4.2 h] at e4; cases e4
      simp only
      rw [hi4]
      constructor
      · rintro ⟨h0, k, q', hk, hq', hm⟩; exact ⟨h0, k, q', by omega, hq', hm⟩
      · rintro ⟨h0, k, q', hk, hq', hm⟩
        refine ⟨h0, k, q', ?_, hq', hm⟩
        refine Classical.byContradiction fun hc => hn ⟨h0, ?_⟩
        have : k = i := by omega
        subst this
        rw [hq] at hq'; cases hq'; exact hm
  · have hie : i = p.1.Pending.length := by omega
    refine Ev.decF (by omega) (Ev.to (eRecv_eq (by omega) tr hb) ?_)
    -- an answer, or none
    by_cases hm : (mparse true b).2 = 0 ∧ ∃ (k : Nat) (q : Pending_), k < i ∧ p.1.Pending[k]? = some q ∧ MM q.Request (mparse true b).1
    · have hpos := hi4.2 hm
      obtain ⟨h0, k, q, hk, hq, hmm⟩ := hm
      have hsome : ∃ n, fidx p.1.Pending (mparse true b).1 = some n ∧ n < p.1.Pending.length := by
        cases hf : fidx p.1.Pending (mparse true b).1 with
        | some n =>
          refine ⟨n, rfl, ?_⟩
          unfold fidx at hf
          rw [List.findIdx?_eq_some_iff_getElem] at hf
          exact hf.1
        | none =>
          unfold fidx at hf
          rw [List.findIdx?_eq_none_iff] at hf
          have := hf q (List.mem_of_getElem? hq)
          simp [hmm] at this
      obtain ⟨n, hn, hnl⟩ := hsome
      have hr : rrecv p.1 b = (rdrop p.1 n, ((p.1.Pending[n]?).getD Pending_.z).Request, (mparse true b).1, true) := by
        unfold rrecv
        rw [if_neg (fun h => h.elim (fun h => h vr) (fun h => h h0)), hn]
      rw [hr]
      refine Ev.bneF (by rw [decide_eq_true hpos]) (Ev.iteT rfl (Ev.iteT ?_ (Ev.ret rfl)))
      have : (rdrop p.1 n).Pending.length + 1 = p.1.Pending.length := by simp only [rdrop, List.length_append, List.length_take, List.length_drop]; omega
      rw [wr (n := (p.1.Pending.length : Int) - 1) (by omega)]
      simp; omega
    · have hz : ¬ 0 < s.1 := fun h => hm (hi4.1 h)
      have hr : rrecv p.1 b = (p.1, Message_.z, Message_.z, false) := by
        unfold rrecv
        by_cases h0 : (mparse true b).2 = 0
        · rw [if_neg (fun h => h.elim (fun h => h vr) (fun h => h h0))]
          have : fidx p.1.Pending (mparse true b).1 = none := fidx_none (fun q hq => by
            obtain ⟨k, hk⟩ := List.getElem?_of_mem hq
            refine decide_eq_false (fun hc => hm ⟨h0, k, q, by have := lt_len hk; omega, hk, hc⟩))
          rw [this]
        · rw [if_pos (.inr h0)]
      rw [hr]
      refine Ev.bneF (by rw [decide_eq_false (show ¬ s.1 > 0 by omega)]) (Ev.iteF rfl (Ev.iteT rfl (Ev.to (sSame_refl (by omega) tr) (Ev.ret rfl))))
end Lift
