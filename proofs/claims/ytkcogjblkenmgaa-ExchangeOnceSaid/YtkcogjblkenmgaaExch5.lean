/- Valid requesters stay valid. No program in sight. -/
import Derived.Test.YtkcogjblkenmgaaExch4
set_option linter.unusedVariables false
set_option linter.unusedSimpArgs false
namespace Lift
open Go
def sameM (q p : Message_) : Prop := q.To = p.To ∧ q.Sequence = p.Sequence
def RVp (r : Requester_) : Prop := 8 ≤ r.Own ∧ r.Own ≤ 119 ∧ 0 ≤ r.Next ∧ r.Next ≤ 63 ∧ r.Pending.length ≤ 8 ∧ (∀ p ∈ r.Pending, PV r.Own p) ∧ (r.Pending.map (fun p => p.Request)).Pairwise (fun q p => ¬ sameM q p)
theorem RV_iff {r : Requester_} : RV r ↔ RVp r := by
  unfold RV RVp
  constructor
  · rintro ⟨h1, h2, h3, h4, h5, h6⟩
    refine ⟨h1, h2, h3, h4, h5, fun p hp => ?_, ?_⟩
    · obtain ⟨i, hi⟩ := List.getElem?_of_mem hp
      exact (h6 i p hi).1
    · rw [List.pairwise_map, List.pairwise_iff_getElem]
      intro i j hi hj hij
      exact (h6 j r.Pending[j] (List.getElem?_eq_getElem hj)).2 i r.Pending[i] hij (List.getElem?_eq_getElem hi)
  · rintro ⟨h1, h2, h3, h4, h5, h6, h7⟩
    rw [List.pairwise_map, List.pairwise_iff_getElem] at h7
    refine ⟨h1, h2, h3, h4, h5, fun i p hp => ⟨h6 p (List.mem_of_getElem? hp), fun j q hj hq => ?_⟩⟩
    have hi := lt_len hp
    have hjl := lt_len hq
    have := h7 j i hjl hi hj
    rw [List.getElem?_eq_getElem hi] at hp
    rw [List.getElem?_eq_getElem hjl] at hq
    cases hp; cases hq
    exact this
theorem rsend_V {r : Requester_} {to fn cm now : Int} {data : List Int} (h0 : (rsend r to fn cm data now).2.2 = 0) : RV (rsend r to fn cm data now).1 ∧ RV r ∧ r.Pending.length < 8 ∧ (mreq (smsg r to fn cm data)).2 = 0 ∧
    rsend r to fn cm data now = ({ r with Next := (fseq r.Pending to r.Next + 1) % 64, Pending := r.Pending ++ [⟨smsg r to fn cm data, now + 10, 1⟩] }, (mreq (smsg r to fn cm data)).1, 0) := by
  have v := rval_of_send h0
  unfold rsend at h0 ⊢
  rw [if_neg (fun h => h v)] at h0 ⊢
  by_cases hn : now < 0 ∨ 17179869184 < now
  · rw [if_pos hn] at h0; cases h0
  rw [if_neg hn] at h0 ⊢
  by_cases hl : 8 ≤ r.Pending.length
  · rw [if_pos hl] at h0; cases h0
  rw [if_neg hl] at h0 ⊢
  by_cases he : (mreq (smsg r to fn cm data)).2 ≠ 0
  · rw [if_pos he] at h0; exact absurd h0 he
  rw [if_neg he]
  have he' : (mreq (smsg r to fn cm data)).2 = 0 := Classical.not_not.1 he
  refine ⟨?_, v, by omega, he', rfl⟩
  obtain ⟨h1, h2, h3, h4, h5, h6, h7⟩ := RV_iff.1 v
  rw [RV_iff]
  refine ⟨h1, h2, by simp only; omega, by simp only; omega, by simp; omega, fun p hp => ?_, ?_⟩
  · rcases List.mem_append.1 hp with h | h
    · exact h6 p h
    · simp only [List.mem_singleton] at h
      subst h
      exact ⟨(show (1 : Int) ≤ 1 by omega), (show (1 : Int) ≤ 3 by omega), by simp only; omega, rfl, mreq_ok.1 he'⟩
  · show ((r.Pending ++ [(⟨smsg r to fn cm data, now + 10, 1⟩ : Pending_)]).map (fun p : Pending_ => p.Request)).Pairwise _
    rw [List.map_append, List.pairwise_append]
    refine ⟨h7, by simp, fun a ha b hb => ?_⟩
    simp only [List.map_cons, List.map_nil, List.mem_singleton] at hb
    subst hb
    obtain ⟨p, hp, rfl⟩ := List.mem_map.1 ha
    rintro ⟨e1, e2⟩
    have hs := freeK_spec (show r.Pending.length ≤ 8 by omega) to r.Next.toNat
    exact hs.2.1 ⟨p, hp, e1, e2⟩
theorem tfold_sub (now : Int) : ∀ (l : List Pending_) (s : List Pending_ × List (List Int) × List Message_), ((l.foldl (tstep now) s).1.map (fun p => p.Request)).Sublist (s.1.map (fun p => p.Request) ++ l.map (fun p => p.Request))
  | [], s => by simp
  | p :: l, s => by
    rw [List.foldl_cons]
    refine (tfold_sub now l (tstep now s p)).trans ?_
    have : ((tstep now s p).1.map (fun p => p.Request)).Sublist (s.1.map (fun p => p.Request) ++ [p.Request]) := by
      unfold tstep
      split
      · simp
      · split
        · exact List.sublist_append_left _ _
        · simp [bump]
    have h2 := List.Sublist.append this (List.Sublist.refl (l.map (fun p => p.Request)))
    simpa using h2
theorem tfold_PV {now own : Int} (hn : 0 ≤ now) : ∀ {l : List Pending_} {s : List Pending_ × List (List Int) × List Message_}, (∀ p ∈ l, PV own p) → (∀ p ∈ s.1, PV own p) → ∀ p ∈ (l.foldl (tstep now) s).1, PV own p
  | [], s, _, h => h
  | p :: l, s, hl, h => by
    rw [List.foldl_cons]
    refine tfold_PV hn (fun q hq => hl q (by simp [hq])) (fun q hq => ?_)
    have hp := hl p (by simp)
    unfold tstep at hq
    split at hq
    · rcases List.mem_append.1 hq with h3 | h3
      · exact h q h3
      · simp only [List.mem_singleton] at h3; rw [h3]; exact hp
    · split at hq
      · exact h q hq
      · rename_i h3
        rcases List.mem_append.1 hq with h4 | h4
        · exact h q h4
        · simp only [List.mem_singleton] at h4
          rw [h4]
          have e1 := hp.1
          have e2 := hp.2.1
          refine ⟨by simp only [bump]; omega, by simp only [bump]; omega, ?_, hp.2.2.2⟩
          have : (0 : Int) ≤ 10 * 2 ^ p.Tries.toNat := Int.mul_nonneg (by decide) (Int.pow_nonneg (by decide))
          simp only [bump]; omega
theorem rtick_V {r : Requester_} (v : RV r) (now : Int) : RV (rtick r now).1 := by
  unfold rtick
  split
  · exact v
  · rename_i h
    obtain ⟨h1, h2, h3, h4, h5, h6, h7⟩ := RV_iff.1 v
    have hn : 0 ≤ now := by
      refine Classical.byContradiction fun hc => h (.inr (.inl (by omega)))
    rw [RV_iff]
    have hsub := tfold_sub now r.Pending ([], [], [])
    simp only [List.map_nil, List.nil_append] at hsub
    have hl := (tfold_len now r.Pending r.Pending.length (Nat.le_refl _)).1
    rw [List.take_length] at hl
    exact ⟨h1, h2, h3, h4, by show (tfold now r.Pending).1.length ≤ 8; omega, tfold_PV hn h6 (fun p hp => (by cases hp)), h7.sublist hsub⟩
theorem rdrop_V {r : Requester_} (v : RV r) (i : Nat) : RV (rdrop r i) := by
  obtain ⟨h1, h2, h3, h4, h5, h6, h7⟩ := RV_iff.1 v
  rw [RV_iff]
  have hsub : (r.Pending.take i ++ r.Pending.drop (i + 1)).Sublist r.Pending := by
    have h := List.Sublist.append (List.Sublist.refl (r.Pending.take i)) (List.drop_sublist_drop_left r.Pending (Nat.le_succ i))
    rwa [List.take_append_drop] at h
  refine ⟨h1, h2, h3, h4, ?_, fun p hp => h6 p (hsub.subset hp), h7.sublist (hsub.map _)⟩
  have := hsub.length_le
  show (r.Pending.take i ++ r.Pending.drop (i + 1)).length ≤ 8
  omega
theorem rrecv_V {r : Requester_} (v : RV r) (b : List Int) : RV (rrecv r b).1 := by
  unfold rrecv
  split
  · exact v
  · split
    · exact v
    · exact rdrop_V v _
theorem playV_ok {c : field_Codes} (h : COk c) {steps : Nat} (hs : steps ≤ 20) : Ev (law24_play 10000 c (steps : Int)) (fun p => RT p.1 ∧ RV p.1 ∧ 0 ≤ p.2.1 ∧ p.2.1 ≤ 30 * steps ∧ COk p.2.2 ∧ p.1.Pending.length ≤ 9) :=
  play24_ok h hs RV ⟨by decide, by decide, by decide, by decide, by simp, fun i p hp => by simp at hp⟩ (fun r to cm data now _ _ _ _ _ _ _ h0 => (rsend_V h0).1) (fun r now _ v _ => rtick_V v now) (fun r b _ v _ => rrecv_V v b)
end Lift
