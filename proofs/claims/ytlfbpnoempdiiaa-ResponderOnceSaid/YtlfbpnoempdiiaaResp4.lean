/- Responders: validity stays; what an answer is. No program in sight. -/
import Derived.Test.YtlfbpnoempdiiaaResp3
set_option linter.unusedVariables false
set_option linter.unusedSimpArgs false
namespace Lift
open Go
def Apart (l : List Message_) : Prop := l.Pairwise (fun a b => ¬ isame a b)
theorem SV_iff {r : Responder_} : SV r ↔ (8 ≤ r.Own ∧ r.Own ≤ 119 ∧ r.Queue.length ≤ 8 ∧ r.Queue.length + r.Memory.length ≤ 16) ∧ (∀ k ∈ r.Memory, MemV k) ∧ (∀ m ∈ allq r, ReqV r.Own m) ∧ Apart (allq r) := by
  constructor
  · rintro ⟨h1, h2, h3, h4, h5, h6⟩
    refine ⟨⟨h1, h2, h3, h4⟩, fun k hk => ?_, fun m hm => ?_, ?_⟩
    · obtain ⟨i, hi⟩ := List.getElem?_of_mem hk; exact h5 i k hi
    · obtain ⟨i, hi⟩ := List.getElem?_of_mem hm; exact (h6 i m hi).1
    · unfold Apart
      rw [List.pairwise_iff_getElem]
      intro i j hi hj hij
      exact (h6 j _ (List.getElem?_eq_getElem hj)).2 i _ hij (List.getElem?_eq_getElem hi)
  · rintro ⟨⟨h1, h2, h3, h4⟩, h5, h6, h7⟩
    refine ⟨h1, h2, h3, h4, fun i k hk => h5 k (List.mem_of_getElem? hk), fun i m hm => ⟨h6 m (List.mem_of_getElem? hm), fun j q hj hq => ?_⟩⟩
    unfold Apart at h7
    rw [List.pairwise_iff_getElem] at h7
    have hi := lt_len hm
    have hj' := lt_len hq
    rw [List.getElem?_eq_getElem hi] at hm
    rw [List.getElem?_eq_getElem hj'] at hq
    cases hm; cases hq
    exact h7 j i hj' hi hj
theorem Apart.perm {a b : List Message_} (p : a.Perm b) (h : Apart a) : Apart b :=
  (p.pairwise_iff (R := fun a b => ¬ isame a b) (fun {x y} hn hc => hn hc.symm)).1 h
theorem allq_fresh (r : Responder_) (now : Int) : (allq (sfresh r now)).Sublist (allq r) :=
  List.Sublist.append (List.Sublist.refl _) (List.Sublist.map _ List.filter_sublist)
theorem sfresh_V {r : Responder_} (v : SV r) (now : Int) : SV (sfresh r now) := by
  obtain ⟨⟨h1, h2, h3, h4⟩, h5, h6, h7⟩ := SV_iff.1 v
  have hs := allq_fresh r now
  have hfl := fmem_len r.Memory now
  exact SV_iff.2 ⟨⟨h1, h2, h3, by show r.Queue.length + (fmem r.Memory now).length ≤ 16; omega⟩, fun k hk => h5 k (List.mem_filter.1 hk).1, fun m hm => h6 m (hs.subset hm), h7.sublist hs⟩
/-- A request is added to those that wait. -/
theorem add_V {r : Responder_} (v : SV r) {m : Message_} (hm : ReqV r.Own m) (hq : r.Queue.length < 8) (hl : r.Queue.length + r.Memory.length < 16) (hn : ∀ q ∈ allq r, ¬ isame q m) : SV { r with Queue := r.Queue ++ [m] } := by
  obtain ⟨⟨h1, h2, h3, h4⟩, h5, h6, h7⟩ := SV_iff.1 v
  have p : (m :: allq r).Perm (allq { r with Queue := r.Queue ++ [m] }) := by
    show (m :: (r.Queue ++ _)).Perm ((r.Queue ++ [m]) ++ _)
    rw [List.append_assoc]
    exact (List.perm_middle).symm
  refine SV_iff.2 ⟨⟨h1, h2, by simp; omega, by simp; omega⟩, h5, fun q hq2 => ?_, ?_⟩
  · rcases List.mem_cons.1 (p.mem_iff.2 hq2) with rfl | h
    · exact hm
    · exact h6 q h
  · exact Apart.perm p (List.pairwise_cons.2 ⟨fun q hq2 hc => hn q hq2 hc.symm, h7⟩)
/-- A valid request has an answer. -/
theorem reply_ok {m : Message_} (h : MV m ∧ m.Function % 2 = 0) (t : MT m) {code : Int} (hc : byte code) {data : List Int} (hd : data.length ≤ 240) (hb : ∀ x ∈ data, byte x) :
    ∃ y, mreply m code data = (y, 0) ∧ MT y ∧ MV y ∧ mres y = (mbytes y, 0) ∧ mparse true (mbytes y) = (y, 0) ∧ MM m y ∧ y.Code = code := by
  obtain ⟨a1, a2⟩ := mreply_res h code hd
  obtain ⟨ty, _⟩ := mreply_MT t hc hb
  have e : mreply m code data = ((mreply m code data).1, 0) := by rw [← a1]
  obtain ⟨vy, oy⟩ := mres_ok.1 a2
  refine ⟨(mreply m code data).1, e, ty, vy, ?_, mparse_back vy ty true (by simpa using oy), ?_, ?_⟩
  · unfold mres; rw [if_pos ⟨vy, oy⟩]
  · refine ⟨h, vy, ?_⟩
    unfold mreply; rw [if_pos ⟨h.1, h.2, hd⟩]
    exact ⟨rfl, rfl, rfl, rfl, rfl, rfl, rfl⟩
  · unfold mreply; rw [if_pos ⟨h.1, h.2, hd⟩]
/-- What Done does with the first request that waits. -/
theorem done_ok {r : Responder_} (v : SV r) (t : ST r) {m : Message_} {rest : List Message_} (hq : r.Queue = m :: rest) {code : Int} (hc : byte code) {data : List Int} (hd : data.length ≤ 240) (hb : ∀ x ∈ data, byte x) {now : Int} (h0 : 0 ≤ now) (h1 : now ≤ 17179869184) :
    ∃ y, mreply m code data = (y, 0) ∧ MT y ∧ MV y ∧ sdone r code data now = (⟨r.Own, rest, fmem r.Memory now ++ [⟨m, mbytes y, now + 100⟩]⟩, mbytes y, 0) ∧ SV ⟨r.Own, rest, fmem r.Memory now ++ [⟨m, mbytes y, now + 100⟩]⟩ ∧ y.Code = code := by
  obtain ⟨⟨v1, v2, v3, v4⟩, v5, v6, v7⟩ := SV_iff.1 v
  have hm : m ∈ allq r := by unfold allq; rw [hq]; simp
  have hr := v6 m hm
  obtain ⟨y, e, ty, vy, e2, e3, e4, e5⟩ := reply_ok hr.1 (t.qs m (by rw [hq]; simp)) hc hd hb
  have hfl := fmem_len r.Memory now
  have hlen : r.Queue.length = rest.length + 1 := by rw [hq]; rfl
  refine ⟨y, e, ty, vy, ?_, ?_, e5⟩
  · unfold sdone
    rw [if_neg (fun h => h v), if_neg (by omega), hq]
    simp only
    rw [e, if_neg (fun h => h rfl), e2, if_neg (fun h => h rfl)]
  · have hs := allq_fresh r now
    have p : (allq (sfresh r now)).Perm (allq ⟨r.Own, rest, fmem r.Memory now ++ [⟨m, mbytes y, now + 100⟩]⟩) := by
      show (r.Queue ++ (fmem r.Memory now).map (fun k => k.Request)).Perm (rest ++ (fmem r.Memory now ++ [(⟨m, mbytes y, now + 100⟩ : Memory_)]).map (fun k => k.Request))
      rw [hq, List.map_append, ← List.append_assoc, List.cons_append]
      exact (List.perm_append_singleton m _).symm
    refine SV_iff.2 ⟨⟨v1, v2, by simp only; omega, by simp; omega⟩, fun k hk => ?_, fun q hq2 => v6 q (hs.subset (p.mem_iff.2 hq2)), Apart.perm p (v7.sublist hs)⟩
    rcases List.mem_append.1 hk with h | h
    · exact v5 k (List.mem_filter.1 h).1
    · simp only [List.mem_singleton] at h
      rw [h]
      exact ⟨by simp only; rw [e3], by simp only; omega, by simp only; rw [e3]; exact e4⟩
open Classical in
theorem sacc_of {r : Responder_} (v : SV r) {m : Message_} (h : ReqV r.Own m) (t : MT m) {now : Int} (h0 : 0 ≤ now) (h1 : now ≤ 17179869184) : sacc r (mbytes m) now = match (fmem r.Memory now).find? (fun k => decide (isame k.Request m)) with
  | some k => (sfresh r now, k.Reply, 0)
  | none => if ∃ q ∈ r.Queue, isame q m then (sfresh r now, [], 0) else
    if r.Queue.length = 8 ∨ r.Queue.length + (fmem r.Memory now).length = 16 then (sfresh r now, (mres (mreply m 192 []).1).1, 0) else
    ({ sfresh r now with Queue := r.Queue ++ [m] }, [], 0) := by
  have e : mparse false (mbytes m) = (m, 0) := mparse_back h.1.1 t false (by simpa using h.1.2)
  unfold sacc
  rw [if_neg (fun h => h v), if_neg (by omega), e, if_neg (fun h => h rfl)]
  simp only
  rw [if_neg (fun hn => hn h.2)]
  cases (fmem r.Memory now).find? (fun k => decide (isame k.Request m)) with
  | some k => rfl
  | none =>
    by_cases hq : ∃ q ∈ r.Queue, isame q m
    · simp only [if_pos hq]
    · simp only [if_neg hq]
/-- A new request is taken. -/
theorem acc_new {r : Responder_} (v : SV r) {m : Message_} (h : ReqV r.Own m) (t : MT m) {now : Int} (h0 : 0 ≤ now) (h1 : now ≤ 17179869184) (hn : ∀ q ∈ allq (sfresh r now), ¬ isame q m) (hq : r.Queue.length < 8) (hl : r.Queue.length + (fmem r.Memory now).length < 16) :
    sacc r (mbytes m) now = (⟨r.Own, r.Queue ++ [m], fmem r.Memory now⟩, [], 0) ∧ SV ⟨r.Own, r.Queue ++ [m], fmem r.Memory now⟩ := by
  refine ⟨?_, add_V (sfresh_V v now) h hq hl hn⟩
  rw [sacc_of v h t h0 h1, List.find?_eq_none.2]
  · simp only
    rw [if_neg, if_neg (by omega)]
    · rfl
    · rintro ⟨q, hq2, hc⟩
      exact hn q (List.mem_append_left _ hq2) hc
  · intro k hk hc
    exact hn k.Request (List.mem_append_right _ (List.mem_map.2 ⟨k, hk, rfl⟩)) (of_decide_eq_true hc)
/-- A copy of a remembered request gets its answer. -/
theorem acc_mem {r : Responder_} (v : SV r) {m : Message_} (h : ReqV r.Own m) (t : MT m) {now : Int} (h0 : 0 ≤ now) (h1 : now ≤ 17179869184) {k : Memory_} (hk : k ∈ fmem r.Memory now) (hc : isame k.Request m) :
    ∃ k' ∈ fmem r.Memory now, isame k'.Request m ∧ sacc r (mbytes m) now = (sfresh r now, k'.Reply, 0) := by
  rw [sacc_of v h t h0 h1]
  cases hf : (fmem r.Memory now).find? (fun k => decide (isame k.Request m)) with
  | some k' => exact ⟨k', List.mem_of_find?_eq_some hf, by have := List.find?_some hf; exact of_decide_eq_true this, rfl⟩
  | none => exact absurd hc (by have := List.find?_eq_none.1 hf k hk; simpa using this)
/-- A copy of a request that waits is dropped. -/
theorem acc_wait {r : Responder_} (v : SV r) {m : Message_} (h : ReqV r.Own m) (t : MT m) {now : Int} (h0 : 0 ≤ now) (h1 : now ≤ 17179869184) (hm : ∀ k ∈ fmem r.Memory now, ¬ isame k.Request m) (hq : ∃ q ∈ r.Queue, isame q m) :
    sacc r (mbytes m) now = (sfresh r now, [], 0) := by
  rw [sacc_of v h t h0 h1, List.find?_eq_none.2 (fun k hk hc => hm k hk (of_decide_eq_true hc))]
  simp only
  rw [if_pos hq]
/-- A new request that finds no place is refused. -/
theorem acc_busy {r : Responder_} (v : SV r) {m : Message_} (h : ReqV r.Own m) (t : MT m) {now : Int} (h0 : 0 ≤ now) (h1 : now ≤ 17179869184) (hn : ∀ q ∈ allq (sfresh r now), ¬ isame q m) (hl : r.Queue.length = 8 ∨ r.Queue.length + (fmem r.Memory now).length = 16) :
    sacc r (mbytes m) now = (sfresh r now, (mres (mreply m 192 []).1).1, 0) := by
  rw [sacc_of v h t h0 h1, List.find?_eq_none.2]
  · simp only
    rw [if_neg, if_pos hl]
    rintro ⟨q, hq2, hc⟩
    exact hn q (List.mem_append_left _ hq2) hc
  · intro k hk hc
    exact hn k.Request (List.mem_append_right _ (List.mem_map.2 ⟨k, hk, rfl⟩)) (of_decide_eq_true hc)
/-- The requests of the laws. -/
def rqm (fr cm sq : Int) (d : List Int) : Message_ := ⟨32, fr, 6, cm, 0, 0, sq, 0, d⟩
theorem rqm_ok {fr cm sq : Int} {d : List Int} (h1 : 8 ≤ fr) (h2 : fr ≤ 119) (h3 : byte cm) (h4 : 0 ≤ sq) (h5 : sq ≤ 63) (h6 : d.length ≤ 240) (h7 : ∀ x ∈ d, byte x) : MT (rqm fr cm sq d) ∧ ReqV 32 (rqm fr cm sq d) := by
  have b32 : byte 32 := ⟨by decide, by decide⟩
  have b6 : byte 6 := ⟨by decide, by decide⟩
  have b0 : byte 0 := ⟨by decide, by decide⟩
  refine ⟨⟨b32, ⟨by simp only [rqm]; omega, by simp only [rqm]; omega⟩, b6, h3, b0, okI_sm (by simp only [rqm]; omega), okI_sm (by simp only [rqm]; omega), okI_sm (by simp only [rqm]; omega), h7, by simp only [rqm]; omega⟩, ⟨⟨?_, ?_, h1, h2, ?_, ?_, ?_, ?_, ?_, h4, h5, h6, .inr rfl⟩, rfl⟩, rfl⟩ <;> simp only [rqm] <;> omega
theorem mreq_of {m : Message_} (h : MV m ∧ m.Function % 2 = 0) : mreq m = (mbytes m, 0) := by unfold mreq; rw [if_pos h]
theorem nil_V {own : Int} (h1 : 8 ≤ own) (h2 : own ≤ 119) : SV ⟨own, [], []⟩ :=
  SV_iff.2 ⟨⟨h1, h2, by simp, by simp⟩, fun k hk => (by cases hk), fun m hm => (by cases hm), List.Pairwise.nil⟩
theorem nil_T {own : Int} (h : byte own) : ST ⟨own, [], []⟩ := ⟨h, fun p hp => (by cases hp), fun p hp => (by cases hp), by simp, by simp⟩
theorem snext_cons {r : Responder_} (v : SV r) {m : Message_} {rest : List Message_} (h : r.Queue = m :: rest) : snext r = (m, true) := by
  unfold snext; rw [if_neg (fun hn => hn v), h]
theorem snext_nil {r : Responder_} (h : r.Queue = []) : snext r = (Message_.z, false) := by
  unfold snext; split
  · rfl
  · rw [h]
end Lift
