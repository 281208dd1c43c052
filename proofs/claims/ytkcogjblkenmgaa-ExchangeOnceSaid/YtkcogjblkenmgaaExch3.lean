/- What Receive returns, sameness, types that stay: closed forms. No program in sight. -/
import Derived.Test.YtkcogjblkenmgaaExch2
import Derived.Test.YtkcogjblkenmgaaMtyped
set_option linter.unusedVariables false
set_option linter.unusedSimpArgs false
namespace Lift
open Go
/-- The first request that a response answers. -/
def fidx (l : List Pending_) (m : Message_) : Option Nat := l.findIdx? (fun p => decide (MM p.Request m))
def rdrop (r : Requester_) (i : Nat) : Requester_ := { r with Pending := r.Pending.take i ++ r.Pending.drop (i + 1) }
open Classical in
noncomputable def rrecv (r : Requester_) (b : List Int) : Requester_ × Message_ × Message_ × Bool :=
  if ¬ RV r ∨ (mparse true b).2 ≠ 0 then (r, Message_.z, Message_.z, false) else
  match fidx r.Pending (mparse true b).1 with
  | none => (r, Message_.z, Message_.z, false)
  | some i => (rdrop r i, ((r.Pending[i]?).getD Pending_.z).Request, (mparse true b).1, true)
theorem fidx_none {l : List Pending_} {m : Message_} (h : ∀ p ∈ l, decide (MM p.Request m) = false) : fidx l m = none := by
  unfold fidx; rw [List.findIdx?_eq_none_iff]; exact h
theorem fidx_some {l : List Pending_} {m : Message_} {i : Nat} {p : Pending_} (hp : l[i]? = some p) (hm : decide (MM p.Request m) = true) (hb : ∀ (j : Nat) q, j < i → l[j]? = some q → decide (MM q.Request m) = false) : fidx l m = some i := by
  unfold fidx
  rw [List.findIdx?_eq_some_iff_getElem]
  have hi := lt_len hp
  refine ⟨hi, ?_, fun j hj => ?_⟩
  · rw [List.getElem?_eq_getElem hi] at hp; cases hp; exact hm
  · have := hb j l[j] hj (List.getElem?_eq_getElem (by omega))
    simp [this]
theorem recv_sub {l : List Pending_} {i : Nat} (hi : i < l.length) (hl : l.length ≤ 1000) : sub l 0 (i : Int) = some (l.take i) ∧ sub l (IntKind.i64.wrap ((i : Int) + 1)) (l.length : Int) = some (l.drop (i + 1)) ∧ app 80 (l.take i) (l.drop (i + 1)) = some (l.take i ++ l.drop (i + 1)) := by
  refine ⟨?_, ?_, app_ok (by simp; omega)⟩
  · have := sub_ok (l := l) (a := 0) (b := i) (by omega) (by omega)
    simpa using this
  · rw [wi i (by omega)]
    have := sub_ok (l := l) (a := i + 1) (b := l.length) (by omega) (by omega)
    rw [List.take_of_length_le (by simp)] at this
    exact this
theorem eRecv_eq {fuel : Nat} (hf : 6000 < fuel) {r : Requester_} (t : RT r) {b : List Int} (hb : Small b) : exchange_Receive fuel r b = some (rrecv r b) := by
  apply Ev.isSome
  unfold exchange_Receive rrecv
  have hl := t.le
  refine Ev.to (clone24_eq hf t) (Ev.to (eValid_eq hf t) (Ev.not (Ev.ite (fun v => ?_) (fun v => Ev.ret (by rw [if_pos]; left; intro h; rw [rval_iff.2 h] at v; cases v)))))
  have v := rval_iff.1 v
  refine Ev.to (mpas_eq (by omega) hb) (Ev.bne (fun h => Ev.ret (by rw [if_pos (.inr h)])) (fun h0 => ?_))
  rw [if_neg (fun h => h.elim (fun h => h v) (fun h => h h0))]
  have tm := mparse_MT true (l := b) hb.2
  refine Ev.find (l := r.Pending) (fun (p : Pending_) => decide (MM p.Request (mparse true b).1)) (by omega) (fun i p hp hi hm self hs => ?_) (fun i p hp hi hm hbe self => ?_) (fun hn self => ?_)
  · refine Ev.decT (by omega) (Ev.to (by rw [idx_nat, hp]) (Ev.to (mMatches_eq (t.ps p (List.mem_of_getElem? hp)).1 tm) (Ev.iteF hm ?_)))
    rw [wi i (by omega)]; exact hs
  · obtain ⟨s1, s2, s3⟩ := recv_sub hi hl
    refine Ev.decT (by omega) (Ev.to (by rw [idx_nat, hp]) (Ev.to (mMatches_eq (t.ps p (List.mem_of_getElem? hp)).1 tm) (Ev.iteT hm (Ev.to s1 (Ev.to s2 (Ev.to s3 (Ev.letP (Ev.ret ?_))))))))
    rw [fidx_some hp hm hbe]; simp only; rw [hp]; rfl
  · refine Ev.decF (by omega) (Ev.ret ?_)
    rw [fidx_none hn]
theorem r24Recv_eq {fuel : Nat} (hf : 6000 < fuel) {r : Requester_} (t : RT r) {b : List Int} (hb : Small b) : ref24_Receive fuel r b = some (rrecv r b) := by
  apply Ev.isSome
  unfold ref24_Receive rrecv
  have hl := t.le
  refine Ev.to (rpas_eq (by omega) hb) ?_
  refine Ev.join (fun s => s = true ↔ ¬ RV r ∨ (mparse true b).2 ≠ 0) (fun s hs => Ev.ite (fun e => ?_) (fun e => ?_)) (fun j hj => Ev.bne (fun h => hj _ ⟨fun _ => .inr h, fun _ => rfl⟩) (fun h => Ev.to (r24Valid_eq hf t) (hj _ ?_)))
  · rw [if_pos (hs.1 e)]
    exact Ev.to (r24Copy_eq hf t) (Ev.ret rfl)
  · have hn : ¬ (¬ RV r ∨ (mparse true b).2 ≠ 0) := fun h => by rw [hs.2 h] at e; cases e
    rw [if_neg hn]
    have tm := mparse_MT true (l := b) hb.2
    refine Ev.to (r24Copy_eq hf t) ?_
    refine Ev.find (l := r.Pending) (fun (p : Pending_) => decide (MM p.Request (mparse true b).1)) (by omega) (fun i p hp hi hm self hs => ?_) (fun i p hp hi hm hbe self => ?_) (fun hn self => ?_)
    · refine Ev.decT (by omega) (Ev.to (by rw [idx_nat, hp]) (Ev.to (rMatches_eq (by omega) (t.ps p (List.mem_of_getElem? hp)).1 tm) (Ev.iteF hm (Ev.letP ?_))))
      rw [wi i (by omega)]; exact hs
    · obtain ⟨s1, s2, s3⟩ := recv_sub hi hl
      refine Ev.decT (by omega) (Ev.to (by rw [idx_nat, hp]) (Ev.to (rMatches_eq (by omega) (t.ps p (List.mem_of_getElem? hp)).1 tm) (Ev.iteT hm (Ev.to s1 (Ev.to s2 (Ev.to s3 (Ev.letP (Ev.ret ?_))))))))
      rw [fidx_some hp hm hbe]; simp only; rw [hp]; rfl
    · refine Ev.decF (by omega) (Ev.ret ?_)
      rw [fidx_none hn]
  · rw [Bool.not_eq_true', ← Bool.not_eq_true, rval_iff]
    constructor
    · intro h2; exact .inl h2
    · rintro (h2 | h2)
      · exact h2
      · exact absurd h h2
/-! ### sameness -/
theorem sMsg_eq {fuel : Nat} {a b : Message_} (ha : ∀ x ∈ a.Data, byte x) (hb : ∀ x ∈ b.Data, byte x) : ref24_SameMessage fuel a b = some (decide (a = b)) := by
  unfold ref24_SameMessage
  rw [toStr_byte ha, toStr_byte hb]
  simp only [mext, ibeq]
  by_cases h1 : a.To = b.To
  rotate_left
  · simp [h1]
  by_cases h2 : a.From = b.From
  rotate_left
  · simp [h1, h2]
  by_cases h3 : a.Function = b.Function
  rotate_left
  · simp [h1, h2, h3]
  by_cases h4 : a.Command = b.Command
  rotate_left
  · simp [h1, h2, h3, h4]
  by_cases h5 : a.ToUnit = b.ToUnit
  rotate_left
  · simp [h1, h2, h3, h4, h5]
  by_cases h6 : a.FromUnit = b.FromUnit
  rotate_left
  · simp [h1, h2, h3, h4, h5, h6]
  by_cases h7 : a.Sequence = b.Sequence
  rotate_left
  · simp [h1, h2, h3, h4, h5, h6, h7]
  by_cases h8 : a.Code = b.Code
  rotate_left
  · simp [h1, h2, h3, h4, h5, h6, h7, h8]
  simp only [h1, h2, h3, h4, h5, h6, h7, h8, decide_true, iteP_true, letP_eq, true_and]
  congr 1
  by_cases h9 : a.Data = b.Data <;> simp [h9]
theorem pext {a b : Pending_} : a = b ↔ (a.Request = b.Request ∧ a.Deadline = b.Deadline ∧ a.Tries = b.Tries) := by cases a; cases b; simp
theorem rext {a b : Requester_} : a = b ↔ (a.Own = b.Own ∧ a.Next = b.Next ∧ a.Pending = b.Pending) := by cases a; cases b; simp
instance : DecidableEq Pending_ := fun a b => decidable_of_iff _ pext.symm
instance : DecidableEq Requester_ := fun a b => decidable_of_iff _ rext.symm
/-- Sameness of a requester with itself is what the laws ask for. -/
theorem sSame_refl {fuel : Nat} (hf : 6000 < fuel) {a : Requester_} (t : RT a) : ref24_Same fuel a a = some true := by
  apply Ev.isSome
  unfold ref24_Same
  have hl := t.le
  refine Ev.join (fun s => s = false) (fun s hs => Ev.iteF hs ?_) (fun j hj => Ev.bneF rfl (Ev.bneF rfl (hj _ (by simp))))
  refine Ev.each (l := a.Pending) (by omega) (fun i p hp hm hi self hs => ?_) (fun self => Ev.decF (by omega) (Ev.ret rfl))
  refine Ev.decT (by omega) ?_
  have hx : idx a.Pending (i : Int) = some p := by rw [idx_nat, hp]
  refine Ev.join (fun s => s = false) (fun s hs2 => Ev.iteF hs2 (Ev.letP ?_)) (fun j2 hj2 => ?_)
  · rw [wi i (by omega)]; exact hs
  · have hd := (t.ps p hm).1.da
    exact Ev.to hx (Ev.to hx (Ev.letP (Ev.bneF rfl (Ev.to hx (Ev.to hx (Ev.letP (Ev.bneF rfl (Ev.to hx (Ev.to hx (Ev.to (sMsg_eq hd hd) (hj2 _ (by simp))))))))))))
theorem sBytes_refl {fuel : Nat} (hf : 6000 < fuel) {a : List (List Int)} (hl : a.length ≤ 1000) : ref24_Bytes fuel a a = some true := by
  apply Ev.isSome
  unfold ref24_Bytes
  refine Ev.bneF rfl (Ev.each (l := a) (by omega) (fun i p hp hm hi self hs => ?_) (fun self => Ev.decF (by omega) (Ev.ret rfl)))
  have hx : idx a (i : Int) = some p := by rw [idx_nat, hp]
  refine Ev.decT (by omega) (Ev.to hx (Ev.to hx (Ev.bneF rfl (Ev.letP ?_))))
  rw [wi i (by omega)]; exact hs
theorem sMsgs_refl {fuel : Nat} (hf : 6000 < fuel) {a : List Message_} (hl : a.length ≤ 1000) (hd : ∀ m ∈ a, ∀ x ∈ m.Data, byte x) : ref24_SameMessages fuel a a = some true := by
  apply Ev.isSome
  unfold ref24_SameMessages
  refine Ev.bneF rfl (Ev.each (l := a) (by omega) (fun i p hp hm hi self hs => ?_) (fun self => Ev.decF (by omega) (Ev.ret rfl)))
  have hx : idx a (i : Int) = some p := by rw [idx_nat, hp]
  refine Ev.decT (by omega) (Ev.to hx (Ev.to hx (Ev.to (sMsg_eq (hd p hm) (hd p hm)) (Ev.iteF (by simp) (Ev.letP ?_)))))
  rw [wi i (by omega)]; exact hs
/-! ### types that stay -/
theorem zR_RT : RT Requester_.z := ⟨⟨by decide, by decide⟩, okI_i64.2 ⟨by decide, by decide⟩, fun p hp => (by cases hp), by simp [Requester_.z]⟩
theorem RT.len8 {r : Requester_} (v : RV r) : r.Pending.length ≤ 8 := v.2.2.2.2.1
theorem rsend_RT {r : Requester_} (t : RT r) {to fn cm now : Int} {data : List Int} (h1 : byte to) (h2 : byte fn) (h3 : byte cm) (h4 : ∀ x ∈ data, byte x) (h5 : data.length ≤ 1000) : RT (rsend r to fn cm data now).1 ∧ Small (rsend r to fn cm data now).2.1 := by
  have tm := smsg_MT t h1 h2 h3 h4 h5
  have nil : Small ([] : List Int) := ⟨by simp, fun x hx => (by cases hx)⟩
  unfold rsend
  split
  · exact ⟨zR_RT, nil⟩
  · split
    · exact ⟨zR_RT, nil⟩
    · split
      · exact ⟨zR_RT, nil⟩
      · split
        · exact ⟨zR_RT, nil⟩
        · rename_i hv hn hl he
          refine ⟨⟨t.own, okI_i64.2 ⟨?_, ?_⟩, fun p hp => ?_, by simp; omega⟩, mreq_small tm⟩
          · simp only; omega
          · simp only; omega
          · rcases List.mem_append.1 hp with h | h
            · exact t.ps p h
            · simp only [List.mem_singleton] at h
              subst h
              exact ⟨tm, okI_i64.2 ⟨by simp only; omega, by simp only; omega⟩, okI_i64.2 ⟨by simp only; omega, by simp only; omega⟩⟩
theorem tfold_PT {now : Int} (hn : ¬ (now < 0 ∨ 17179869184 < now)) {own : Int} : ∀ {l : List Pending_} {s : List Pending_ × List (List Int) × List Message_}, (∀ p ∈ l, PT p ∧ PV own p) → (∀ p ∈ s.1, PT p) → (∀ m ∈ s.2.2, MT m) → (∀ p ∈ (l.foldl (tstep now) s).1, PT p) ∧ (∀ m ∈ (l.foldl (tstep now) s).2.2, MT m)
  | [], s, _, h1, h2 => ⟨h1, h2⟩
  | p :: l, s, h, h1, h2 => by
    rw [List.foldl_cons]
    obtain ⟨tp, vp⟩ := h p (by simp)
    refine tfold_PT hn (fun q hq => h q (by simp [hq])) (fun q hq => ?_) (fun m hm => ?_)
    · unfold tstep at hq
      split at hq
      · rcases List.mem_append.1 hq with h3 | h3
        · exact h1 q h3
        · simp only [List.mem_singleton] at h3; rw [h3]; exact tp
      · split at hq
        · exact h1 q hq
        · rename_i h3
          rcases List.mem_append.1 hq with h4 | h4
          · exact h1 q h4
          · simp only [List.mem_singleton] at h4
            rw [h4]
            have e1 := vp.1
            have e2 := vp.2.1
            have hT : p.Tries = 1 ∨ p.Tries = 2 := by omega
            refine ⟨tp.1, okI_i64.2 ?_, okI_i64.2 ⟨by simp only [bump]; omega, by simp only [bump]; omega⟩⟩
            simp only [bump]
            rcases hT with e | e
            · rw [e, show (10 : Int) * 2 ^ (1 : Int).toNat = 20 from by decide]; omega
            · rw [e, show (10 : Int) * 2 ^ (2 : Int).toNat = 40 from by decide]; omega
    · unfold tstep at hm
      split at hm
      · exact h2 m hm
      · split at hm
        · rcases List.mem_append.1 hm with h3 | h3
          · exact h2 m h3
          · simp only [List.mem_singleton] at h3; rw [h3]; exact tp.1
        · exact h2 m hm
theorem rtick_RT {r : Requester_} (t : RT r) {now : Int} : RT (rtick r now).1 ∧ (rtick r now).2.1.length ≤ 1000 ∧ (rtick r now).2.2.length ≤ 1000 ∧ ∀ m ∈ (rtick r now).2.2, MT m := by
  unfold rtick
  split
  · exact ⟨t, by simp, by simp, fun m hm => (by cases hm)⟩
  · rename_i h
    have v : RV r := Classical.byContradiction fun hc => h (.inl hc)
    have hn : ¬ (now < 0 ∨ 17179869184 < now) := fun hc => h (.inr hc)
    have hl := RT.len8 v
    obtain ⟨a1, a2⟩ := tfold_PT hn (own := r.Own) (l := r.Pending) (s := ([], [], [])) (fun p hp => by
      obtain ⟨i, hi⟩ := List.getElem?_of_mem hp
      exact ⟨t.ps p hp, (v.2.2.2.2.2 i p hi).1⟩) (fun p hp => (by cases hp)) (fun m hm => (by cases hm))
    obtain ⟨l1, l2, l3⟩ := tfold_len now r.Pending r.Pending.length (Nat.le_refl _)
    rw [List.take_length] at l1 l2 l3
    exact ⟨⟨t.own, t.nx, a1, by show (tfold now r.Pending).1.length ≤ 1000; omega⟩, by show (tfold now r.Pending).2.1.length ≤ 1000; omega, by show (tfold now r.Pending).2.2.length ≤ 1000; omega, a2⟩
theorem rdrop_RT {r : Requester_} (t : RT r) (i : Nat) : RT (rdrop r i) := by
  refine ⟨t.own, t.nx, fun p hp => ?_, ?_⟩
  · rcases List.mem_append.1 hp with h | h
    · exact t.ps p (List.mem_of_mem_take h)
    · exact t.ps p (List.mem_of_mem_drop h)
  · have := t.le
    simp only [rdrop, List.length_append, List.length_take, List.length_drop]; omega
theorem rrecv_RT {r : Requester_} (t : RT r) {b : List Int} (hb : Small b) : RT (rrecv r b).1 ∧ MT (rrecv r b).2.1 ∧ MT (rrecv r b).2.2.1 := by
  unfold rrecv
  split
  · exact ⟨t, z_MT, z_MT⟩
  · split
    · exact ⟨t, z_MT, z_MT⟩
    · rename_i i hi
      refine ⟨rdrop_RT t i, ?_, mparse_MT true hb.2⟩
      cases hp : r.Pending[i]? with
      | none => exact z_MT
      | some p => exact (t.ps p (List.mem_of_getElem? hp)).1
end Lift
