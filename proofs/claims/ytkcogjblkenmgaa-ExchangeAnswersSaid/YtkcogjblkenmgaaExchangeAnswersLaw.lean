/- The plain law of ExchangeAnswers. uses: base lists sum8 ev messages mreplies mparse mround mtyped gen2 codes2 exch exch2 exch3 exch4 exch5 awake24
-/
import Derived.Test.YtkcogjblkenmgaaAwake24
import Derived.Test.YtkcogjblkenmgaaExch5
set_option linter.unusedVariables false
set_option linter.unusedSimpArgs false
namespace Lift
open Go
theorem okI_sm {n : Int} (h : -9223372036854775808 ≤ n ∧ n ≤ 9223372036854775807) : okI .i64 n := okI_i64.2 h
theorem RT.set {r : Requester_} (t : RT r) {q : Pending_} (hq : PT q) : RT { r with Pending := upd r.Pending 0 q } := by
  refine ⟨t.own, t.nx, fun p hp => ?_, by simp [upd]; exact t.le⟩
  rcases List.mem_or_eq_of_mem_set hp with h | h
  · exact t.ps p h
  · rw [h]; exact hq
theorem odd24_ok {c : field_Codes} (h : COk c) {r : Requester_} (t : RT r) (hl : r.Pending.length ≤ 9) : Ev (law24_odd 10000 c r) (fun p => RT p.1 ∧ p.1.Pending.length ≤ 10 ∧ COk p.2) := by
  unfold law24_odd
  obtain ⟨r1, c1, e1, l1, k1⟩ := fnext_nat 10000 h (m := 6) (by omega) (by omega)
  refine Ev.to (r24Copy_eq (by omega) t) (Ev.to e1 ?_)
  refine Ev.join (fun s => s = false → (r1 : Int) < 4 → 0 < r.Pending.length) (fun s hs => ?_) (fun j hj => Ev.dec (fun h4 => hj _ (fun e _ => ?_)) (fun h4 => hj _ (fun e h => absurd h h4)))
  rotate_left
  · have : ¬ r.Pending.length = 0 := by simpa using e
    omega
  refine Ev.join (fun k => k < 4 → 0 < r.Pending.length) (fun k hk => ?_) (fun j2 hj2 => Ev.ite (fun _ => hj2 _ (fun h => by omega)) (fun e => hj2 _ (hs e)))
  refine Ev.letP (Ev.beq (fun e => ?_) (fun _ => Ev.letP (Ev.beq (fun e => ?_) (fun _ => Ev.letP (Ev.beq (fun e => ?_) (fun _ => Ev.letP (Ev.beq (fun e => ?_) (fun _ => Ev.letP (Ev.beq (fun e => ?_) (fun _ => Ev.letP (Ev.beq (fun e => ?_) (fun _ => Ev.ret ⟨t, by simp only; omega, k1⟩))))))))))))
  · obtain ⟨r2, c2, e2, l2, k2⟩ := fnext_nat 10000 k1 (m := 3) (by omega) (by omega)
    obtain ⟨z, hz, hz2⟩ : ∃ z, ([0, 3, 4] : List Int)[r2]? = some z ∧ okI .i64 z := by
      have : r2 = 0 ∨ r2 = 1 ∨ r2 = 2 := by omega
      rcases this with rfl | rfl | rfl <;> exact ⟨_, rfl, okI_sm (by omega)⟩
    obtain ⟨p, hp, hpm⟩ := getq (hk (by omega))
    have hx : idx r.Pending 0 = some p := by have := idx_nat r.Pending 0; rw [hp] at this; exact this
    have tp := t.ps p hpm
    exact Ev.to e2 (Ev.to (a := z) (by rw [idx_nat]; exact hz) (Ev.to hx (Ev.letP (Ev.ret ⟨t.set ⟨tp.1, tp.2.1, hz2⟩, by simp [upd]; omega, k2⟩))))
  · obtain ⟨r2, c2, e2, l2, k2⟩ := fnext_nat 10000 k1 (m := 3) (by omega) (by omega)
    obtain ⟨z, hz, hz2⟩ : ∃ z, ([(-1), 0, 9223372036854775807] : List Int)[r2]? = some z ∧ okI .i64 z := by
      have : r2 = 0 ∨ r2 = 1 ∨ r2 = 2 := by omega
      rcases this with rfl | rfl | rfl <;> exact ⟨_, rfl, okI_sm (by omega)⟩
    obtain ⟨p, hp, hpm⟩ := getq (hk (by omega))
    have hx : idx r.Pending 0 = some p := by have := idx_nat r.Pending 0; rw [hp] at this; exact this
    have tp := t.ps p hpm
    exact Ev.to e2 (Ev.to (a := z) (by rw [idx_nat]; exact hz) (Ev.to hx (Ev.letP (Ev.ret ⟨t.set ⟨tp.1, hz2, tp.2.2⟩, by simp [upd]; omega, k2⟩))))
  · obtain ⟨p, hp, hpm⟩ := getq (hk (by omega))
    have hx : idx r.Pending 0 = some p := by have := idx_nat r.Pending 0; rw [hp] at this; exact this
    have tp := t.ps p hpm
    exact Ev.to hx (Ev.to hx (Ev.letP (Ev.ret ⟨t.set ⟨⟨tp.1.to, u8w, tp.1.fn, tp.1.cm, tp.1.cd, tp.1.tu, tp.1.fu, tp.1.sq, tp.1.da, tp.1.le⟩, tp.2.1, tp.2.2⟩, by simp [upd]; omega, k1⟩)))
  · obtain ⟨p, hp, hpm⟩ := getq (hk (by omega))
    have hx : idx r.Pending 0 = some p := by have := idx_nat r.Pending 0; rw [hp] at this; exact this
    refine Ev.to hx (Ev.to (app_ok (by simp; omega)) (Ev.ret ⟨⟨t.own, t.nx, fun q hq => ?_, by simp; omega⟩, by simp; omega, k1⟩))
    rcases List.mem_append.1 hq with h | h
    · exact t.ps q h
    · simp only [List.mem_singleton] at h; rw [h]; exact t.ps p hpm
  · obtain ⟨r2, c2, e2, l2, k2⟩ := fnext_nat 10000 k1 (m := 3) (by omega) (by omega)
    obtain ⟨z, hz, hz2⟩ : ∃ z, ([(-1), 63, 64] : List Int)[r2]? = some z ∧ okI .i64 z := by
      have : r2 = 0 ∨ r2 = 1 ∨ r2 = 2 := by omega
      rcases this with rfl | rfl | rfl <;> exact ⟨_, rfl, okI_sm (by omega)⟩
    exact Ev.to e2 (Ev.to (a := z) (by rw [idx_nat]; exact hz) (Ev.letP (Ev.ret ⟨⟨t.own, hz2, t.ps, t.le⟩, by simp only; omega, k2⟩)))
  · obtain ⟨r2, c2, e2, l2, k2⟩ := fnext_nat 10000 k1 (m := 256) (by omega) (by omega)
    exact Ev.to e2 (Ev.letP (Ev.ret ⟨⟨u8w, t.nx, t.ps, t.le⟩, by simp only; omega, k2⟩))
theorem mreply_seq (m : Message_) (code : Int) (data : List Int) : 0 ≤ (mreply m code data).1.Sequence ∧ (mreply m code data).1.Sequence ≤ 63 := by
  unfold mreply
  split
  · rename_i h
    obtain ⟨_, _, _, _, _, _, _, _, _, h1, h2, _⟩ := h.1
    exact ⟨h1, h2⟩
  · exact ⟨by decide, by decide⟩
theorem law24_ExchangeAnswers_true (a0 a1 a2 : List Int) (a3 : Int) (o0 : okL (okI .u8) a0) (o1 : okL (okI .u8) a1) (o2 : okL (okI .u8) a2) (o3 : okI .i64 a3) : ∃ fuel, law24_ExchangeAnswers fuel a0 a1 a2 a3 = some true := by
  refine ⟨10000, Ev.isTrue ?_⟩
  unfold law24_ExchangeAnswers
  have hf : 6000 < 10000 := by omega
  have hb1 : ∀ y ∈ a1, byte y := fun x hx => okI_u8.1 (o1.2 x hx)
  have hb2 : ∀ y ∈ a2, byte y := fun x hx => okI_u8.1 (o2.2 x hx)
  refine Ev.to law24_awake_eq (Ev.iteF rfl ?_)
  refine Ev.join (fun s => s = false → a1.length ≤ 300 ∧ a2.length ≤ 300) (fun s hs => Ev.ite (fun _ => Ev.ret rfl) (fun e => ?_)) (fun j hj => Ev.dec (fun _ => hj _ (fun e => by cases e)) (fun h => hj _ (fun e => ?_)))
  rotate_left
  · have : ¬ (a2.length : Int) > 300 := by simpa using e
    omega
  obtain ⟨hl1, hl2⟩ := hs e
  obtain ⟨c, ec, hc⟩ := fNew_ok 10000 (l := a0) (n := 160) (fun x hx => okI_u8.1 (o0.2 x hx)) (by omega) (by omega)
  refine Ev.to ec (Ev.bind (playV_ok hc (steps := 12) (by omega)) (fun p hp => ?_))
  obtain ⟨tr, vr, ha0, ha1, hc2, hl9⟩ := hp
  obtain ⟨r4, c4, e4, l4, k4⟩ := fnext_nat 10000 hc2 (m := 256) (by omega) (by omega)
  refine Ev.to e4 (Ev.to (eNew_eq _ _) (Ev.to (r24New_eq _ _) ?_))
  refine Ev.join (fun s => s = false) (fun s hs => Ev.iteF hs ?_) (fun j hj => Ev.bneF rfl (Ev.to (sSame_refl hf ?_) (hj _ rfl)))
  rotate_left
  · split
    · rename_i h
      exact ⟨u8w, okI_sm (by simp only; omega), fun p hp => (by cases hp), by simp⟩
    · exact zR_RT
  refine Ev.bind (odd24_ok k4 tr hl9) (fun q hq => ?_)
  obtain ⟨tq, hlq, kq⟩ := hq
  refine Ev.count 2 (fun i (s : Int × field_Codes) => s.1 = (i : Int) ∧ COk s.2) (by omega) ⟨rfl, kq⟩ (fun i s hi hI self hself => ?_)
  obtain ⟨hi1, hi2⟩ := hI
  rw [hi1]
  by_cases hil : i < 2
  rotate_left
  · exact Ev.decF (by simp; omega) (Ev.ret rfl)
  obtain ⟨x, hx, tx, hxl⟩ : ∃ x, ([p.1, q.1] : List Requester_)[i]? = some x ∧ RT x ∧ x.Pending.length ≤ 10 := by
    have : i = 0 ∨ i = 1 := by omega
    rcases this with rfl | rfl
    · exact ⟨_, rfl, tr, by omega⟩
    · exact ⟨_, rfl, tq, hlq⟩
  refine Ev.decT (by simp; omega) (Ev.to (by rw [idx_nat, hx]) ?_)
  obtain ⟨r8, c8, e8, l8, k8⟩ := fnext_nat 10000 hi2 (m := 10) (by omega) (by omega)
  obtain ⟨r9, c9, e9, l9, k9⟩ := fnext_nat 10000 k8 (m := 8) (by omega) (by omega)
  obtain ⟨r10, c10, e10, l10, k10⟩ := fnext_nat 10000 k9 (m := 256) (by omega) (by omega)
  obtain ⟨r11, c11, e11, l11, k11⟩ := fnext_nat 10000 k10 (m := 60) (by omega) (by omega)
  obtain ⟨n12, c12, e12, n1, n2, k12⟩ := fNow_ok k11
  obtain ⟨r13, c13, e13, l13, k13⟩ := fnext_nat 10000 k12 (m := 4) (by omega) (by omega)
  refine Ev.to e8 (Ev.to e9 (Ev.to e10 (Ev.to e11 (Ev.to e12 (Ev.to e13 ?_)))))
  obtain ⟨t, ht⟩ : ∃ t, ([p.2.1, IntKind.i64.wrap (p.2.1 + (r11 : Int)), a3, n12] : List Int)[r13]? = some t := ⟨_, List.getElem?_eq_getElem (by simp; omega)⟩
  refine Ev.to (a := t) (by rw [idx_nat]; exact ht) (Ev.to (eValid_eq hf tx) (Ev.to (r24Valid_eq hf tx) (Ev.bneF rfl ?_)))
  refine Ev.to (eSend_eq hf tx u8w u8w u8w hb2 (by omega)) (Ev.to (r24Send_eq hf tx u8w u8w u8w hb2 (by omega)) ?_)
  refine Ev.join (fun s => s = false) (fun s hs => Ev.iteF hs ?_) (fun j hj => Ev.bneF rfl (Ev.bneF rfl (Ev.to (sSame_refl hf (rsend_RT tx u8w u8w u8w hb2 (by omega)).1) (hj _ rfl))))
  obtain ⟨tt, tt1, tt2, tt3⟩ := rtick_RT tx (now := t)
  refine Ev.to (eTick_eq hf tx) (Ev.to (r24Tick_eq hf tx) (Ev.to (sSame_refl hf tt) ?_))
  refine Ev.join (fun s => s = false) (fun s hs => Ev.iteF hs ?_) (fun j hj => Ev.iteF rfl (Ev.to (sBytes_refl hf tt1) (Ev.iteF rfl (Ev.to (sMsgs_refl hf tt2 (fun m hm => (tt3 m hm).da)) (hj _ rfl)))))
  refine Ev.join (fun s => COk s.2 ∧ (s.1 = true → 0 < x.Pending.length)) (fun s6 hs6 => ?_) (fun j5 hj5 => Ev.dec (fun hp => ?_) (fun hp => hj5 _ ⟨k13, fun e => (by cases e)⟩))
  rotate_left
  · obtain ⟨r32, c32, e32, l32, k32⟩ := fnext_nat 10000 k13 (m := 4) (by omega) (by omega)
    exact Ev.to e32 (hj5 _ ⟨k32, fun _ => by omega⟩)
  refine Ev.join (fun s => Small s.1 ∧ COk s.2) (fun s7 hs7 => ?_) (fun j6 hj6 => Ev.ite (fun e6 => ?_) (fun e6 => hj6 _ ⟨⟨by simp only; omega, hb1⟩, hs6.1⟩))
  · obtain ⟨hsm, hc7⟩ := hs7
    obtain ⟨u1, u2, u3⟩ := rrecv_RT tx hsm
    refine Ev.to (eRecv_eq hf tx hsm) (Ev.to (r24Recv_eq hf tx hsm) ?_)
    refine Ev.join (fun s => s = false) (fun s hs => Ev.iteF hs ?_) (fun j7 hj7 => Ev.bneF rfl (Ev.to (sSame_refl hf u1) (Ev.iteF rfl (Ev.to (sMsg_eq u2.da u2.da) (Ev.iteF (by simp) (Ev.to (sMsg_eq u3.da u3.da) (hj7 _ (by simp))))))))
    rw [wi i (by omega)]
    exact hself _ hil ⟨by simp, hc7⟩
  · have hpl := hs6.2 e6
    obtain ⟨r26, c26, e26, l26, k26⟩ := fnext_nat 10000 hs6.1 (m := x.Pending.length) hpl (by omega)
    obtain ⟨y, hy, hym⟩ := getq l26
    obtain ⟨r27, c27, e27, l27, k27⟩ := fnext_nat 10000 k26 (m := 3) (by omega) (by omega)
    obtain ⟨L, c28, e28, hL1, hL2, k28⟩ := fBytes_ok k27 (n := 2) (by omega)
    have ty := (tx.ps y hym).1
    refine Ev.to e26 (Ev.to (by rw [idx_nat, hy]) (Ev.to e27 (Ev.to e28 (Ev.to (rReply_eq (by omega) ty _ (Nat.le_trans hL1 (by omega))) ?_))))
    obtain ⟨tz, _⟩ := mreply_MT ty (code := IntKind.u8.wrap (r27 : Int)) (data := L) u8w hL2
    have hsq := mreply_seq y.Request (IntKind.u8.wrap (r27 : Int)) L
    obtain ⟨r30, c30, e30, l30, k30⟩ := fnext_nat 10000 k28 (m := 5) (by omega) (by omega)
    refine Ev.to e30 (Ev.letP ?_)
    have hq4 : IntKind.i64.wrap (Int.tdiv (r30 : Int) 4) = ((r30 / 4 : Nat) : Int) := by
      have e : Int.tdiv (r30 : Int) 4 = ((r30 / 4 : Nat) : Int) := (Int.ofNat_tdiv r30 4).symm
      rw [e, wr (by omega)]
    have hsw : ∀ q : Int, 0 ≤ q → q ≤ 63 → okI .i64 (Int.tmod (IntKind.i64.wrap (q + IntKind.i64.wrap (Int.tdiv (r30 : Int) 4))) 64) := by
      intro q h1 h2
      rw [hq4, wr (by omega), tm64 (by omega)]
      exact okI_sm (by omega)
    have tw : MT { (mreply y.Request (IntKind.u8.wrap (r27 : Int)) L).1 with Sequence := Int.tmod (IntKind.i64.wrap ((mreply y.Request (IntKind.u8.wrap (r27 : Int)) L).1.Sequence + IntKind.i64.wrap (Int.tdiv (r30 : Int) 4))) 64 } :=
      ⟨tz.to, tz.fr, tz.fn, tz.cm, tz.cd, tz.tu, tz.fu, hsw _ hsq.1 hsq.2, tz.da, tz.le⟩
    exact Ev.to (rResponse_eq (by omega) tw) (hj6 _ ⟨mres_small tw, k30⟩)
end Lift
