/- The plain law of ResponderAnswers. uses: base lists sum8 ev messages mreplies mparse mparser mround mtyped mcanon gen2 codes2 resp resp2 same25 resp3 awake25
-/
import Derived.Test.YtlfbpnoempdiiaaAwake25
import Derived.Test.YtlfbpnoempdiiaaResp3
set_option linter.unusedVariables false
set_option linter.unusedSimpArgs false
namespace Lift
open Go
theorem ltdiv {r k : Nat} (h : 0 < k) (hr : r ≤ 1000) : okI .i64 (IntKind.i64.wrap (Int.tdiv (r : Int) (k : Int))) := by
  have e : Int.tdiv (r : Int) (k : Int) = ((r / k : Nat) : Int) := (Int.ofNat_tdiv r k).symm
  have : r / k ≤ 1000 := Nat.le_trans (Nat.div_le_self _ _) hr
  rw [e]
  generalize r / k = q at this
  rw [wr (by omega)]
  exact okI_sm (by omega)
theorem fReq_ok {c : field_Codes} (h : COk c) {to : Int} (hto : byte to) : Ev (field_Codes_Request 10000 c to) (fun p => MT p.1 ∧ p.1.Data.length ≤ 3 ∧ COk p.2) := by
  unfold field_Codes_Request
  obtain ⟨r1, c1, e1, l1, k1⟩ := fnext_nat 10000 h (m := 3) (by omega) (by omega)
  obtain ⟨r2, c2, e2, l2, k2⟩ := fnext_nat 10000 k1 (m := 5) (by omega) (by omega)
  obtain ⟨r3, c3, e3, l3, k3⟩ := fnext_nat 10000 k2 (m := 4) (by omega) (by omega)
  obtain ⟨r4, c4, e4, l4, k4⟩ := fnext_nat 10000 k3 (m := 5) (by omega) (by omega)
  obtain ⟨r5, c5, e5, l5, k5⟩ := fnext_nat 10000 k4 (m := 6) (by omega) (by omega)
  obtain ⟨r6, c6, e6, l6, k6⟩ := fnext_nat 10000 k5 (m := 4) (by omega) (by omega)
  obtain ⟨L, c7, e7, hL1, hL2, k7⟩ := fBytes_ok k6 (n := 3) (by omega)
  obtain ⟨r8, c8, e8, l8, k8⟩ := fnext_nat 10000 k7 (m := 20) (by omega) (by omega)
  obtain ⟨x1, hx1, b1⟩ : ∃ z, ([64, 66, 8] : List Int)[r1]? = some z ∧ byte z := by
    have : r1 = 0 ∨ r1 = 1 ∨ r1 = 2 := by omega
    rcases this with rfl | rfl | rfl <;> exact ⟨_, rfl, by constructor <;> omega⟩
  obtain ⟨x2, hx2, b2⟩ : ∃ z, ([0, 4, 6, 8, 10] : List Int)[r2]? = some z ∧ byte z := by
    have : r2 = 0 ∨ r2 = 1 ∨ r2 = 2 ∨ r2 = 3 ∨ r2 = 4 := by omega
    rcases this with rfl | rfl | rfl | rfl | rfl <;> exact ⟨_, rfl, by constructor <;> omega⟩
  obtain ⟨x3, hx3, b3⟩ : ∃ z, ([1, 2, 45, 64] : List Int)[r3]? = some z ∧ byte z := by
    have : r3 = 0 ∨ r3 = 1 ∨ r3 = 2 ∨ r3 = 3 := by omega
    rcases this with rfl | rfl | rfl | rfl <;> exact ⟨_, rfl, by constructor <;> omega⟩
  have q4 := ltdiv (r := r4) (k := 4) (by omega) (by omega)
  have q5 := ltdiv (r := r5) (k := 5) (by omega) (by omega)
  have q6 : okI .i64 (r6 : Int) := okI_sm (by omega)
  have z0 : byte 0 := ⟨by decide, by decide⟩
  refine Ev.to e1 (Ev.to (a := x1) (by rw [idx_nat]; exact hx1) (Ev.to e2 (Ev.to (a := x2) (by rw [idx_nat]; exact hx2) (Ev.to e3 (Ev.to (a := x3) (by rw [idx_nat]; exact hx3) (Ev.to e4 (Ev.to e5 (Ev.to e6 (Ev.to e7 (Ev.to e8 (Ev.letP ?_)))))))))))
  refine Ev.ite (fun _ => Ev.letP (Ev.ret ⟨⟨hto, b1, ⟨by simp only; omega, by simp only; omega⟩, b3, z0, q4, q5, q6, hL2, by simp only; omega⟩, hL1, k8⟩)) (fun _ => Ev.letP (Ev.ite (fun _ => Ev.letP (Ev.ret ⟨⟨hto, b1, b2, b3, z0, q4, q5, okI_sm (by simp only; omega), hL2, by simp only; omega⟩, hL1, k8⟩)) (fun _ => Ev.letP (Ev.ite (fun _ => Ev.letP (Ev.ret ⟨⟨hto, ⟨by simp only; omega, by simp only; omega⟩, b2, b3, z0, q4, q5, q6, hL2, by simp only; omega⟩, hL1, k8⟩)) (fun _ => Ev.ret ⟨⟨hto, b1, b2, b3, z0, q4, q5, q6, hL2, by simp only; omega⟩, hL1, k8⟩)))))
def Fit (r : Responder_) : Prop := r.Queue.length ≤ 50 ∧ r.Memory.length ≤ 50
theorem play25_ok {c : field_Codes} (h : COk c) : Ev (law25_play 10000 c 24) (fun p => ST p.1 ∧ Fit p.1 ∧ COk p.2.2) := by
  unfold law25_play
  rw [wr (n := (24 : Int) + 1) (by omega)]
  obtain ⟨r1, c1, e1, l1, k1⟩ := fnext_nat 10000 h (m := 25) (by omega) (by omega)
  refine Ev.to (r25New_eq _ _) (Ev.to e1 ?_)
  rw [if_pos (by omega)]
  refine Ev.loop (fun n (s : Int × Int × field_Codes × Responder_) => s.2.1 = (n : Int) ∧ n ≤ 25 ∧ COk s.2.2.1 ∧ ST s.2.2.2 ∧ Fit s.2.2.2) (fun n s hI self hself => ?_) (n := r1) (by omega) ⟨rfl, by omega, k1, ⟨⟨by simp only; omega, by simp only; omega⟩, fun p hp => (by cases hp), fun p hp => (by cases hp), by simp, by simp⟩, by simp [Fit]⟩
  obtain ⟨h1, h2, hc, ht, hfit⟩ := hI
  rw [h1]
  refine Ev.dec (fun hp => ?_) (fun _ => Ev.ret ⟨ht, hfit, hc⟩)
  obtain ⟨r2, c2, e2, l2, k2⟩ := fnext_nat 10000 hc (m := 3) (by omega) (by omega)
  refine Ev.to e2 ?_
  refine Ev.join (fun s => COk s.1 ∧ ST s.2 ∧ Fit s.2) (fun s2 hs2 => ?_) (fun j hj => Ev.dec (fun h3 => ?_) (fun h3 => ?_))
  · obtain ⟨q1, q2, q3⟩ := hs2
    obtain ⟨r3, c3, e3, l3, k3⟩ := fnext_nat 10000 q1 (m := 3) (by omega) (by omega)
    obtain ⟨r4, c4, e4, l4, k4⟩ := fnext_nat 10000 k3 (m := 40) (by omega) (by omega)
    refine Ev.to e3 (Ev.to e4 (Ev.letP (Ev.letP ?_)))
    rw [wr (n := (n : Int) - 1) (by omega)]
    exact hself (n - 1) _ (by omega) ⟨by simp only; omega, by omega, k4, q2, q3⟩
  · refine Ev.bind (fReq_ok k2 (show byte 32 from ⟨by decide, by decide⟩)) (fun p hp2 => ?_)
    obtain ⟨tp, _, kp⟩ := hp2
    obtain ⟨u1, u2, u3⟩ := sacc_T ht (mreq_small tp) s.1
    refine Ev.to (rRequest_eq (by omega) tp) (Ev.to (r25Acc_eq (by omega) ht (mreq_small tp) _) (Ev.beq (fun e => hj _ ⟨kp, u1, ?_⟩) (fun e => hj _ ⟨kp, ht, hfit⟩)))
    have := u3 e
    exact ⟨by simp only; omega, by simp only; omega⟩
  · obtain ⟨r3, c3, e3, l3, k3⟩ := fnext_nat 10000 k2 (m := 2) (by omega) (by omega)
    obtain ⟨L, c4, e4, hL1, hL2, k4⟩ := fBytes_ok k3 (n := 2) (by omega)
    obtain ⟨u1, u2, u3⟩ := sdone_T ht (code := IntKind.u8.wrap (r3 : Int)) u8w hL2 s.1
    refine Ev.to e3 (Ev.to e4 (Ev.to (r25Done_eq (by omega) ht u8w hL2 (Nat.le_trans hL1 (by omega)) _) (Ev.beq (fun e => hj _ ⟨k4, u1, ?_⟩) (fun e => hj _ ⟨k4, ht, hfit⟩))))
    have := u3 e
    exact ⟨by simp only; omega, by simp only; omega⟩
theorem ST.set {r : Responder_} (t : ST r) {q : Memory_} (hq : KT q) : ST { r with Memory := upd r.Memory 0 q } := by
  refine ⟨t.own, t.qs, fun p hp => ?_, t.ql, by simp [upd]; exact t.ml⟩
  rcases List.mem_or_eq_of_mem_set hp with h | h
  · exact t.ms p h
  · rw [h]; exact hq
theorem ST.add {r : Responder_} (t : ST r) (f : Fit r) {m : Message_} (hm : MT m) : ST { r with Queue := r.Queue ++ [m] } := by
  refine ⟨t.own, fun p hp => ?_, t.ms, by have := f.1; simp; omega, t.ml⟩
  rcases List.mem_append.1 hp with h | h
  · exact t.qs p h
  · simp only [List.mem_singleton] at h; rw [h]; exact hm
theorem odd25_ok {c : field_Codes} (h : COk c) {r : Responder_} (t : ST r) (hl : Fit r) : Ev (law25_odd 10000 c r) (fun p => ST p.1 ∧ COk p.2) := by
  unfold law25_odd
  obtain ⟨r1, c1, e1, l1, k1⟩ := fnext_nat 10000 h (m := 5) (by omega) (by omega)
  refine Ev.to (r25Fresh_eq (by omega) t _) (Ev.to e1 ?_)
  have tf := sfresh_ST t (-1)
  have ff : Fit (sfresh r (-1)) := ⟨hl.1, Nat.le_trans (fmem_len _ _) hl.2⟩
  generalize sfresh r (-1) = y at tf ff
  refine Ev.join (fun s => s = false → (r1 : Int) < 3 → 0 < y.Memory.length) (fun s hs => ?_) (fun j hj => Ev.dec (fun h4 => hj _ (fun e _ => ?_)) (fun h4 => hj _ (fun e h => absurd h h4)))
  rotate_left
  · have : ¬ y.Memory.length = 0 := by simpa using e
    omega
  refine Ev.join (fun k => k < 3 → 0 < y.Memory.length) (fun k hk => ?_) (fun j2 hj2 => Ev.ite (fun _ => hj2 _ (fun h => by omega)) (fun e => hj2 _ (hs e)))
  refine Ev.letP (Ev.beq (fun e => ?_) (fun _ => Ev.letP (Ev.beq (fun e => ?_) (fun _ => Ev.letP (Ev.beq (fun e => ?_) (fun _ => Ev.letP (Ev.beq (fun e => ?_) (fun _ => Ev.letP (Ev.beq (fun e => ?_) (fun _ => Ev.ret ⟨tf, k1⟩))))))))))
  · obtain ⟨r2, c2, e2, l2, k2⟩ := fnext_nat 10000 k1 (m := 3) (by omega) (by omega)
    obtain ⟨z, hz, hz2⟩ : ∃ z, ([(-1), 0, 9223372036854775807] : List Int)[r2]? = some z ∧ okI .i64 z := by
      have : r2 = 0 ∨ r2 = 1 ∨ r2 = 2 := by omega
      rcases this with rfl | rfl | rfl <;> exact ⟨_, rfl, okI_sm (by omega)⟩
    obtain ⟨p, hp, hpm⟩ := getq (hk (by omega))
    have hx : idx y.Memory 0 = some p := by have := idx_nat y.Memory 0; rw [hp] at this; exact this
    have tp := tf.ms p hpm
    exact Ev.to e2 (Ev.to (a := z) (by rw [idx_nat]; exact hz) (Ev.to hx (Ev.letP (Ev.letP (Ev.ret ⟨tf.set ⟨tp.1, tp.2.1, hz2⟩, k2⟩)))))
  · obtain ⟨L, c4, e4, hL1, hL2, k4⟩ := fBytes_ok k1 (n := 9) (by omega)
    obtain ⟨p, hp, hpm⟩ := getq (hk (by omega))
    have hx : idx y.Memory 0 = some p := by have := idx_nat y.Memory 0; rw [hp] at this; exact this
    have tp := tf.ms p hpm
    exact Ev.to e4 (Ev.to hx (Ev.letP (Ev.letP (Ev.ret ⟨tf.set ⟨tp.1, ⟨by simp only; omega, hL2⟩, tp.2.2⟩, k4⟩))))
  · obtain ⟨p, hp, hpm⟩ := getq (hk (by omega))
    have hx : idx y.Memory 0 = some p := by have := idx_nat y.Memory 0; rw [hp] at this; exact this
    have f1 := ff.1
    exact Ev.to hx (Ev.to (app_ok (by simp only [List.length_singleton]; omega)) (Ev.letP (Ev.ret ⟨tf.add ff (tf.ms p hpm).1, k1⟩)))
  · have f1 := ff.1
    refine Ev.bind (fReq_ok k1 (show byte 33 from ⟨by decide, by decide⟩)) (fun p hp2 => ?_)
    exact Ev.to (app_ok (by simp only [List.length_singleton]; omega)) (Ev.letP (Ev.ret ⟨tf.add ff hp2.1, hp2.2.2⟩))
  · obtain ⟨r2, c2, e2, l2, k2⟩ := fnext_nat 10000 k1 (m := 256) (by omega) (by omega)
    exact Ev.to e2 (Ev.letP (Ev.ret ⟨⟨u8w, tf.qs, tf.ms, tf.ql, tf.ml⟩, k2⟩))
theorem rSm_eq {fuel : Nat} (hf : 6000 < fuel) {a b : Message_} (h : a.Data.length ≤ 1000) : responder_Same fuel a b = some (decide (isame a b)) := by
  unfold responder_Same
  rw [is_eq hf h, bindP_some]
theorem law25_ResponderAnswers_true (a0 a1 a2 : List Int) (a3 : Int) (o0 : okL (okI .u8) a0) (o1 : okL (okI .u8) a1) (o2 : okL (okI .u8) a2) (o3 : okI .i64 a3) : ∃ fuel, law25_ResponderAnswers fuel a0 a1 a2 a3 = some true := by
  refine ⟨10000, Ev.isTrue ?_⟩
  unfold law25_ResponderAnswers
  have hf : 6000 < 10000 := by omega
  have hb1 : ∀ y ∈ a1, byte y := fun x hx => okI_u8.1 (o1.2 x hx)
  have hb2 : ∀ y ∈ a2, byte y := fun x hx => okI_u8.1 (o2.2 x hx)
  refine Ev.to law25_awake_eq (Ev.iteF rfl ?_)
  refine Ev.join (fun s => s = false → a1.length ≤ 300 ∧ a2.length ≤ 300) (fun s hs => Ev.ite (fun _ => Ev.ret rfl) (fun e => ?_)) (fun j hj => Ev.dec (fun _ => hj _ (fun e => by cases e)) (fun h => hj _ (fun e => ?_)))
  rotate_left
  · have : ¬ (a2.length : Int) > 300 := by simpa using e
    omega
  obtain ⟨hl1, hl2⟩ := hs e
  obtain ⟨c, ec, hc⟩ := fNew_ok 10000 (l := a0) (n := 300) (fun x hx => okI_u8.1 (o0.2 x hx)) (by omega) (by omega)
  refine Ev.to ec (Ev.bind (play25_ok hc) (fun p hp => ?_))
  obtain ⟨tr, fr, hc2⟩ := hp
  obtain ⟨r4, c4, e4, l4, k4⟩ := fnext_nat 10000 hc2 (m := 256) (by omega) (by omega)
  refine Ev.to e4 (Ev.to (sNew_eq _ _) (Ev.to (r25New_eq _ _) ?_))
  refine Ev.join (fun s => s = false) (fun s hs => Ev.iteF hs ?_) (fun j hj => Ev.bneF rfl (Ev.to (sEqual_refl hf ?_) (hj _ rfl)))
  rotate_left
  · split
    · exact ⟨u8w, fun p hp => (by cases hp), fun p hp => (by cases hp), by simp, by simp⟩
    · exact zR_ST
  refine Ev.bind (odd25_ok k4 tr fr) (fun q hq => ?_)
  obtain ⟨tq, kq⟩ := hq
  refine Ev.count 2 (fun i (s : Int × field_Codes) => s.1 = (i : Int) ∧ COk s.2) (by omega) ⟨rfl, kq⟩ (fun i s hi hI self hself => ?_)
  obtain ⟨hi1, hi2⟩ := hI
  rw [hi1]
  by_cases hil : i < 2
  rotate_left
  · exact Ev.decF (by simp; omega) (Ev.ret rfl)
  obtain ⟨x, hx, tx⟩ : ∃ x, ([p.1, q.1] : List Responder_)[i]? = some x ∧ ST x := by
    have : i = 0 ∨ i = 1 := by omega
    rcases this with rfl | rfl
    · exact ⟨_, rfl, tr⟩
    · exact ⟨_, rfl, tq⟩
  refine Ev.decT (by simp; omega) (Ev.to (by rw [idx_nat, hx]) ?_)
  obtain ⟨r8, c8, e8, l8, k8⟩ := fnext_nat 10000 hi2 (m := 200) (by omega) (by omega)
  obtain ⟨n9, c9, e9, n1, n2, k9⟩ := fNow_ok k8
  obtain ⟨r10, c10, e10, l10, k10⟩ := fnext_nat 10000 k9 (m := 4) (by omega) (by omega)
  refine Ev.to e8 (Ev.to e9 (Ev.to e10 ?_))
  obtain ⟨t, ht⟩ : ∃ t, ([p.2.1, IntKind.i64.wrap (p.2.1 + (r8 : Int)), a3, n9] : List Int)[r10]? = some t := ⟨_, List.getElem?_eq_getElem (by simp; omega)⟩
  refine Ev.to (a := t) (by rw [idx_nat]; exact ht) (Ev.bind (fReq_ok k10 (show byte 32 from ⟨by decide, by decide⟩)) (fun y1 hy1 => ?_))
  obtain ⟨ty1, ly1, ky1⟩ := hy1
  refine Ev.bind (fReq_ok ky1 (show byte 32 from ⟨by decide, by decide⟩)) (fun y2 hy2 => ?_)
  obtain ⟨ty2, ly2, ky2⟩ := hy2
  obtain ⟨r13, c13, e13, l13, k13⟩ := fnext_nat 10000 ky2 (m := 6) (by omega) (by omega)
  refine Ev.to e13 ?_
  refine Ev.join (fun s => Small s) (fun s4 hs4 => ?_) (fun j hj => Ev.dec (fun _ => Ev.to (rRequest_eq (by omega) ty1) (hj _ (mreq_small ty1))) (fun _ => hj _ ⟨by omega, hb1⟩))
  refine Ev.join (fun s => s = false) (fun s hs5 => Ev.iteF hs5 ?_) (fun j hj => ?_)
  rotate_left
  · refine Ev.to (sValid_eq hf tx) (Ev.to (r25Valid_eq hf tx) (Ev.letP (Ev.bneF rfl (Ev.to (rSm_eq hf ty1.le) (Ev.to (rs_eq ty1.da ty2.da) (Ev.letP (Ev.bneF rfl (Ev.to (rSm_eq hf ty1.le) (hj _ ?_)))))))))
    have : isame y1.1 y1.1 := ⟨rfl, rfl, rfl, rfl, rfl, rfl, rfl, rfl⟩
    simp [this]
  obtain ⟨u1, u2, u3⟩ := sacc_T tx hs4 t
  refine Ev.to (sAcc_eq hf tx hs4 t) (Ev.to (r25Acc_eq hf tx hs4 t) ?_)
  refine Ev.join (fun s => s = false) (fun s hs6 => Ev.iteF hs6 ?_) (fun j hj => Ev.bneF rfl (Ev.bneF rfl (Ev.to (sEqual_refl hf u1) (hj _ rfl))))
  have tn := snext_T tx
  refine Ev.to (sNext_eq hf tx) (Ev.to (r25Next_eq hf tx) ?_)
  refine Ev.join (fun s => s = false) (fun s hs7 => Ev.iteF hs7 ?_) (fun j hj => Ev.bneF rfl (Ev.to (sMsg_eq tn.da tn.da) (hj _ (by simp))))
  obtain ⟨r18, c18, e18, l18, k18⟩ := fnext_nat 10000 k13 (m := 256) (by omega) (by omega)
  obtain ⟨w1, w2, w3⟩ := sdone_T tx (code := IntKind.u8.wrap (r18 : Int)) u8w hb2 t
  refine Ev.to e18 (Ev.to (sDone_eq hf tx u8w hb2 (by omega) t) (Ev.to (r25Done_eq hf tx u8w hb2 (by omega) t) ?_))
  refine Ev.join (fun s => s = false) (fun s hs8 => Ev.iteF hs8 ?_) (fun j hj => Ev.bneF rfl (Ev.bneF rfl (Ev.to (sEqual_refl hf w1) (hj _ rfl))))
  rw [wi i (by omega)]
  exact hself _ hil ⟨rfl, k18⟩
end Lift
