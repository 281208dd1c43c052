/- The plain law of ResponderOnce. uses: base lists sum8 ev messages mreplies mparse mparser mround mtyped mcanon gen2 codes2 resp resp2 same25 resp3 resp4 awake25 maps
-/
import Derived.Test.YtlfbpnoempdiiaaAwake25
import Derived.Test.YtlfbpnoempdiiaaResp4
import Derived.Test.YtlfbpnoempdiiaaMaps
set_option linter.unusedVariables false
set_option linter.unusedSimpArgs false
namespace Lift
open Go
theorem mbytes_inj {a b : Message_} (ha : MV a ∧ a.Function % 2 = 0) (hb : MV b ∧ b.Function % 2 = 0) (ta : MT a) (tb : MT b) (h : mbytes a = mbytes b) : a = b := by
  have e1 : mparse false (mbytes a) = (a, 0) := mparse_back ha.1 ta false (by simpa using ha.2)
  have e2 : mparse false (mbytes b) = (b, 0) := mparse_back hb.1 tb false (by simpa using hb.2)
  rw [h, e2] at e1
  exact (Prod.mk.inj e1).1.symm
theorem code0 {a : Message_} (h : MV a ∧ a.Function % 2 = 0) : a.Code = 0 := by
  have h2 := h.1
  simp only [MV] at h2
  omega
theorem isame_eq {a b : Message_} (ha : MV a ∧ a.Function % 2 = 0) (hb : MV b ∧ b.Function % 2 = 0) (h : isame a b) : a = b := by
  have c1 := code0 ha
  have c2 := code0 hb
  obtain ⟨h1, h2, h3, h4, h5, h6, h7, h8⟩ := h
  cases a; cases b
  simp_all
structure OI (r : Responder_) (dn : List (List Int × Int)) (rp : List (List Int × List Int)) : Prop where
  v : SV r
  t : ST r
  own : r.Own = 32
  keep : ∀ k ∈ r.Memory, 100 ≤ k.Until
  rep : ∀ k ∈ r.Memory, mget [] rp (mbytes k.Request) = k.Reply ∧ (mparse true k.Reply).2 = 0 ∧ (mparse true k.Reply).1.Code ≠ 192
  dn0 : ∀ m, MV m ∧ m.Function % 2 = 0 → MT m → (∀ k ∈ r.Memory, k.Request ≠ m) → mget 0 dn (mbytes m) = 0
theorem fmem_same {l : List Memory_} {now : Int} (h : ∀ k ∈ l, now < k.Until) : fmem l now = l :=
  List.filter_eq_self.2 (fun k hk => decide_eq_true (h k hk))
theorem OI.fm {r : Responder_} {dn : List (List Int × Int)} {rp : List (List Int × List Int)} (o : OI r dn rp) {now : Int} (h : now < 99) : fmem r.Memory now = r.Memory :=
  fmem_same (fun k hk => by have := o.keep k hk; omega)
theorem OI.fr {r : Responder_} {dn : List (List Int × Int)} {rp : List (List Int × List Int)} (o : OI r dn rp) {now : Int} (h : now < 99) : sfresh r now = r := by
  unfold sfresh; rw [o.fm h]
/-- What Accept does in these states. -/
theorem OI.acc {r : Responder_} {dn : List (List Int × Int)} {rp : List (List Int × List Int)} (o : OI r dn rp) {now : Int} (h0 : 0 ≤ now) (h1 : now < 99) {m : Message_} (vm : ReqV 32 m) (tm : MT m) :
    OI (sacc r (mbytes m) now).1 dn rp ∧ (sacc r (mbytes m) now).2.2 = 0 ∧ (0 < (sacc r (mbytes m) now).2.1.length → (mparse true (sacc r (mbytes m) now).2.1).2 = 0 ∧
      ((mparse true (sacc r (mbytes m) now).2.1).1.Code ≠ 192 → mget [] rp (mbytes m) = (sacc r (mbytes m) now).2.1) ∧ ((mparse true (sacc r (mbytes m) now).2.1).1.Code = 192 → mget 0 dn (mbytes m) = 0)) := by
  have vm' : ReqV r.Own m := by rw [o.own]; exact vm
  have hreq : ∀ q ∈ allq r, MV q ∧ q.Function % 2 = 0 := fun q hq => ((SV_iff.1 o.v).2.2.1 q hq).1
  have hmem : ∀ k ∈ r.Memory, k.Request ∈ allq r := fun k hk => List.mem_append_right _ (List.mem_map.2 ⟨k, hk, rfl⟩)
  by_cases hm : ∃ k ∈ r.Memory, isame k.Request m
  · obtain ⟨k, hk, hc⟩ := hm
    obtain ⟨k', hk', hc', e⟩ := acc_mem o.v vm' tm h0 (by omega) (k := k) (by rw [o.fm h1]; exact hk) hc
    rw [o.fm h1] at hk'
    rw [o.fr h1] at e
    rw [e]
    obtain ⟨r1, r2, r3⟩ := o.rep k' hk'
    have e2 : k'.Request = m := isame_eq (hreq _ (hmem k' hk')) vm.1 hc'
    exact ⟨o, rfl, fun _ => ⟨r2, fun _ => by rw [← e2]; exact r1, fun h => absurd h r3⟩⟩
  · have hnm : ∀ k ∈ r.Memory, ¬ isame k.Request m := fun k hk hc => hm ⟨k, hk, hc⟩
    by_cases hq : ∃ q ∈ r.Queue, isame q m
    · have e := acc_wait o.v vm' tm h0 (by omega : now ≤ 17179869184) (by rw [o.fm h1]; exact hnm) hq
      rw [o.fr h1] at e
      rw [e]
      exact ⟨o, rfl, fun h => by simp at h⟩
    · have hn : ∀ q ∈ allq (sfresh r now), ¬ isame q m := by
        rw [o.fr h1]
        intro q hq2 hc
        rcases List.mem_append.1 hq2 with h | h
        · exact hq ⟨q, h, hc⟩
        · obtain ⟨k, hk, rfl⟩ := List.mem_map.1 h
          exact hnm k hk hc
      by_cases hl : r.Queue.length = 8 ∨ r.Queue.length + (fmem r.Memory now).length = 16
      · have e := acc_busy o.v vm' tm h0 (by omega : now ≤ 17179869184) hn hl
        rw [o.fr h1] at e
        obtain ⟨y, ey, ty, vy, e2, e3, _, e5⟩ := reply_ok vm.1 tm (code := 192) (show byte 192 from ⟨by decide, by decide⟩) (data := []) (by simp) (fun x hx => (by cases hx))
        rw [ey] at e
        simp only at e
        rw [e2] at e
        rw [e]
        refine ⟨o, rfl, fun _ => ⟨by simp only; rw [e3], fun h => absurd (by simp only; rw [e3]; exact e5) h, fun _ => o.dn0 m vm.1 tm (fun k hk he => hnm k hk (by rw [he]; exact ⟨rfl, rfl, rfl, rfl, rfl, rfl, rfl, rfl⟩))⟩⟩
      · obtain ⟨v1, v2⟩ := sV_len o.v
        have hfl := fmem_len r.Memory now
        obtain ⟨e, v3⟩ := acc_new o.v vm' tm h0 (by omega : now ≤ 17179869184) hn (by omega) (by omega)
        have t3 := (sacc_T o.t (mbytes_small vm.1.1 tm).1 now).1
        rw [e] at t3
        rw [e, o.fm h1] at *
        exact ⟨⟨v3, t3, o.own, o.keep, o.rep, o.dn0⟩, rfl, fun h => by simp at h⟩
theorem law25_ResponderOnce_true (a0 : List Int) (o0 : okL (okI .u8) a0) : ∃ fuel, law25_ResponderOnce fuel a0 = some true := by
  refine ⟨10000, Ev.isTrue ?_⟩
  unfold law25_ResponderOnce
  have hf : 6000 < 10000 := by omega
  have b0 : byte 0 := ⟨by decide, by decide⟩
  refine Ev.to law25_awake_eq (Ev.iteF rfl ?_)
  obtain ⟨c, ec, hc⟩ := fNew_ok 10000 (l := a0) (n := 200) (fun x hx => okI_u8.1 (o0.2 x hx)) (by omega) (by omega)
  refine Ev.to ec (Ev.to (sNew_eq _ _) ?_)
  rw [if_pos (by omega)]
  refine Ev.bneF rfl ?_
  refine Ev.count 99 (fun i (s : Int × field_Codes × Responder_ × List (List Int × Int) × List (List Int × List Int)) => s.1 = (i : Int) ∧ COk s.2.1 ∧ OI s.2.2.1 s.2.2.2.1 s.2.2.2.2) (by omega) ⟨rfl, hc, nil_V (by omega) (by omega), nil_T (show byte 32 from ⟨by decide, by decide⟩), rfl, fun k hk => (by cases hk), fun k hk => (by cases hk), fun m _ _ _ => rfl⟩ (fun i s hi hI self hself => ?_)
  obtain ⟨n, c, r, dn, rp⟩ := s
  obtain ⟨h1, h2, o⟩ := hI
  simp only at h1 h2 o
  subst h1
  simp only
  by_cases hil : i < 99
  rotate_left
  · exact Ev.decF (by omega) (Ev.ret rfl)
  refine Ev.decT (by omega) ?_
  have eL : ∃ b, field_Codes_Left 10000 c = some b := ⟨_, rfl⟩
  obtain ⟨b, eb⟩ := eL
  refine Ev.to eb (Ev.not (Ev.ite (fun _ => ?_) (fun _ => Ev.ret rfl)))
  obtain ⟨r5, c5, e5, l5, k5⟩ := fnext_nat 10000 h2 (m := 2) (by omega) (by omega)
  obtain ⟨r6, c6, e6, l6, k6⟩ := fnext_nat 10000 k5 (m := 3) (by omega) (by omega)
  obtain ⟨r7, c7, e7, l7, k7⟩ := fnext_nat 10000 k6 (m := 4) (by omega) (by omega)
  obtain ⟨x1, hx1, b1, b2⟩ : ∃ z, ([64, 66] : List Int)[r5]? = some z ∧ 8 ≤ z ∧ z ≤ 119 := by
    have : r5 = 0 ∨ r5 = 1 := by omega
    rcases this with rfl | rfl <;> exact ⟨_, rfl, by omega, by omega⟩
  refine Ev.to e5 (Ev.to (a := x1) (by rw [idx_nat]; exact hx1) (Ev.to e6 (Ev.to e7 ?_)))
  obtain ⟨tm, vm⟩ := rqm_ok (fr := x1) (cm := 1) (sq := (r6 : Int)) (d := [IntKind.u8.wrap (r7 : Int)]) b1 b2 (show byte 1 from ⟨by decide, by decide⟩) (by omega) (by omega) (by simp) (fun x hx => by simp only [List.mem_singleton] at hx; rw [hx]; exact u8w)
  simp only [show (⟨32, x1, 6, 1, 0, 0, (r6 : Int), 0, [IntKind.u8.wrap (r7 : Int)]⟩ : Message_) = rqm x1 1 (r6 : Int) [IntKind.u8.wrap (r7 : Int)] from rfl]
  generalize rqm x1 1 (r6 : Int) [IntKind.u8.wrap (r7 : Int)] = m at tm vm
  have hb := (mbytes_small vm.1.1 tm).1
  refine Ev.to (mRequest_eq (by omega) tm) ?_
  rw [mreq_of vm.1]
  refine Ev.to (sAcc_eq hf o.t hb (i : Int)) ?_
  obtain ⟨o1, ok1, hrep⟩ := o.acc (now := (i : Int)) (by omega) (by omega) vm tm
  have hsm := (sacc_T o.t hb (i : Int)).2.1
  generalize sacc r (mbytes m) (i : Int) = y9 at o1 ok1 hrep hsm
  refine Ev.join (fun s => s = false) (fun s hs => Ev.iteF hs ?_) (fun j hj => Ev.bneF rfl (hj _ (by rw [ok1]; rfl)))
  simp only [toStr_byte hb.2, toStr_byte hsm.2]
  refine Ev.join (fun _ => True) (fun _ _ => ?_) (fun j hj => Ev.dec (fun hl => ?_) (fun _ => hj () trivial))
  · obtain ⟨r10, c10, e10, l10, k10⟩ := fnext_nat 10000 k7 (m := 2) (by omega) (by omega)
    refine Ev.to e10 ?_
    rw [wi i (by omega)]
    refine Ev.ite (fun _ => ?_) (fun _ => Ev.letP (hself _ hil ⟨rfl, k10, o1⟩))
    refine Ev.to (sNext_eq hf o1.t) ?_
    cases hq : y9.1.Queue with
    | nil =>
      rw [snext_nil hq]
      exact Ev.iteT rfl (Ev.letP (hself _ hil ⟨rfl, k10, o1⟩))
    | cons q rest =>
      rw [snext_cons o1.v hq]
      have hqa : q ∈ allq y9.1 := List.mem_append_left _ (by rw [hq]; simp)
      have hreq : ∀ q ∈ allq y9.1, MV q ∧ q.Function % 2 = 0 := fun q hq => ((SV_iff.1 o1.v).2.2.1 q hq).1
      have vq := hreq q hqa
      have tq := o1.t.all q hqa
      have hbq := (mbytes_small vq.1 tq).1
      have hdt : ∀ x ∈ [IntKind.u8.wrap (i : Int)], byte x := fun x hx => by simp only [List.mem_singleton] at hx; rw [hx]; exact u8w
      obtain ⟨y, ey, ty, vy, e2, v2, e5'⟩ := done_ok o1.v o1.t hq (code := 0) b0 (data := [IntKind.u8.wrap (i : Int)]) (by simp) hdt (now := (i : Int)) (by omega) (by omega)
      have t2 := (sdone_T o1.t (code := 0) b0 hdt (i : Int)).1
      have hby := (mbytes_small vy ty).1
      rw [e2] at t2
      obtain ⟨y', ey', _, _, _, e3, _, _⟩ := reply_ok vq tq (code := 0) b0 (data := [IntKind.u8.wrap (i : Int)]) (by simp) hdt
      have hyy : y' = y := by rw [ey] at ey'; exact (Prod.mk.inj ey').1.symm
      subst hyy
      refine Ev.iteF rfl (Ev.to (mRequest_eq (by omega) tq) ?_)
      rw [mreq_of vq]
      refine Ev.to (sDone_eq hf o1.t b0 hdt (by simp) (i : Int)) ?_
      rw [e2]
      simp only [toStr_byte hbq.2, toStr_byte hby.2]
      have hnq : ∀ k ∈ y9.1.Memory, k.Request ≠ q := by
        have ha := (SV_iff.1 o1.v).2.2.2
        unfold Apart allq at ha
        rw [hq, List.cons_append, List.pairwise_cons] at ha
        intro k hk he
        exact ha.1 k.Request (List.mem_append_right _ (List.mem_map.2 ⟨k, hk, rfl⟩)) (by rw [he]; exact ⟨rfl, rfl, rfl, rfl, rfl, rfl, rfl, rfl⟩)
      have hd0 := o1.dn0 q vq tq hnq
      rw [hd0, wr (n := (0 : Int) + 1) (by omega)]
      have o2 : OI ⟨y9.1.Own, rest, fmem y9.1.Memory (i : Int) ++ [⟨q, mbytes y', (i : Int) + 100⟩]⟩ (mput dn (mbytes q) (0 + 1)) (mput rp (mbytes q) (mbytes y')) := by
        have hfm := o1.fm (now := (i : Int)) (by omega)
        rw [hfm] at v2 t2 ⊢
        refine ⟨v2, t2, o1.own, fun k hk => ?_, fun k hk => ?_, fun m' vm' tm' hn' => ?_⟩
        · rcases List.mem_append.1 hk with h | h
          · exact o1.keep k h
          · simp only [List.mem_singleton] at h; rw [h]; simp only; omega
        · rw [mget_put]
          rcases List.mem_append.1 hk with h | h
          · have hka : k.Request ∈ allq y9.1 := List.mem_append_right _ (List.mem_map.2 ⟨k, h, rfl⟩)
            rw [if_neg (fun he => hnq k h (mbytes_inj vq (hreq _ hka) tq (o1.t.all _ hka) he).symm)]
            exact o1.rep k h
          · simp only [List.mem_singleton] at h; subst h
            rw [if_pos rfl]
            refine ⟨rfl, ?_, ?_⟩
            · simp only; rw [e3]
            · simp only; rw [e3]; simp only; rw [e5']; omega
        · rw [mget_put, if_neg (fun he => hn' ⟨q, mbytes y', (i : Int) + 100⟩ (by simp) (mbytes_inj vq vm' tq tm' he))]
          exact o1.dn0 m' vm' tm' (fun k hk => hn' k (List.mem_append_left _ hk))
      refine Ev.letP (Ev.letP (Ev.join (fun s => s = false) (fun s hs => Ev.iteF hs (Ev.letP (hself _ hil ⟨rfl, k10, o2⟩))) (fun j hj => Ev.bneF rfl (hj _ ?_))))
      rw [mget_put, if_pos rfl]; rfl
  · have hl' : 0 < y9.2.1.length := by omega
    obtain ⟨p1, p2, p3⟩ := hrep hl'
    refine Ev.to (mpas_eq (by omega) hsm) (Ev.bneF p1 (Ev.bne (fun hcode => Ev.bneF (p2 hcode) (hj () trivial)) (fun hcode => Ev.decF ?_ (hj () trivial))))
    rw [p3 hcode]; omega
end Lift
