/- The plain law of ExchangeTimes. uses: base lists sum8 ev messages mreplies mparse mround mtyped gen2 codes2 exch exch2 exch3 exch4 awake24
-/
import Derived.Test.YtkcogjblkenmgaaAwake24
set_option linter.unusedVariables false
set_option linter.unusedSimpArgs false
namespace Lift
open Go
theorem Ev.loop1 {σ β : Type} {step : (σ → Option β) → σ → Option β} {n : Nat} {s : σ} {Q : β → Prop} (h : Ev (step (loopP step n) s) Q) : Ev (loopP step (n + 1) s) Q := h
theorem fseq_nil (to : Int) : fseq [] to 0 = 0 := by
  obtain ⟨h1, h2, h3⟩ := freeK_spec (l := []) (by simp) to 0
  unfold fseq
  have : freeK [] to 0 = 0 := by
    refine Classical.byContradiction fun h => ?_
    obtain ⟨p, hp, _⟩ := h3 0 (by omega)
    cases hp
  rw [show (0 : Int).toNat = 0 from rfl, this]; rfl
/-- A requester with one request that waits. -/
def one (m : Message_) (n d k : Int) : Requester_ := ⟨32, n, [⟨m, d, k⟩]⟩
theorem one_V {m : Message_} (hm : MV m ∧ m.Function % 2 = 0) (hf : m.From = 32) {n d k : Int} (hn : 0 ≤ n ∧ n ≤ 63) (hd : 0 ≤ d) (hk : 1 ≤ k ∧ k ≤ 3) : RV (one m n d k) := by
  refine ⟨by simp [one], by simp [one], hn.1, hn.2, by simp [one], fun i p hp => ?_⟩
  have hi : i = 0 := by have := lt_len hp; simp [one] at this; exact this
  subst hi
  simp [one] at hp
  subst hp
  exact ⟨⟨hk.1, hk.2, hd, hf, hm⟩, fun j q hj => by omega⟩
theorem one_T {m : Message_} (tm : MT m) {n d k : Int} (hn : 0 ≤ n ∧ n ≤ 63) (hd : 0 ≤ d ∧ d ≤ 100000) (hk : 1 ≤ k ∧ k ≤ 3) : RT (one m n d k) := by
  refine ⟨⟨by simp [one], by simp [one]⟩, okI_i64.2 ⟨by simp only [one]; omega, by simp only [one]; omega⟩, fun p hp => ?_, by simp [one]⟩
  simp [one] at hp
  subst hp
  exact ⟨tm, okI_i64.2 ⟨by simp only; omega, by simp only; omega⟩, okI_i64.2 ⟨by simp only; omega, by simp only; omega⟩⟩
theorem one_tick {m : Message_} (hm : MV m ∧ m.Function % 2 = 0) (hf : m.From = 32) {n d k now : Int} (hn : 0 ≤ n ∧ n ≤ 63) (hd : 0 ≤ d) (hk : 1 ≤ k ∧ k ≤ 3) (h0 : 0 ≤ now) (h1 : now ≤ 100000) :
    rtick (one m n d k) now = if now < d then (one m n d k, [], []) else if k = 3 then (⟨32, n, []⟩, [], [m]) else (one m n (now + 10 * 2 ^ k.toNat) (k + 1), [(mreq m).1], []) := by
  unfold rtick
  have v := one_V hm hf hn hd hk
  rw [if_neg (fun h => h.elim (fun h => h v) (fun h => by omega))]
  unfold tfold one
  simp only [List.foldl_cons, List.foldl_nil, tstep]
  by_cases h2 : now < d
  · simp [h2]
  · by_cases h3 : k = 3
    · simp [h2, h3]
    · simp [h2, h3, bump]
theorem law24_ExchangeTimes_true (a0 : Int) (a1 : List Int) (o0 : okI .u8 a0) (o1 : okL (okI .u8) a1) : ∃ fuel, law24_ExchangeTimes fuel a0 a1 = some true := by
  refine ⟨10000, Ev.isTrue ?_⟩
  unfold law24_ExchangeTimes
  have h0 := okI_u8.1 o0
  have hb : ∀ x ∈ a1, byte x := fun x hx => okI_u8.1 (o1.2 x hx)
  refine Ev.to law24_awake_eq (Ev.iteF rfl (Ev.dec (fun _ => Ev.ret rfl) (fun hl => ?_)))
  refine Ev.to (eNew_eq _ _) ?_
  rw [if_pos (by decide), wr (n := a0) (by omega), wr (n := a0 + 100) (by omega)]
  have t0 : RT ⟨32, 0, []⟩ := ⟨⟨by decide, by decide⟩, okI_i64.2 ⟨by decide, by decide⟩, fun p hp => (by cases hp), by simp⟩
  have b64 : byte 64 := ⟨by decide, by decide⟩
  have b6 : byte 6 := ⟨by decide, by decide⟩
  have b1 : byte 1 := ⟨by decide, by decide⟩
  refine Ev.to (eSend_eq (by omega) t0 b64 b6 b1 hb (by omega)) ?_
  have v0 : RV ⟨32, 0, []⟩ := ⟨by decide, by decide, by decide, by decide, by simp, fun i p hp => by simp at hp⟩
  have hmsg : smsg ⟨32, 0, []⟩ 64 6 1 a1 = ⟨64, 32, 6, 1, 0, 0, 0, 0, a1⟩ := by
    unfold smsg; rw [fseq_nil]
  have tm := smsg_MT t0 b64 b6 b1 hb (by omega : a1.length ≤ 1000)
  rw [hmsg] at tm
  have hm : MV ⟨64, 32, 6, 1, 0, 0, 0, 0, a1⟩ ∧ (⟨64, 32, 6, 1, 0, 0, 0, 0, a1⟩ : Message_).Function % 2 = 0 := by
    refine ⟨?_, by show (6 : Int) % 2 = 0; decide⟩
    unfold MV
    simp; omega
  have hs : rsend ⟨32, 0, []⟩ 64 6 1 a1 a0 = (one ⟨64, 32, 6, 1, 0, 0, 0, 0, a1⟩ 1 (a0 + 10) 1, (mreq ⟨64, 32, 6, 1, 0, 0, 0, 0, a1⟩).1, 0) := by
    unfold rsend
    rw [if_neg (fun h => h v0), if_neg (by omega), if_neg (by simp), hmsg, if_neg (fun h => h (mreq_ok.2 hm)), fseq_nil]
    rfl
  rw [hs]
  generalize hM : (⟨64, 32, 6, 1, 0, 0, 0, 0, a1⟩ : Message_) = M at tm hm
  have hF : M.From = 32 := by rw [← hM]
  refine Ev.join (fun s => s = false) (fun s hs => Ev.iteF hs ?_) (fun j hj => Ev.bneF rfl (hj _ rfl))
  refine Ev.count 70 (fun k (s : Int × Requester_ × List Int) => s.1 = a0 + k ∧ ((k ≤ 10 ∧ s.2 = (one M 1 (a0 + 10) 1, [])) ∨ (10 < k ∧ k ≤ 30 ∧ s.2 = (one M 1 (a0 + 30) 2, [10])) ∨ (30 < k ∧ k ≤ 70 ∧ s.2 = (one M 1 (a0 + 70) 3, [10, 30])))) (by omega) ⟨by simp, .inl ⟨by omega, rfl⟩⟩ (fun k s hk hI self hself => ?_)
  obtain ⟨hk1, hst⟩ := hI
  rw [hk1]
  refine Ev.decT (by omega) ?_
  have hwk : IntKind.i64.wrap (a0 + (k : Int) + 1) = a0 + ((k + 1 : Nat) : Int) := by rw [wr (by omega)]; omega
  have hwd : IntKind.i64.wrap (a0 + (k : Int) - a0) = (k : Int) := by rw [wr (by omega)]; omega
  -- nothing is transmitted, or the request once more
  have quiet : ∀ (r : Requester_) (ts : List Int) (e : exchange_Tick 10000 s.2.1 (a0 + (k : Int)) = some (r, [], [])), s.2.2 = ts → Ev (self (a0 + ((k + 1 : Nat) : Int), r, ts)) (fun b => b = true) → Ev (bindP (exchange_Tick 10000 s.2.1 (a0 + (k : Int))) fun y4 =>
      loopP (fun k2 (s3 : (Int × (List Int))) => iteP (decide (s3.1 < (y4.2.1.length : Int))) (bindP (idx y4.2.1 s3.1) fun x1 => iteP ((toStr x1) != (toStr (mreq M).1)) (some false) (bindP (app 8 s3.2 ([(IntKind.i64.wrap (a0 + (k : Int) - a0))])) fun x2 => k2 ((IntKind.i64.wrap (s3.1 + 1)), x2)))
        (iteP (decide ((y4.2.2.length : Int) > 0)) (iteP ((s3.2.length : Int) == 2) (bindP (idx s3.2 0) fun x3 => iteP (x3 == 10) (bindP (idx s3.2 1) fun x4 => iteP (x4 == 30) (letP ((IntKind.i64.wrap (a0 + (k : Int) - a0)) == 70) fun x5 => some x5) (some false)) (some false)) (some false))
          (letP (IntKind.i64.wrap (a0 + (k : Int) + 1)) fun x6 => self (x6, y4.1, s3.2)))) 10000 (0, s.2.2)) (fun b => b = true) := by
    intro r ts e hts hq
    rw [e, bindP_some, hts]
    refine Ev.loop1 (Ev.decF (by simp) (Ev.decF (by simp) ?_))
    rw [hwk]
    exact Ev.letP hq
  rcases hst with ⟨c1, hst⟩ | ⟨c1, c2, hst⟩ | ⟨c1, c2, hst⟩
  · have e1 : s.2.1 = one M 1 (a0 + 10) 1 := by rw [hst]
    have e2 : s.2.2 = [] := by rw [hst]
    have htk := one_tick hm hF (n := 1) (d := a0 + 10) (k := 1) (now := a0 + k) (by omega) (by omega) (by omega) (by omega) (by omega)
    have he := eTick_eq (fuel := 10000) (by omega) (one_T tm (n := 1) (d := a0 + 10) (k := 1) (by omega) (by omega) (by omega)) (now := a0 + k)
    by_cases hd : k = 10
    · subst hd
      rw [if_neg (by omega), if_neg (by decide)] at htk
      rw [e1, e2, he, htk, bindP_some]
      refine Ev.loop1 (Ev.decT (by simp) (Ev.to rfl (Ev.bneF rfl (Ev.to (app_ok (by simp)) ?_))))
      refine Ev.loop1 (Ev.decF (by simp [IntKind.wrap, IntKind.bits, IntKind.signed]) (Ev.decF (by simp) ?_))
      rw [hwk, hwd]
      refine Ev.letP (hself _ (by omega) ⟨rfl, .inr (.inl ⟨by omega, by omega, ?_⟩)⟩)
      have : a0 + ((10 : Nat) : Int) + 10 * 2 ^ (1 : Int).toNat = a0 + 30 := by
        rw [show (10 : Int) * 2 ^ (1 : Int).toNat = 20 from by decide]; omega
      simp only [this]; rfl
    · rw [if_pos (by omega)] at htk
      exact quiet _ _ (by rw [e1, he, htk]) e2 (hself _ (by omega) ⟨rfl, .inl ⟨by omega, rfl⟩⟩)
  · have e1 : s.2.1 = one M 1 (a0 + 30) 2 := by rw [hst]
    have e2 : s.2.2 = [10] := by rw [hst]
    have htk := one_tick hm hF (n := 1) (d := a0 + 30) (k := 2) (now := a0 + k) (by omega) (by omega) (by omega) (by omega) (by omega)
    have he := eTick_eq (fuel := 10000) (by omega) (one_T tm (n := 1) (d := a0 + 30) (k := 2) (by omega) (by omega) (by omega)) (now := a0 + k)
    by_cases hd : k = 30
    · subst hd
      rw [if_neg (by omega), if_neg (by decide)] at htk
      rw [e1, e2, he, htk, bindP_some]
      refine Ev.loop1 (Ev.decT (by simp) (Ev.to rfl (Ev.bneF rfl (Ev.to (app_ok (by simp)) ?_))))
      refine Ev.loop1 (Ev.decF (by simp [IntKind.wrap, IntKind.bits, IntKind.signed]) (Ev.decF (by simp) ?_))
      rw [hwk, hwd]
      refine Ev.letP (hself _ (by omega) ⟨rfl, .inr (.inr ⟨by omega, by omega, ?_⟩)⟩)
      have : a0 + ((30 : Nat) : Int) + 10 * 2 ^ (2 : Int).toNat = a0 + 70 := by
        rw [show (10 : Int) * 2 ^ (2 : Int).toNat = 40 from by decide]; omega
      simp only [this]; rfl
    · rw [if_pos (by omega)] at htk
      exact quiet _ _ (by rw [e1, he, htk]) e2 (hself _ (by omega) ⟨rfl, .inr (.inl ⟨by omega, by omega, rfl⟩)⟩)
  · have e1 : s.2.1 = one M 1 (a0 + 70) 3 := by rw [hst]
    have e2 : s.2.2 = [10, 30] := by rw [hst]
    have htk := one_tick hm hF (n := 1) (d := a0 + 70) (k := 3) (now := a0 + k) (by omega) (by omega) (by omega) (by omega) (by omega)
    have he := eTick_eq (fuel := 10000) (by omega) (one_T tm (n := 1) (d := a0 + 70) (k := 3) (by omega) (by omega) (by omega)) (now := a0 + k)
    by_cases hd : k = 70
    · subst hd
      rw [if_neg (by omega), if_pos rfl] at htk
      rw [e1, e2, he, htk, bindP_some]
      refine Ev.loop1 (Ev.decF (by simp) (Ev.decT (by simp) (Ev.iteT rfl (Ev.to rfl (Ev.iteT rfl (Ev.to rfl (Ev.iteT rfl (Ev.letP (Ev.ret ?_)))))))))
      rw [hwd]; rfl
    · rw [if_pos (by omega)] at htk
      exact quiet _ _ (by rw [e1, he, htk]) e2 (hself _ (by omega) ⟨rfl, .inr (.inr ⟨by omega, by omega, rfl⟩)⟩)
end Lift
