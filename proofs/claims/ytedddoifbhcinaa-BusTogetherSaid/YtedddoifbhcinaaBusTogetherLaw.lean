/- The plain law of BusTogether. uses: base crc8 lists sealc frames refframes busf ev busa busb busc dice dicebytes diceframe awake21
-/
import Derived.Test.YtedddoifbhcinaaAwake21
import Derived.Test.YtedddoifbhcinaaDiceframe
set_option linter.unusedVariables false
set_option linter.unusedSimpArgs false
namespace Lift
open Go
theorem minL_le : ∀ {l : List (List Int)} {x : List Int}, x ∈ l → 0 ≤ cmpL x (minL l) := by
  have key : ∀ (l : List (List Int)) (b : List Int), (∀ x ∈ l, 0 ≤ cmpL x (l.foldl (fun b y => if cmpL y b < 0 then y else b) b)) ∧ 0 ≤ cmpL b (l.foldl (fun b y => if cmpL y b < 0 then y else b) b) := by
    intro l
    induction l with
    | nil => intro b; exact ⟨by simp, by simp [cmpL_self]⟩
    | cons y l ih =>
      intro b
      simp only [List.foldl_cons]
      obtain ⟨h1, h2⟩ := ih (if cmpL y b < 0 then y else b)
      have tr : ∀ a m, cmpL m a ≤ 0 → 0 ≤ cmpL m (l.foldl (fun b y => if cmpL y b < 0 then y else b) (if cmpL y b < 0 then y else b)) → 0 ≤ cmpL a (l.foldl (fun b y => if cmpL y b < 0 then y else b) (if cmpL y b < 0 then y else b)) := by
        intro a m hma hm
        generalize l.foldl (fun b y => if cmpL y b < 0 then y else b) (if cmpL y b < 0 then y else b) = z at *
        have e1 := cmpL_anti m z
        have e2 := cmpL_anti a z
        have := (cmpL_trans z m a (by omega) hma).1
        omega
      by_cases hc : cmpL y b < 0
      · have hyb := tr b y (by omega) (by rw [if_pos hc] at h2 ⊢; exact h2)
        refine ⟨fun x hx => ?_, hyb⟩
        rcases List.mem_cons.1 hx with rfl | hx
        · rw [if_pos hc] at h2 ⊢; exact h2
        · exact h1 x hx
      · have hb : 0 ≤ cmpL b (l.foldl (fun b y => if cmpL y b < 0 then y else b) (if cmpL y b < 0 then y else b)) := by rw [if_neg hc] at h2 ⊢; exact h2
        refine ⟨fun x hx => ?_, hb⟩
        rcases List.mem_cons.1 hx with rfl | hx
        · exact tr x b (by have := cmpL_anti x b; omega) hb
        · exact h1 x hx
  intro l x hx
  cases l with
  | nil => simp at hx
  | cons b l =>
    rcases List.mem_cons.1 hx with rfl | hx
    · exact (key l x).2
    · exact (key l b).1 x hx
theorem minL_is {l : List (List Int)} {b : List Int} (hb : b ∈ l) (h : ∀ x ∈ l, x ≠ b → cmpL b x < 0) : minL l = b := by
  have hm := minL_mem (l := l) (by intro e; rw [e] at hb; simp at hb)
  refine Classical.byContradiction fun hne => ?_
  have h1 := h _ hm hne
  have h2 := minL_le hb
  omega
/-- Which masters have the second frame. -/
def bs (n : Nat) : List Bool := (List.range n).map (fun i => i % 2 == 1)
def mk1 (p q : List Int) (b : Bool) : bus_master := ⟨[if b then q else p], 0, false⟩
def off1 (p q : List Int) (c : Bool) (b : Bool) : bus_master := if b == c then ⟨[], 0, true⟩ else mk1 p q b
theorem mk1_ready (p q : List Int) (b : Bool) : ready (mk1 p q b) = true := by simp [ready, wait, mk1]
theorem off1_ready (p q : List Int) (c b : Bool) : ready (off1 p q c b) = !(b == c) := by
  unfold off1; cases b == c <;> simp [ready, wait, mk1]
theorem bs_all : ∀ n : Fin 9, 2 ≤ n.val → (∀ c : Bool, (who (fun b => b == c) 0 (bs n.val)).length + (who (fun b => b == !c) 0 (bs n.val)).length = n.val ∧
    (who (fun b => b == c) 0 (bs n.val)).head? = some (if c then 1 else 0)) ∧ (who (fun _ => true) 0 (bs n.val)).length = n.val := by decide +kernel
theorem any_map {α β : Type} {p : β → Bool} {f : α → β} (l : List α) : (l.map f).any p = l.any (fun x => p (f x)) := by simp [List.any_map]; rfl
theorem bs_ne {n : Nat} (h2 : 2 ≤ n) : true ∈ bs n ∧ false ∈ bs n := by
  unfold bs
  exact ⟨List.mem_map.2 ⟨1, by simp; omega, by decide⟩, List.mem_map.2 ⟨0, by simp; omega, by decide⟩⟩
theorem start_ready {ms : List bus_master} (h : ms.any ready = true) : start ms = ms := by unfold start; rw [h]; rfl
theorem filter_all {α : Type} {p : α → Bool} {l : List α} (h : ∀ x ∈ l, p x = true) : l.filter p = l := List.filter_eq_self.2 h
theorem law21_BusTogether_true (a0 : List Int) (a1 : List Int) (a2 : Int) (o0 : okL (okI .i64) a0) (o1 : okL (okI .i64) a1) (o2 : okI .i64 a2) : ∃ fuel, law21_BusTogether fuel a0 a1 a2 = some true := by
  refine ⟨10000, Ev.isTrue ?_⟩
  unfold law21_BusTogether
  refine Ev.to (Light_eq 10000 a0) ?_
  refine Ev.join (fun s => s = false → a0.length ≤ 600 ∧ a1.length ≤ 600) (fun s hs => Ev.ite (fun _ => Ev.to (awake_eq (by omega)) (Ev.ret rfl)) (fun hs0 => ?_)) (fun j hj => ?_)
  · obtain ⟨l1, l2⟩ := hs hs0
    refine Ev.to (Mod_eq 10000 (by omega) (by omega)) ?_
    have m1 := Int.emod_nonneg a2 (show (7 : Int) ≠ 0 by omega)
    have m2 := Int.emod_lt_of_pos a2 (show (0 : Int) < 7 by omega)
    obtain ⟨n, hn⟩ : ∃ n : Nat, 2 + a2 % 7 = n := ⟨(2 + a2 % 7).toNat, by omega⟩
    refine Ev.letE (c := (n : Int)) (by rw [w_i64 (by omega) (by omega)]; exact hn) ?_
    refine Ev.to (New_eq 10000 n) ?_
    have hn8 : 1 ≤ (n : Int) ∧ (n : Int) ≤ 8 := by omega
    simp only [if_pos hn8]
    refine Ev.join (fun s => s = false) (fun s hs => ?_) (fun j hj => Ev.iteF rfl (hj _ rfl))
    subst hs
    refine Ev.iteF rfl (Ev.to (Roll_eq 10000 _) ?_)
    obtain ⟨f, _, e, v1, v2, _⟩ := Frame_ok (fuel := 10000) (by omega) (roll_ok (l := a0) (by omega))
    obtain ⟨g, _, e', u1, u2, _⟩ := Frame_ok (fuel := 10000) (by omega) (roll_ok (l := a1) (by omega))
    refine Ev.to e (Ev.to (Roll_eq 10000 _) (Ev.to e' (Ev.to (Encode_eq v2 (by omega)) (Ev.to (Encode_eq u2 (by omega)) ?_))))
    simp only
    have hp := enc_fb v1 v2
    have hq := enc_fb u1 u2
    have hpe : (encode f).2 = 0 := by rw [enc_err, if_pos v1]
    have hqe : (encode g).2 = 0 := by rw [enc_err, if_pos u1]
    refine Ev.join (fun s => s = false) (fun s hs => ?_) (fun j hj => Ev.bneF hpe (hj _ (by rw [hqe]; rfl)))
    subst hs
    refine Ev.iteF rfl ?_
    have hput : ∀ (ms : List bus_master) (i : Nat) (h : Frame_), valid h = true → i < ms.length → ms[i]? = some bus_master.z → put ms (i : Int) h = (0, ms.set i ⟨[(encode h).1], 0, false⟩) := by
      intro ms i h hv hi hz
      unfold put
      rw [if_pos (by omega), if_pos hv]
      have : ms.getD ((i : Int)).toNat bus_master.z = bus_master.z := by simp [List.getD_eq_getElem?_getD, hz]
      rw [this]
      simp [bus_master.z, upd]
    generalize hP : (encode f).1 = p at hp
    generalize hQ : (encode g).1 = q at hq
    refine Ev.loop (fun r (s : Int × (Option bus_Bus)) => ∃ (i : Nat) (ms : List bus_master), i ≤ n ∧ r = n - i ∧ s = ((i : Int), some ⟨ms⟩) ∧ BOk ms ∧ ms = (bs i).map (mk1 p q) ++ List.replicate (n - i) bus_master.z)
      (fun r s hi self hself => ?_) (n := n) (by omega) ⟨0, newB n, by omega, rfl, rfl, newB_ok (by omega), rfl⟩
    obtain ⟨i, ms, i1, i2, rfl, hB, hms⟩ := hi
    have hbl : (bs i).length = i := by simp [bs]
    have hml : ms.length = n := by rw [hms]; simp [hbl]; omega
    refine Ev.dec (fun hlt => ?_) (fun hge => ?_)
    · simp only at hlt
      have hz : ms[i]? = some bus_master.z := by
        rw [hms, List.getElem?_append_right (by simp [hbl]), List.length_map, hbl, Nat.sub_self, List.getElem?_replicate, if_pos (by omega)]
      have hset : ∀ y, ms.set i y = (bs i).map (mk1 p q) ++ (y :: List.replicate (n - (i + 1)) bus_master.z) := by
        intro y
        rw [hms, List.set_append_right _ _ (by simp [hbl])]
        rw [show n - i = (n - (i + 1)) + 1 by omega, List.replicate_succ]
        simp [hbl]
      have hbs : bs (i + 1) = bs i ++ [i % 2 == 1] := by simp [bs, List.range_succ]
      refine Ev.join (fun h => h = if i % 2 == 1 then g else f) (fun h hh => ?_) (fun j hj => ?_)
      · have hv : valid h = true := by rw [hh]; split <;> assumption
        have hd : ∀ x ∈ h.Data, byte x := by rw [hh]; split <;> assumption
        have he : (encode h).1 = if i % 2 == 1 then q else p := by rw [hh]; split <;> assumption
        refine Ev.to (a := ⟨ms⟩) rfl (Ev.to (Submit_eq hB hd (by omega)) ?_)
        have hpo := put_ok (n := (i : Int)) hB hd
        rw [hput ms i h hv (by omega) hz] at hpo ⊢
        refine Ev.bneF rfl (Ev.letP ?_)
        simp only
        rw [wi i (by omega)]
        refine hself (n - (i + 1)) _ (by omega) ⟨i + 1, ms.set i ⟨[(encode h).1], 0, false⟩, by omega, rfl, by simp, hpo, ?_⟩
        rw [hset, hbs, List.map_append, he]
        simp [mk1]
      · have htm : Int.tmod (i : Int) 2 = ((i % 2 : Nat) : Int) := by rw [Int.tmod_eq_emod_of_nonneg (by omega)]; omega
        refine Ev.beq (fun h => hj _ ?_) (fun h => hj _ ?_)
        · have : i % 2 = 1 := by simp only at h; rw [htm] at h; omega
          rw [this]; rfl
        · have : i % 2 = 0 := by simp only at h; rw [htm] at h; omega
          rw [this]; rfl
    · simp only at hge
      have hin : i = n := by omega
      subst hin
      have hms' : ms = (bs i).map (mk1 p q) := by rw [hms]; simp
      clear hms
      subst hms'
      have hz : byte Fault_.z.Mask := ⟨by decide, by decide⟩
      obtain ⟨ht, hf⟩ := bs_ne (n := i) (by omega)
      obtain ⟨hw, hwt⟩ := bs_all ⟨i, by omega⟩ (by simp only; omega)
      simp only at hw hwt
      have hbusy : busy ((bs i).map (mk1 p q)) = true := by
        unfold busy; rw [any_map, List.any_eq_true]; exact ⟨true, ht, by simp [wait, mk1]⟩
      have hst : start ((bs i).map (mk1 p q)) = (bs i).map (mk1 p q) := start_ready (by rw [any_map, List.any_eq_true]; exact ⟨true, ht, mk1_ready _ _ _⟩)
      have hfil : ((bs i).map (mk1 p q)).filter ready = (bs i).map (mk1 p q) := filter_all (fun x hx => by obtain ⟨b, _, rfl⟩ := List.mem_map.1 hx; exact mk1_ready _ _ _)
      have hheads : ((bs i).map (mk1 p q)).map qhead = (bs i).map (fun b => if b then q else p) := by rw [List.map_map]; rfl
      have hB2 := stepM_ok (f := Fault_.z) hB
      have hazero : ∀ x : List Int, arr x Fault_.z = x := fun x => by simp [arr, Fault_.z]
      refine Ev.to (a := ⟨_⟩) rfl (Ev.to (Step_eq hB hz (by omega)) ?_)
      rw [hbusy, hst]
      simp only [if_true]
      refine Ev.to (Step_eq hB2 hz (by omega)) ?_
      by_cases hpq : p = q
      · -- equal frames
        subst hpq
        have hl : least ((bs i).map (mk1 p p)) = p := by
          unfold least
          rw [hfil, hheads]
          exact minL_is (List.mem_map.2 ⟨true, ht, by simp⟩) (fun x hx hne => by obtain ⟨b, _, rfl⟩ := List.mem_map.1 hx; simp at hne)
        have hD : (stepD ((bs i).map (mk1 p p)) Fault_.z).Masters = who (fun _ => true) 0 (bs i) := by
          unfold stepD
          rw [hl]
          simp only
          rw [who_map]
          exact who_congr (fun b => by unfold pickd; rw [mk1_ready]; simp [mk1, qhead]) 0 _
        have hok : oks p = true := hp.2.2.2
        have hM : stepM ((bs i).map (mk1 p p)) Fault_.z = (bs i).map (fun _ => (⟨[], 0, true⟩ : bus_master)) := by
          unfold stepM
          rw [hl, hazero, hok, List.map_map]
          congr 1
          funext b
          have : pickd p (mk1 p p b) = true := by unfold pickd; rw [mk1_ready]; simp [mk1, qhead]
          simp only [Function.comp, stepF, this, if_true]
          simp [hit, mk1]
        have hnb : busy (stepM ((bs i).map (mk1 p p)) Fault_.z) = false := by
          rw [hM]
          unfold busy
          rw [any_map, List.any_eq_false]
          intro b _; simp [wait]
        rw [hnb, hD]
        refine Ev.join (fun s => s = false) (fun s hs => ?_) (fun j hj => Ev.iteF rfl (hj _ ?_))
        · subst hs
          refine Ev.iteF rfl (Ev.to (Compare_eq 10000 _ _ hp.1 hp.1) (Ev.beqT (cmpL_self p) ?_))
          refine Ev.join (fun s => s = true) (fun s hs => Ev.ret hs) (fun j hj => ?_)
          refine Ev.beqT (by rw [hwt]) (Ev.iteT rfl (Ev.to (awake_eq (by omega)) (hj _ rfl)))
        · rw [hwt, beq_eq_false_iff_ne]; omega
      · -- different frames: c tells which is the least
        have hne : cmpL p q ≠ 0 := fun e => hpq (cmpL_zero _ _ e)
        have han := cmpL_anti p q
        obtain ⟨c, hc⟩ : ∃ c : Bool, c = decide (cmpL p q > 0) := ⟨_, rfl⟩
        have hlt : ∀ b : Bool, b ≠ c → cmpL (if c then q else p) (if b then q else p) < 0 := by
          intro b hb
          cases c <;> cases b <;> simp at hb ⊢ <;> simp at hc <;> omega
        have hval : ∀ b : Bool, ((if b then q else p) = (if c then q else p)) ↔ b = c := by
          intro b
          cases c <;> cases b <;> simp [hpq, Ne.symm hpq]
        have hcm : c ∈ bs i := by cases c <;> assumption
        have hncm : (!c) ∈ bs i := by cases c <;> assumption
        have hl : least ((bs i).map (mk1 p q)) = if c then q else p := by
          unfold least
          rw [hfil, hheads]
          exact minL_is (List.mem_map.2 ⟨c, hcm, rfl⟩) (fun x hx hne => by obtain ⟨b, _, rfl⟩ := List.mem_map.1 hx; exact hlt b (fun e => hne ((hval b).2 e)))
        have hpk : ∀ b, pickd (if c then q else p) (mk1 p q b) = (b == c) := by
          intro b
          unfold pickd
          rw [mk1_ready]
          have : qhead (mk1 p q b) = if b then q else p := rfl
          rw [this, Bool.true_and]
          have h2 := hval b
          by_cases hbc : b = c
          · rw [decide_eq_true (h2.2 hbc), hbc]; simp
          · rw [decide_eq_false (fun e => hbc (h2.1 e))]; exact (beq_eq_false_iff_ne.2 hbc).symm
        have hD : (stepD ((bs i).map (mk1 p q)) Fault_.z).Masters = who (fun b => b == c) 0 (bs i) := by
          unfold stepD
          rw [hl]
          simp only
          rw [who_map]
          exact who_congr hpk 0 _
        have hok : oks (if c then q else p) = true := by split; exact hq.2.2.2; exact hp.2.2.2
        have hM : stepM ((bs i).map (mk1 p q)) Fault_.z = (bs i).map (off1 p q c) := by
          unfold stepM
          rw [hl, hazero, hok, List.map_map]
          congr 1
          funext b
          simp only [Function.comp, stepF, hpk, off1]
          split
          · simp [hit, mk1]
          · rfl
        have hbz2 : busy ((bs i).map (off1 p q c)) = true := by
          unfold busy; rw [any_map, List.any_eq_true]; exact ⟨!c, hncm, by cases c <;> simp [wait, off1, mk1]⟩
        have hst2 : start ((bs i).map (off1 p q c)) = (bs i).map (off1 p q c) := start_ready (by rw [any_map, List.any_eq_true]; exact ⟨!c, hncm, by rw [off1_ready]; cases c <;> rfl⟩)
        have hl2 : least ((bs i).map (off1 p q c)) = if c then p else q := by
          unfold least
          refine minL_is ?_ ?_
          · refine List.mem_map.2 ⟨off1 p q c (!c), List.mem_filter.2 ⟨List.mem_map.2 ⟨!c, hncm, rfl⟩, by rw [off1_ready]; cases c <;> rfl⟩, ?_⟩
            cases c <;> rfl
          · intro x hx hne
            obtain ⟨m, hm, rfl⟩ := List.mem_map.1 hx
            obtain ⟨hm1, hm2⟩ := List.mem_filter.1 hm
            obtain ⟨b, hb, rfl⟩ := List.mem_map.1 hm1
            rw [off1_ready] at hm2
            exfalso
            apply hne
            cases c <;> cases b <;> simp at hm2 <;> rfl
        have hD2 : (stepD ((bs i).map (off1 p q c)) Fault_.z).Masters = who (fun b => b == !c) 0 (bs i) := by
          unfold stepD
          rw [hl2]
          simp only
          rw [who_map]
          refine who_congr (fun b => ?_) 0 _
          unfold pickd
          rw [off1_ready]
          cases c <;> cases b <;> simp [off1, mk1, qhead]
        rw [hM, hbz2, hst2]
        simp only [if_true]
        rw [hD, hD2]
        obtain ⟨w1, w2⟩ := hw c
        obtain ⟨w3, w4⟩ := hw (!c)
        obtain ⟨z1, t1, hz1⟩ : ∃ z t, who (fun b => b == c) 0 (bs i) = z :: t := by
          cases hx : who (fun b => b == c) 0 (bs i) with
          | nil => rw [hx] at w2; simp at w2
          | cons z t => exact ⟨z, t, rfl⟩
        obtain ⟨z2, t2, hz2⟩ : ∃ z t, who (fun b => b == !c) 0 (bs i) = z :: t := by
          cases hx : who (fun b => b == !c) 0 (bs i) with
          | nil => rw [hx] at w4; simp at w4
          | cons z t => exact ⟨z, t, rfl⟩
        rw [hz1, hz2] at w1
        rw [hz1] at w2
        rw [hz2] at w4
        simp only [List.head?_cons, Option.some.injEq] at w2 w4
        rw [hz1, hz2]
        refine Ev.join (fun s => s = false) (fun s hs => ?_) (fun j hj => Ev.iteF rfl (hj _ ?_))
        · subst hs
          refine Ev.iteF rfl (Ev.to (Compare_eq 10000 _ _ hp.1 hq.1) (Ev.beqF hne ?_))
          refine Ev.join (fun s => s = if c then 1 else 0) (fun s hs => ?_) (fun j hj => ?_)
          · refine Ev.to (a := z1) rfl (Ev.beqT (by rw [w2, hs]) ?_)
            refine Ev.beqT ?_ (Ev.iteT rfl (Ev.decT (by simp only [List.length_cons]; omega) (Ev.to (a := z2) rfl (Ev.beqT ?_ (Ev.to (awake_eq (by omega)) (Ev.ret rfl))))))
            · rw [w_i64 (by omega) (by omega)]; omega
            · rw [w4, hs]; cases c <;> decide
          · refine Ev.dec (fun h => hj _ ?_) (fun h => hj _ ?_)
            · rw [hc, decide_eq_true h]; rfl
            · rw [hc, decide_eq_false h]; rfl
        · simp only [List.length_cons]; rw [beq_eq_false_iff_ne]; omega
  · refine Ev.not (Ev.dec (fun h => ?_) (fun h => hj _ (by simp)))
    refine Ev.to (Light_eq 10000 a1) (hj _ (fun h2 => ?_))
    simp only [Bool.not_eq_false', decide_eq_true_eq] at h2
    omega
end Lift
