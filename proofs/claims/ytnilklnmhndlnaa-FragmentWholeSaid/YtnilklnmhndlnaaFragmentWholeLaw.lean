/- The plain law of FragmentWhole. uses: base lists ev each dice dicebytes frag fragb fragm fraga fragw
-/
import Derived.Test.YtnilklnmhndlnaaFragw
set_option linter.unusedVariables false
set_option linter.unusedSimpArgs false
namespace Lift
open Go
def tot (gs : List Mg) : Nat := (gs.map Mg.N).sum
/-- No message has had more packets than it has. -/
def Bd : List Mg → List Nat → Prop
  | [], [] => True
  | g :: gs, t :: ts => t ≤ g.N ∧ Bd gs ts
  | _, _ => False
theorem Bd.sum : ∀ {gs : List Mg} {ts : List Nat}, Bd gs ts → ts.sum ≤ tot gs
  | [], [], _ => by simp [tot]
  | g :: gs, t :: ts, h => by have := Bd.sum h.2; simp only [tot, List.map_cons, List.sum_cons] at *; have := h.1; omega
theorem Bd.at : ∀ {gs : List Mg} {ts : List Nat} {i : Nat} {g : Mg}, Bd gs ts → gs[i]? = some g → ∃ t, ts[i]? = some t ∧ t ≤ g.N
  | g :: gs, t :: ts, 0, g', h, hg => by simp at hg; subst hg; exact ⟨t, rfl, h.1⟩
  | g :: gs, t :: ts, i + 1, g', h, hg => by simpa using Bd.at h.2 (by simpa using hg)
theorem Bd.less : ∀ {gs : List Mg} {ts : List Nat}, Bd gs ts → ts.sum < tot gs → ∃ (i : Nat) (g : Mg) (t : Nat), gs[i]? = some g ∧ ts[i]? = some t ∧ t < g.N
  | [], [], _, h => by simp [tot] at h
  | g :: gs, t :: ts, hb, h => by
    by_cases hlt : t < g.N
    · exact ⟨0, g, t, rfl, rfl, hlt⟩
    · obtain ⟨i, g', t', h1, h2, h3⟩ := Bd.less hb.2 (by simp only [tot, List.map_cons, List.sum_cons] at *; have := hb.1; omega)
      exact ⟨i + 1, g', t', by simpa using h1, by simpa using h2, h3⟩
theorem Bd.full : ∀ {gs : List Mg} {ts : List Nat}, Bd gs ts → ts.sum = tot gs → ∀ (i : Nat) (g : Mg) (t : Nat), gs[i]? = some g → ts[i]? = some t → t = g.N
  | g :: gs, t :: ts, hb, h, i, g', t', h1, h2 => by
    have hs := Bd.sum hb.2
    simp only [tot, List.map_cons, List.sum_cons] at *
    have := hb.1
    cases i with
    | zero => simp at h1 h2; subst h1 h2; omega
    | succ i => exact Bd.full hb.2 (by simp only [tot]; omega) i g' t' (by simpa using h1) (by simpa using h2)
  | [], [], _, _, i, g', t', h1, _ => by simp at h1
theorem Bd.step : ∀ {gs : List Mg} {ts : List Nat} {i : Nat} {g : Mg} {t : Nat}, Bd gs ts → gs[i]? = some g → ts[i]? = some t → t < g.N → Bd gs (ts.set i (t + 1)) ∧ (ts.set i (t + 1)).sum = ts.sum + 1
  | g :: gs, t :: ts, 0, g', t', hb, h1, h2, h3 => by
    simp at h1 h2; subst h1 h2
    exact ⟨⟨h3, hb.2⟩, by simp; omega⟩
  | g :: gs, t :: ts, i + 1, g', t', hb, h1, h2, h3 => by
    obtain ⟨a, b⟩ := Bd.step hb.2 (by simpa using h1) (by simpa using h2) h3
    refine ⟨⟨hb.1, a⟩, ?_⟩
    simp only [List.set_cons_succ, List.sum_cons, b]; omega
theorem Bd.zero : ∀ gs : List Mg, Bd gs (List.replicate gs.length 0)
  | [] => trivial
  | g :: gs => ⟨Nat.zero_le _, Bd.zero gs⟩
theorem Bd.len : ∀ {gs : List Mg} {ts : List Nat}, Bd gs ts → ts.length = gs.length
  | [], [], _ => rfl
  | g :: gs, t :: ts, h => by simp [Bd.len h.2]
def pks (g : Mg) : List Packet_ := pkts 9 g.frm g.ow g.tag g.k g.m
theorem pks_len (g : Mg) : (pks g).length = g.N := by simp [pks, pkts, Mg.N]
theorem pks_at {g : Mg} {t : Nat} (h : t < g.N) : (pks g)[t]? = some (g.p t) := by simp [pks, pkts, List.getElem?_range (show t < nsp g.k g.m from h), Mg.p]
theorem tot_le {gs : List Mg} (h : GS gs) (h2 : ∀ g ∈ gs, g.m.length ≤ 40) : tot gs ≤ 40 * gs.length := by
  have : ∀ (l : List Mg), (∀ g ∈ l, g.N ≤ 40) → (l.map Mg.N).sum ≤ 40 * l.length := by
    intro l
    induction l with
    | nil => intro _; simp
    | cons g l ih =>
      intro h
      have := ih (fun x hx => h x (by simp [hx]))
      have := h g (by simp)
      simp only [List.map_cons, List.sum_cons, List.length_cons]; omega
  refine this gs (fun g hg => ?_)
  obtain ⟨i, hi⟩ := List.mem_iff_getElem?.1 hg
  have := nsp_le (h i g hi).1.k1 g.m
  have := h2 g hg
  unfold Mg.N; omega
theorem law22_FragmentWhole_true (a0 a1 : List Int) (o0 : okL (okI .i64) a0) (o1 : okL (okI .i64) a1) : ∃ fuel, law22_FragmentWhole fuel a0 a1 = some true := by
  refine ⟨10000, Ev.isTrue ?_⟩
  unfold law22_FragmentWhole
  rw [Light_eq, bindP_some, joinP]
  have skip : Ev (bindP (law22_awake 10000) fun y2 => some y2) (fun b => b = true) := Ev.to awake22 (Ev.ret rfl)
  refine Ev.not (Ev.dec (fun h0 => ?_) (fun _ => skip))
  refine Ev.dec (fun _ => skip) (fun h1 => ?_)
  have n1 : fragment_New 10000 9 = some (some ⟨9, []⟩, 0) := FNew_eq 10000 9
  rw [Roll_eq, bindP_some, n1, bindP_some, joinP]
  refine Ev.iteF rfl (Ev.iteF rfl ?_)
  obtain ⟨r5, d5, e5, q1, q2, hd5⟩ := Next_ok 10000 (roll_ok (l := a0) (by omega)) (m := 8) (by omega) (by omega)
  rw [e5, bindP_some, wr (by omega), letP_eq]
  obtain ⟨n, hn⟩ : ∃ n : Nat, 1 + r5 = n := ⟨(1 + r5).toNat, by omega⟩
  rw [hn]
  refine Ev.loop (fun q (s : Int × Int × made_Dice × List (List Int) × List (List Packet_)) => ∃ gs : List Mg, gs.length ≤ n ∧ q = n - gs.length ∧ s.1 = ((tot gs : Nat) : Int) ∧ s.2.1 = (gs.length : Int) ∧ DOk s.2.2.1 ∧ s.2.2.2.1 = gs.map (·.m) ∧ s.2.2.2.2 = gs.map pks ∧ GS gs ∧ (∀ g ∈ gs, g.m.length ≤ 40)) (fun q s hs self hself => ?_) (n := n) (by omega)
    ⟨[], by simp, by simp, rfl, rfl, hd5, rfl, rfl, fun i g h => (by simp at h), fun g h => (by cases h)⟩
  obtain ⟨gs, hgl, hq, hs1, hs2, hs3, hs4, hs5, hgs, hg40⟩ := hs
  obtain ⟨s1, s2, d, dat, pk⟩ := s
  simp only at hs1 hs2 hs3 hs4 hs5
  subst hs1 hs2 hs4 hs5
  have htot := tot_le hgs hg40
  by_cases hlt : gs.length < n
  · refine Ev.decT (by simp only; omega) ?_
    obtain ⟨m, d6, e6, hm1, hm2, hmb, hd6⟩ := message_ok (fuel := 10000) (by omega) hs3 (n := 40) (by omega) (by omega)
    obtain ⟨tg, d7, e7, t1, t2, hd7⟩ := Next_ok 10000 hd6 (m := 8) (by omega) (by omega)
    obtain ⟨r8, d8, e8, u1, u2, hd8⟩ := Next_ok 10000 hd7 (m := 9) (by omega) (by omega)
    dsimp only
    rw [e6, bindP_some, e7, bindP_some, e8, bindP_some, wr (n := 1 + r8) (by omega)]
    obtain ⟨k, hk⟩ : ∃ k : Nat, 1 + r8 = k := ⟨(1 + r8).toNat, by omega⟩
    have hfr : IntKind.u8.wrap (IntKind.i64.wrap (10 + (IntKind.i64.wrap (Int.tdiv ((gs.length : Nat) : Int) 2)))) = 10 + ((gs.length / 2 : Nat) : Int) := by
      rw [Int.tdiv_eq_ediv_of_nonneg (by omega), wr (n := ((gs.length : Nat) : Int) / 2) (by omega), wr (by omega), w_u8]; omega
    have how : ((Int.tmod ((gs.length : Nat) : Int) 2) == 0) = decide (gs.length % 2 = 0) := by
      rw [Int.tmod_eq_emod_of_nonneg (by omega), Bool.eq_iff_iff]; simp; omega
    rw [hk, hfr, how, Split_eq (by omega), bindP_some]
    have hen : endp (10 + ((gs.length / 2 : Nat) : Int)) = true := by simp only [endp, decide_eq_true_eq]; omega
    have hs : splitR 9 (10 + ((gs.length / 2 : Nat) : Int)) (decide (gs.length % 2 = 0)) tg (k : Int) m = (pks ⟨10 + ((gs.length / 2 : Nat) : Int), decide (gs.length % 2 = 0), tg, k, m⟩, 0) := by
      unfold splitR
      rw [hen, if_neg (by decide), if_neg (by omega), if_neg (by omega), if_neg (by omega)]; rfl
    rw [hs]
    refine Ev.bneF rfl ?_
    dsimp only
    have hml : m.length ≤ 40 := by omega
    have hNl : (pks ⟨10 + ((gs.length / 2 : Nat) : Int), decide (gs.length % 2 = 0), tg, k, m⟩).length ≤ 40 := by
      rw [pks_len]; have := nsp_le (k := k) (by omega) m; show nsp k m ≤ 40; omega
    rw [app_ok (by simp; omega), bindP_some, app_ok (by simp; omega), bindP_some, wr (by omega), letP_eq, wr (by omega), letP_eq]
    refine hself (n - (gs.length + 1)) _ (by omega) ⟨gs ++ [⟨10 + ((gs.length / 2 : Nat) : Int), decide (gs.length % 2 = 0), tg, k, m⟩], by simp; omega, by simp, ?_, by simp, hd8, by simp, by simp, fun i g h => ?_, fun g h => ?_⟩
    · simp only [tot, List.map_append, List.map_cons, List.map_nil, List.sum_append, List.sum_cons, List.sum_nil, pks_len]; omega
    · by_cases hi : i < gs.length
      · rw [List.getElem?_append_left hi] at h; exact hgs i g h
      · have := lt_len h
        simp at this
        have hi' : i = gs.length := by omega
        subst hi'
        simp at h; subst h
        exact ⟨⟨by simp only; omega, by simp only; omega, by simp only; omega, by simp only; omega, hmb, hen, t1, t2⟩, rfl, rfl⟩
    · rcases List.mem_append.1 h with h | h
      · exact hg40 g h
      · simp at h; subst h; exact hml
  have hgn : gs.length = n := by omega
  refine Ev.decF (by simp only; omega) ?_
  dsimp only
  have hmk : mk 8 (0 : Int) (n : Int) = some (List.replicate n 0) := by simp [mk]; omega
  rw [hmk, bindP_some]
  refine Ev.loop (fun q (s : List (List Int) × List (List Packet_) × Int × Int × List Int × Option fragment_Assembler) => ∃ (ts : List Nat) (a : fragment_Assembler) (kk : Nat), s = (gs.map (·.m), gs.map pks, (q : Int), (kk : Int), ts.map (fun (x : Nat) => (x : Int)), some a) ∧ q + ts.sum = tot gs ∧ kk = ts.sum ∧ Bd gs ts ∧ AR a ∧ a.own = 9 ∧ WI gs ts a.open_) (fun q s hs self hself => ?_) (n := tot gs) (by omega)
    ⟨List.replicate n 0, ⟨9, []⟩, 0, by simp, by simp, by simp, by rw [← hgn]; exact Bd.zero gs, new_AR 9, rfl, by simp, fun o h => (by cases h), fun i g t h1 h2 h3 _ => by
      rw [List.getElem?_replicate] at h2; split at h2 <;> simp at h2; omega⟩
  obtain ⟨ts, a, kk, rfl, hsum, rfl, hbd, hA, ho, hw⟩ := hs
  have htl := hbd.len
  by_cases hq0 : 0 < q
  · refine Ev.decT (by simp only; omega) ?_
    obtain ⟨i0, g0, t0, w1, w2, w3⟩ := hbd.less (by omega)
    have hi0 := lt_len w1
    have hsm := hbd.sum
    refine Ev.join (fun s : Int => ∃ i : Nat, s = (i : Int) ∧ i < n) (fun s hs => ?_) (fun j hj => ?_)
    · obtain ⟨i, rfl, hin⟩ := hs
      refine Ev.loop (fun q2 (s6 : Int) => ∃ i : Nat, s6 = (i : Int) ∧ i < n ∧ q2 = if i ≤ i0 then i0 - i else i0 + n - i) (fun q2 s6 h6 self2 hself2 => ?_) (n := if i ≤ i0 then i0 - i else i0 + n - i) (by split <;> omega) ⟨i, rfl, hin, rfl⟩
      obtain ⟨i, rfl, hin, hq2⟩ := h6
      obtain ⟨g, hg⟩ : ∃ g, gs[i]? = some g := ⟨_, List.getElem?_eq_getElem (by omega)⟩
      obtain ⟨t, ht, htN⟩ := hbd.at hg
      have x7 : idx (ts.map (fun (x : Nat) => (x : Int))) (i : Int) = some (t : Int) := by rw [idx_nat, List.getElem?_map, ht]; rfl
      have x8 : idx (gs.map pks) (i : Int) = some (pks g) := by rw [idx_nat, List.getElem?_map, hg]; rfl
      dsimp only
      rw [x7, bindP_some, x8, bindP_some, pks_len]
      refine Ev.dec (fun hge => ?_) (fun hnge => ?_)
      · have hne : i ≠ i0 := fun e => by subst e; rw [w1] at hg; rw [w2] at ht; simp at hg ht; subst hg ht; omega
        rw [show decide ((n : Int) ≠ 0) = true by simp; omega, chk_true, bindP_some, wr (by omega), letP_eq]
        have hm : Int.tmod ((i : Int) + 1) (n : Int) = (((i + 1) % n : Nat) : Int) := by
          rw [Int.tmod_eq_emod_of_nonneg (by omega)]; simp
        rw [hm]
        have hmod : (i + 1) % n = if i + 1 = n then 0 else i + 1 := by
          split
          · rename_i e; rw [e, Nat.mod_self]
          · exact Nat.mod_eq_of_lt (by omega)
        refine hself2 (if (i + 1) % n ≤ i0 then i0 - (i + 1) % n else i0 + n - (i + 1) % n) _ ?_ ⟨(i + 1) % n, rfl, Nat.mod_lt _ (by omega), rfl⟩
        rw [hmod]
        split at hq2 <;> split <;> split <;> omega
      · have hlt2 : t < g.N := by omega
        have hok := (hgs i g hg).1
        have hv := hok.v hlt2
        have hpb : ∀ x ∈ (g.p t).Data, byte x := fun x hx => hok.mb x (List.mem_of_mem_drop (List.mem_of_mem_take hx))
        have hpl : (g.p t).Data.length ≤ 64 := (validB_num hv).2.2.2.2.2
        have x12 : idx (pks g) (t : Int) = some (g.p t) := by rw [idx_nat, pks_at hlt2]
        have hE2 : (encR (g.p t)).2 = 0 := by simp only [encR, hv, if_true]
        rw [bindP_some, bindP_some, x12, bindP_some, Encode_eq (by omega), bindP_some, Decode_eq (by omega) (encR_len (by omega)) (encR_byte hv hpb), bindP_some, dec_enc hv, bindP_some, Accept_eq (by omega) hA, bindP_some, bindP_some, bindP_some]
        obtain ⟨v1, v2, v3, v4⟩ := WI.step hgs (by omega) hw ho hg ht hlt2
        obtain ⟨b1, b2⟩ := hbd.step hg ht hlt2
        have hAE := hA.acc (g.p t)
        have hset : upd (ts.map (fun (x : Nat) => (x : Int))) (i : Int) (IntKind.i64.wrap ((t : Int) + 1)) = (ts.set i (t + 1)).map (fun (x : Nat) => (x : Int)) := by
          rw [wr (by have := nsp_le hok.k1 g.m; have := hok.m2; have : g.N ≤ 500 := by unfold Mg.N; omega
                     omega)]
          simp [upd, List.map_set]
        dsimp only
        rw [hset, letP_eq, wr (by omega), letP_eq]
        have x25 : idx ((ts.set i (t + 1)).map (fun (x : Nat) => (x : Int))) (i : Int) = some ((t + 1 : Nat) : Int) := by
          have := lt_len ht
          rw [idx_nat, List.getElem?_map]; simp [this]
        rw [joinP, letP_eq]
        refine Ev.bneF hE2 ?_
        rw [letP_eq]
        refine Ev.bneF rfl ?_
        rw [letP_eq]
        refine Ev.bneF v2 ?_
        rw [x25, bindP_some, bindP_some, pks_len]
        refine Ev.iteF (by rw [v1]; simp only [bne_eq_false_iff_eq]; rw [Bool.eq_iff_iff]; simp; omega) ?_
        have go : Ev (self (gs.map (·.m), gs.map pks, (q : Int) - 1, IntKind.i64.wrap (((ts.sum : Nat) : Int) + 1), (ts.set i (t + 1)).map (fun (x : Nat) => (x : Int)), some (acc a (g.p t)).2.2.2)) (fun b => b = true) := by
          rw [wr (by omega)]
          exact hself (q - 1) _ (by omega) ⟨ts.set i (t + 1), _, ts.sum + 1, by rw [show ((q : Int) - 1) = ((q - 1 : Nat) : Int) by omega]; rfl, by omega, b2.symm, b1, hAE.1, hAE.2.trans ho, v4⟩
        rw [joinP, letP_eq]
        cases hd : (acc a (g.p t)).2.1 with
        | false => exact Ev.iteF rfl (Ev.iteF rfl go)
        | true =>
          have hw1 := v3 hd
          obtain ⟨_, f1, f2⟩ := hgs i g hg
          have x19 : idx (gs.map (·.m)) (i : Int) = some g.m := by rw [idx_nat, List.getElem?_map, hg]; rfl
          have hm2 := hok.m2
          refine Ev.iteT rfl ?_
          rw [x19, bindP_some, hw1, Same_eq (by simp only; omega) (by simp only; omega), bindP_some]
          refine Ev.iteF (by simp) ?_
          have hfr : IntKind.u8.wrap (IntKind.i64.wrap (10 + (IntKind.i64.wrap (Int.tdiv (i : Int) 2)))) = 10 + ((i / 2 : Nat) : Int) := by
            rw [Int.tdiv_eq_ediv_of_nonneg (by omega), wr (n := (i : Int) / 2) (by omega), wr (by omega), w_u8]; omega
          have how : ((Int.tmod (i : Int) 2) == 0) = decide (i % 2 = 0) := by
            rw [Int.tmod_eq_emod_of_nonneg (by omega), Bool.eq_iff_iff]; simp; omega
          rw [letP_eq, hfr]
          refine Ev.bneF f1 ?_
          rw [how]
          exact Ev.iteF (by simp [f2]) go
    · refine Ev.dec (fun hlt => ?_) (fun _ => hj 0 ⟨0, rfl, by omega⟩)
      obtain ⟨x, hx⟩ : ∃ x, idx a1 ((ts.sum : Nat) : Int) = some x := by rw [idx_nat]; exact ⟨_, List.getElem?_eq_getElem (by simp only at hlt; omega)⟩
      dsimp only
      rw [hx, bindP_some, Mod_eq 10000 (by omega) (by omega), bindP_some]
      exact hj _ ⟨(x % (n : Int)).toNat, by have := Int.emod_nonneg x (show (n : Int) ≠ 0 by omega); omega, by have := Int.emod_lt_of_pos x (show (0 : Int) < (n : Int) by omega); have := Int.emod_nonneg x (show (n : Int) ≠ 0 by omega); omega⟩
  · refine Ev.decF (by simp only; omega) ?_
    dsimp only
    have hfull := hbd.full (by omega)
    have hnil : a.open_ = [] := by
      cases ho2 : a.open_ with
      | nil => rfl
      | cons o l =>
        obtain ⟨i, g, t, z1, z2, z3, z4, _⟩ := hw.of o (by rw [ho2]; simp)
        have := hfull i g t z1 z2; omega
    have hO : fragment_Assembler_Open 10000 a = some 0 := by
      show some ((a.open_.length : Nat) : Int) = _
      rw [hnil]; rfl
    rw [bindP_some, hO, bindP_some]
    exact Ev.iteT rfl skip
end Lift
