/- Several messages at once, packet by packet. No program in sight. -/
import Derived.Test.YtnilklnmhndlnaaFraga
set_option linter.unusedVariables false
set_option linter.unusedSimpArgs false
namespace Lift
open Go
/-- A message, and how it is cut. -/
structure Mg where
  frm : Int
  ow : Bool
  tag : Int
  k : Nat
  m : List Int
def Mg.N (g : Mg) : Nat := nsp g.k g.m
def Mg.p (g : Mg) (i : Nat) : Packet_ := pkt 9 g.frm g.ow g.tag g.k g.m i
def Mg.o (g : Mg) (j : Nat) : fragment_open := ⟨⟨g.frm, g.ow, g.tag, g.m.take (j * g.k)⟩, ((piece g.k g.m 0).length : Int), (((j + 3) % 4 : Nat) : Int)⟩
structure Mg.ok (g : Mg) : Prop where
  k1 : 0 < g.k
  k2 : g.k ≤ 64
  m1 : 0 < g.m.length
  m2 : g.m.length ≤ 500
  mb : ∀ x ∈ g.m, byte x
  e : endp g.frm = true
  t : 0 ≤ g.tag ∧ g.tag < 8
theorem Mg.ok.v {g : Mg} (h : g.ok) {i : Nat} (hi : i < g.N) : validB (g.p i) = true := by
  have h1 := (nsp_lt h.k1).1 hi
  have hpl := piece_len (k := g.k) (xs := g.m) (i := i)
  have hk := h.k1
  have hk2 := h.k2
  have hn : vnum (g.p i) = true := decide_eq_true ⟨by simp only [Mg.p, pkt]; omega, by simp only [Mg.p, pkt]; omega, h.t.1, h.t.2, by show 1 ≤ (piece g.k g.m i).length; rw [hpl]; omega, by show (piece g.k g.m i).length ≤ 64; rw [hpl]; omega⟩
  show (endp 9 && (endp g.frm && vnum _)) = true
  rw [hn, h.e]; decide
theorem g_first {g : Mg} (h : g.ok) {a : fragment_Assembler} (ho : a.own = 9) (hno : ∀ x ∈ a.open_, fkey (g.p 0) x = false) (hl : a.open_.length < 8) :
    acc a (g.p 0) = if g.N = 1 then (⟨g.frm, g.ow, g.tag, g.m⟩, true, 0, a) else (Whole_.z, false, 0, { a with open_ := a.open_ ++ [g.o 1] }) := by
  have hpos : 0 < g.N := nsp_pos h.k1 h.m1
  have hlast := nsp_last h.k1 (xs := g.m) (i := 0) (by simpa using h.m1)
  have hf : ffind a.open_ (g.p 0) = -1 := by
    rcases ffind_cases a.open_ (g.p 0) with ⟨h1, _⟩ | ⟨i, x, _, h2, h3⟩
    · exact h1
    · have := hno x (List.mem_of_getElem? h2); rw [h3] at this; cases this
  have hd : dropped a.open_ (g.p 0) = a.open_ := by simp [dropped, hf]
  have hr : room a.open_ = a.open_ := by unfold room; rw [if_neg (by omega)]
  unfold acc
  rw [h.v hpos, if_neg (by simp), if_neg (by simp [Mg.p, pkt, ho]), if_pos (by simp [Mg.p, pkt]), hd, hr]
  have hend : (g.p 0).End = decide (0 + 1 = g.N) := rfl
  rw [hend]
  simp only [Nat.zero_mul, Nat.zero_add] at hlast
  by_cases hN : g.N = 1
  · rw [if_pos hN, if_pos (by simp [hN])]
    have hm : g.m.take g.k = g.m := List.take_of_length_le (hlast.1 hN.symm)
    simp only [wof, Mg.p, pkt, piece, Nat.zero_mul, List.drop_zero, hm]
  · rw [if_neg hN, if_neg (by simp; omega)]
    simp only [oof, wof, Mg.p, Mg.o, pkt, piece, Nat.zero_mul, List.drop_zero, Nat.one_mul]
theorem g_next {g : Mg} (h : g.ok) {a : fragment_Assembler} (ho : a.own = 9) {i x : Nat} (hi : 1 ≤ i) (hN : i < g.N) (hx : a.open_[x]? = some (g.o i)) (hf : ffind a.open_ (g.p i) = (x : Int)) :
    acc a (g.p i) = if i + 1 = g.N then (⟨g.frm, g.ow, g.tag, g.m⟩, true, 0, { a with open_ := fdel a.open_ x }) else (Whole_.z, false, 0, { a with open_ := a.open_.set x (g.o (i + 1)) }) := by
  have hk := h.k1
  have hk2 := h.k2
  have hm2 := h.m2
  have h1 := (nsp_lt hk).1 hN
  have hlast := nsp_last hk h1
  have hpl := piece_len (k := g.k) (xs := g.m) (i := i)
  have hpl0 := piece_len (k := g.k) (xs := g.m) (i := 0)
  simp only [Nat.zero_mul, Nat.sub_zero] at hpl0
  have hg : a.open_.getD x fragment_open.z = g.o i := by rw [List.getD_eq_getElem?_getD, hx]; rfl
  have htake : g.m.take (i * g.k) ++ piece g.k g.m i = g.m.take ((i + 1) * g.k) := by rw [piece, Nat.add_mul, Nat.one_mul, List.take_add]
  have hb : bad (g.o i) (g.p i) = false := by
    have s1 : ((g.p i).Sequence != ((g.o i).last + 1) % 4) = false := by
      simp only [Mg.p, Mg.o, pkt, bne_eq_false_iff_eq]; omega
    have s2 : decide ((g.o i).size < ((g.p i).Data.length : Int)) = false := by
      simp only [Mg.o, Mg.p, pkt, hpl, hpl0, decide_eq_false_iff_not]; omega
    have s3 : (decide (((g.p i).Data.length : Int) < (g.o i).size) && !(g.p i).End) = false := by
      by_cases hN : i + 1 = g.N
      · have : (g.p i).End = true := decide_eq_true hN
        rw [this]; simp
      · have : ¬ g.m.length ≤ i * g.k + g.k := fun h => hN (hlast.2 h)
        have : decide (((g.p i).Data.length : Int) < (g.o i).size) = false := by
          simp only [Mg.o, Mg.p, pkt, hpl, hpl0, decide_eq_false_iff_not]; omega
        rw [this]; rfl
    simp only [bad, s1, s2, s3]; rfl
  have hlen : (g.o i).whole.Data.length = i * g.k := by simp only [Mg.o, List.length_take]; omega
  have hg2 : (grown (g.o i) (g.p i)).whole = ⟨g.frm, g.ow, g.tag, g.m.take ((i + 1) * g.k)⟩ := by simp only [grown, Mg.o, Mg.p, pkt, htake]
  have e1 : (i + 1) * g.k = i * g.k + g.k := by rw [Nat.add_mul, Nat.one_mul]
  unfold acc
  rw [h.v hN, if_neg (by simp), if_neg (by simp [Mg.p, pkt, ho]), if_neg (by simp [Mg.p, pkt]; omega), hf, if_neg (by omega)]
  simp only [Int.toNat_natCast, hg, hb]
  rw [if_neg (by simp), if_neg (by rw [hlen]; simp only [Mg.p, pkt, hpl]; omega)]
  have hend : (g.p i).End = decide (i + 1 = g.N) := rfl
  rw [hend]
  by_cases hN : i + 1 = g.N
  · rw [if_pos (by simpa using hN), if_pos hN, hg2, List.take_of_length_le (by have := hlast.1 hN; omega)]
  · rw [if_neg (by simpa using hN), if_neg hN]
    have : grown (g.o i) (g.p i) = ⟨(grown (g.o i) (g.p i)).whole, ((piece g.k g.m 0).length : Int), ((i % 4 : Nat) : Int)⟩ := rfl
    rw [this, hg2]
    have : g.o (i + 1) = ⟨⟨g.frm, g.ow, g.tag, g.m.take ((i + 1) * g.k)⟩, ((piece g.k g.m 0).length : Int), ((i % 4 : Nat) : Int)⟩ := by
      simp only [Mg.o, fragment_open.mk.injEq, true_and]; omega
    rw [this]
theorem nodup_len {l : List Int} : ∀ {m : List Int}, l.Nodup → (∀ x ∈ l, x ∈ m) → l.length ≤ m.length := by
  induction l with
  | nil => intro m _ _; simp
  | cons x l ih =>
    intro m hn hs
    have hx := hs x (by simp)
    obtain ⟨h1, h2⟩ := List.nodup_cons.1 hn
    have := ih (m := m.erase x) h2 (fun y hy => (List.mem_erase_of_ne (fun e => h1 (by rw [← e]; exact hy))).2 (hs y (by simp [hy])))
    have h3 := List.length_erase_of_mem hx
    have h4 := List.length_pos_of_mem hx
    simp only [List.length_cons]; omega

def ix (o : fragment_open) : Int := 2 * (o.whole.From - 10) + (if o.whole.Owner = true then 0 else 1)
structure WI (gs : List Mg) (at_ : List Nat) (l : List fragment_open) : Prop where
  nd : (l.map ix).Nodup
  of : ∀ o ∈ l, ∃ (i : Nat) (g : Mg) (t : Nat), gs[i]? = some g ∧ at_[i]? = some t ∧ 1 ≤ t ∧ t < g.N ∧ o = g.o t
  to : ∀ (i : Nat) (g : Mg) (t : Nat), gs[i]? = some g → at_[i]? = some t → 1 ≤ t → t < g.N → g.o t ∈ l
def GS (gs : List Mg) : Prop := ∀ (i : Nat) (g : Mg), gs[i]? = some g → g.ok ∧ g.frm = 10 + ((i / 2 : Nat) : Int) ∧ g.ow = decide (i % 2 = 0)
theorem ix_o {gs : List Mg} (h : GS gs) {i : Nat} {g : Mg} (hg : gs[i]? = some g) (t : Nat) : ix (g.o t) = (i : Int) := by
  obtain ⟨_, h1, h2⟩ := h i g hg
  simp only [ix, Mg.o, h1, h2, decide_eq_true_eq]
  split <;> omega
theorem key_ix {g g' : Mg} {s t u : Nat} (h : fkey (g.p s) (g'.o t) = true) : ix (g'.o t) = ix (g.o u) := by
  simp only [fkey, Mg.p, Mg.o, pkt, Bool.and_eq_true, beq_iff_eq] at h
  show 2 * (g'.frm - 10) + (if g'.ow = true then 0 else 1) = 2 * (g.frm - 10) + (if g.ow = true then (0 : Int) else 1)
  rw [h.1, h.2.1]
theorem key_self (g : Mg) (s t : Nat) : fkey (g.p s) (g.o t) = true := by simp [fkey, Mg.p, Mg.o, pkt]
theorem mem_fdel {α : Type} {l : List α} {x : Nat} {z o : α} (h : o ∈ l) (hx : l[x]? = some z) (hne : o ≠ z) : o ∈ fdel l x := by
  obtain ⟨j, hj, rfl⟩ := List.getElem_of_mem h
  have hjx : j ≠ x := fun e => by subst e; rw [List.getElem?_eq_getElem hj] at hx; simp at hx; exact hne hx
  unfold fdel
  rw [List.mem_append]
  by_cases hlt : j < x
  · left; rw [List.mem_iff_getElem?]; exact ⟨j, by rw [List.getElem?_take_of_lt hlt, List.getElem?_eq_getElem hj]⟩
  · right; rw [List.mem_iff_getElem?]; exact ⟨j - (x + 1), by rw [List.getElem?_drop, show x + 1 + (j - (x + 1)) = j by omega, List.getElem?_eq_getElem hj]⟩
theorem fdel_ne {l : List fragment_open} (hn : (l.map ix).Nodup) {x : Nat} {z o : fragment_open} (hx : l[x]? = some z) (h : o ∈ fdel l x) : ix o ≠ ix z := by
  intro e
  have hsp : l = l.take x ++ z :: l.drop (x + 1) := by
    obtain ⟨hl, ez⟩ := List.getElem?_eq_some_iff.1 hx
    rw [← ez, ← List.drop_eq_getElem_cons hl, List.take_append_drop]
  rw [hsp, List.map_append, List.map_cons, List.nodup_append] at hn
  obtain ⟨_, n2, n3⟩ := hn
  rcases List.mem_append.1 h with h | h
  · exact n3 (ix o) (List.mem_map_of_mem h) (ix z) (by simp) e
  · exact (List.nodup_cons.1 n2).1 (by rw [← e]; exact List.mem_map_of_mem h)
theorem WI.step {gs : List Mg} {at_ : List Nat} {a : fragment_Assembler} (hgs : GS gs) (h8 : gs.length ≤ 8) (hw : WI gs at_ a.open_) (ho : a.own = 9) {i : Nat} {g : Mg} {t : Nat} (hg : gs[i]? = some g) (ht : at_[i]? = some t) (htN : t < g.N) :
    (acc a (g.p t)).2.1 = decide (t + 1 = g.N) ∧ (acc a (g.p t)).2.2.1 = 0 ∧ ((acc a (g.p t)).2.1 = true → (acc a (g.p t)).1 = ⟨g.frm, g.ow, g.tag, g.m⟩) ∧ WI gs (at_.set i (t + 1)) (acc a (g.p t)).2.2.2.open_ := by
  have hok := (hgs i g hg).1
  have hset : ∀ j : Nat, j ≠ i → (at_.set i (t + 1))[j]? = at_[j]? := fun j hj => by rw [List.getElem?_set]; rw [if_neg (fun e => hj e.symm)]
  have hseti : (at_.set i (t + 1))[i]? = some (t + 1) := by
    have := lt_len ht
    simp [this]
  by_cases h0 : t = 0
  · subst h0
    have hji : ∀ o ∈ a.open_, ix o ≠ (i : Int) := by
      intro o hmem e
      obtain ⟨j, g', u, q1, q2, q3, q4, rfl⟩ := hw.of o hmem
      rw [ix_o hgs q1] at e
      have : j = i := by omega
      subst this
      rw [ht] at q2; simp at q2; omega
    have hno : ∀ x ∈ a.open_, fkey (g.p 0) x = false := by
      intro x hmem
      cases hk : fkey (g.p 0) x with
      | false => rfl
      | true =>
        obtain ⟨j, g', u, q1, q2, q3, q4, rfl⟩ := hw.of x hmem
        exact absurd ((key_ix (u := 0) hk).trans (ix_o hgs hg 0)) (hji _ hmem)
    have hlen : a.open_.length < 8 := by
      have hn : ((i : Int) :: a.open_.map ix).Nodup := List.nodup_cons.2 ⟨fun hm => by
        obtain ⟨o, h1, h2⟩ := List.mem_map.1 hm
        exact hji o h1 h2, hw.nd⟩
      have := nodup_len (m := (List.range gs.length).map (fun (n : Nat) => (n : Int))) hn (fun y hy => by
        rcases List.mem_cons.1 hy with rfl | hy
        · exact List.mem_map.2 ⟨i, List.mem_range.2 (lt_len hg), rfl⟩
        · obtain ⟨o, h1, rfl⟩ := List.mem_map.1 hy
          obtain ⟨j, g', u, q1, q2, q3, q4, rfl⟩ := hw.of o h1
          exact List.mem_map.2 ⟨j, List.mem_range.2 (lt_len q1), (ix_o hgs q1 u).symm⟩)
      simp at this
      omega
    rw [g_first hok ho hno hlen]
    by_cases hN : g.N = 1
    · rw [if_pos hN]
      refine ⟨by simp [hN], rfl, fun _ => rfl, hw.nd, fun o hmem => ?_, fun j g' u q1 q2 q3 q4 => ?_⟩
      · obtain ⟨j, g', u, q1, q2, q3, q4, rfl⟩ := hw.of o hmem
        have hne : j ≠ i := fun e => hji _ hmem (by rw [ix_o hgs q1, e])
        exact ⟨j, g', u, q1, by rw [hset j hne]; exact q2, q3, q4, rfl⟩
      · by_cases hj : j = i
        · subst hj
          rw [hg] at q1; rw [hseti] at q2
          simp at q1 q2
          subst q1; omega
        · rw [hset j hj] at q2; exact hw.to j g' u q1 q2 q3 q4
    · rw [if_neg hN]
      refine ⟨by simp; omega, rfl, fun h => (by cases h), ?_, fun o hmem => ?_, fun j g' u q1 q2 q3 q4 => ?_⟩
      · simp only [List.map_append, List.map_cons, List.map_nil]
        rw [List.nodup_append]
        refine ⟨hw.nd, by simp, fun x hx y hy => ?_⟩
        simp at hy; subst hy
        obtain ⟨o, h1, rfl⟩ := List.mem_map.1 hx
        rw [ix_o hgs hg]; exact hji o h1
      · rcases List.mem_append.1 hmem with hm | hm
        · obtain ⟨j, g', u, q1, q2, q3, q4, rfl⟩ := hw.of o hm
          have hne : j ≠ i := fun e => hji _ hm (by rw [ix_o hgs q1, e])
          exact ⟨j, g', u, q1, by rw [hset j hne]; exact q2, q3, q4, rfl⟩
        · simp at hm; subst hm
          exact ⟨i, g, 1, hg, hseti, by omega, by omega, rfl⟩
      · by_cases hj : j = i
        · subst hj
          rw [hg] at q1; rw [hseti] at q2
          simp at q1 q2
          subst q1 q2
          simp
        · rw [hset j hj] at q2; exact List.mem_append_left _ (hw.to j g' u q1 q2 q3 q4)
  · have hin := hw.to i g t hg ht (by omega) htN
    obtain ⟨x, hx, hf⟩ : ∃ x : Nat, a.open_[x]? = some (g.o t) ∧ ffind a.open_ (g.p t) = (x : Int) := by
      rcases ffind_cases a.open_ (g.p t) with ⟨_, h2⟩ | ⟨x, y, h1, h2, h3⟩
      · have := h2 _ hin; rw [key_self] at this; cases this
      · obtain ⟨j, g', u, q1, q2, q3, q4, rfl⟩ := hw.of y (List.mem_of_getElem? h2)
        have e := (key_ix (u := 0) h3).trans (ix_o hgs hg 0)
        rw [ix_o hgs q1] at e
        have : j = i := by omega
        subst this
        rw [hg] at q1; rw [ht] at q2
        simp at q1 q2
        subst q1 q2
        exact ⟨x, h2, h1⟩
    have hxl := lt_len hx
    have hotr : ∀ (j : Nat) (g' : Mg) (u : Nat), gs[j]? = some g' → j ≠ i → g'.o u ≠ g.o t := fun j g' u q1 hj e => hj (by have := congrArg ix e; rw [ix_o hgs q1, ix_o hgs hg] at this; omega)
    rw [g_next hok ho (by omega) htN hx hf]
    by_cases hN : t + 1 = g.N
    · rw [if_pos hN]
      refine ⟨by simp [hN], rfl, fun _ => rfl, ?_, fun o hmem => ?_, fun j g' u q1 q2 q3 q4 => ?_⟩
      · simp only [fdel, List.map_append]
        exact hw.nd.sublist (by rw [← List.map_append]; exact List.Sublist.map _ (by
          conv => rhs; rw [← List.take_append_drop x a.open_]
          exact List.Sublist.append (List.Sublist.refl _) (by rw [List.drop_eq_getElem_cons hxl]; exact List.sublist_cons_self _ _)))
      · obtain ⟨j, g', u, q1, q2, q3, q4, rfl⟩ := hw.of o (fdel_mem hmem)
        have hne : j ≠ i := fun e => fdel_ne hw.nd hx hmem (by rw [ix_o hgs q1, ix_o hgs hg, e])
        exact ⟨j, g', u, q1, by rw [hset j hne]; exact q2, q3, q4, rfl⟩
      · by_cases hj : j = i
        · subst hj
          rw [hg] at q1; rw [hseti] at q2
          simp at q1 q2
          subst q1; omega
        · rw [hset j hj] at q2
          exact mem_fdel (hw.to j g' u q1 q2 q3 q4) hx (hotr j g' u q1 hj)
    · rw [if_neg hN]
      refine ⟨by simp [hN], rfl, fun h => (by cases h), ?_, fun o hmem => ?_, fun j g' u q1 q2 q3 q4 => ?_⟩
      · have : (a.open_.set x (g.o (t + 1))).map ix = a.open_.map ix := by
          rw [List.map_set, ix_o hgs hg, ← ix_o hgs hg t]
          apply List.ext_getElem?
          intro n
          rw [List.getElem?_set]
          split
          · rename_i e; subst e; simp [hxl, List.getElem?_map, hx]; exact congrArg ix (List.getElem?_eq_some_iff.1 hx).2.symm
          · rfl
        rw [this]; exact hw.nd
      · rcases List.mem_or_eq_of_mem_set hmem with hm | rfl
        · obtain ⟨j, g', u, q1, q2, q3, q4, rfl⟩ := hw.of o hm
          by_cases hj : j = i
          · subst hj
            exfalso
            obtain ⟨n, hn⟩ := List.mem_iff_getElem?.1 hmem
            rw [List.getElem?_set] at hn
            split at hn
            · rename_i e
              rw [hg] at q1; rw [ht] at q2
              simp at q1 q2
              subst q1 q2
              simp at hn
              have := congrArg fragment_open.last hn
              simp only [Mg.o] at this; omega
            · rename_i hnx
              have e1 : (a.open_.map ix)[n]? = some (j : Int) := by rw [List.getElem?_map, hn]; simp [ix_o hgs q1]
              have e2 : (a.open_.map ix)[x]? = some (j : Int) := by rw [List.getElem?_map, hx]; simp [ix_o hgs hg]
              have b1 := (List.getElem?_eq_some_iff.1 e1)
              have b2 := (List.getElem?_eq_some_iff.1 e2)
              obtain ⟨c1, d1⟩ := b1
              obtain ⟨c2, d2⟩ := b2
              rcases Nat.lt_trichotomy n x with hlt | heq | hlt
              · exact List.pairwise_iff_getElem.1 hw.nd n x c1 c2 hlt (d1.trans d2.symm)
              · exact hnx heq.symm
              · exact List.pairwise_iff_getElem.1 hw.nd x n c2 c1 hlt (d2.trans d1.symm)
          · exact ⟨j, g', u, q1, by rw [hset j hj]; exact q2, q3, q4, rfl⟩
        · exact ⟨i, g, t + 1, hg, hseti, by omega, by omega, rfl⟩
      · by_cases hj : j = i
        · subst hj
          rw [hg] at q1; rw [hseti] at q2
          simp at q1 q2
          subst q1 q2
          exact List.mem_set hxl _
        · rw [hset j hj] at q2
          have hm := hw.to j g' u q1 q2 q3 q4
          obtain ⟨n, hn⟩ := List.mem_iff_getElem?.1 hm
          refine List.mem_iff_getElem?.2 ⟨n, ?_⟩
          rw [List.getElem?_set, if_neg (fun e => ?_), hn]
          subst e; rw [hx] at hn; simp at hn
          exact hotr j g' u q1 hj hn.symm
end Lift
