/- The plain law of ExchangeOnce. uses: base lists sum8 ev messages mreplies mparse mround mtyped gen2 codes2 exch exch2 exch3 exch4 exch5 awake24 maps
-/
import Derived.Test.YtkcogjblkenmgaaAwake24
import Derived.Test.YtkcogjblkenmgaaExch5
import Derived.Test.YtkcogjblkenmgaaMaps
set_option linter.unusedVariables false
set_option linter.unusedSimpArgs false
namespace Lift
open Go
theorem mbytes_inj {a b : Message_} (ha : MV a ∧ a.Function % 2 = 0) (hb : MV b ∧ b.Function % 2 = 0) (ta : MT a) (tb : MT b) (h : mbytes a = mbytes b) : a = b := by
  have e1 : mparse false (mbytes a) = (a, 0) := mparse_back ha.1 ta false (by simpa using ha.2)
  have e2 : mparse false (mbytes b) = (b, 0) := mparse_back hb.1 tb false (by simpa using hb.2)
  rw [h, e2] at e1
  exact (Prod.mk.inj e1).1.symm
theorem mreq_of {m : Message_} (h : MV m ∧ m.Function % 2 = 0) : mreq m = (mbytes m, 0) := by unfold mreq; rw [if_pos h]
/-! ### Tick, by recursion -/
def BB (p : Pending_) : List Int := (mreq p.Request).1
def tk (now : Int) : List Pending_ → List Pending_ × List (List Int) × List Message_
  | [] => ([], [], [])
  | p :: l => if now < p.Deadline then (p :: (tk now l).1, (tk now l).2.1, (tk now l).2.2) else if p.Tries = 3 then ((tk now l).1, (tk now l).2.1, p.Request :: (tk now l).2.2)
    else (bump now p :: (tk now l).1, BB p :: (tk now l).2.1, (tk now l).2.2)
theorem tk_cons (now : Int) (p : Pending_) (l : List Pending_) : tk now (p :: l) = if now < p.Deadline then (p :: (tk now l).1, (tk now l).2.1, (tk now l).2.2) else if p.Tries = 3 then ((tk now l).1, (tk now l).2.1, p.Request :: (tk now l).2.2)
    else (bump now p :: (tk now l).1, BB p :: (tk now l).2.1, (tk now l).2.2) := rfl
theorem tk_fold (now : Int) : ∀ (l : List Pending_) (s : List Pending_ × List (List Int) × List Message_), l.foldl (tstep now) s = (s.1 ++ (tk now l).1, s.2.1 ++ (tk now l).2.1, s.2.2 ++ (tk now l).2.2)
  | [], s => by simp [tk]
  | p :: l, s => by
    rw [List.foldl_cons, tk_fold now l]
    rw [tk_cons]; unfold tstep
    split
    · simp
    · split
      · simp
      · simp [BB]
theorem tk_eq (now : Int) (l : List Pending_) : tfold now l = tk now l := by
  unfold tfold; rw [tk_fold]; simp
theorem tk_len (now : Int) : ∀ l : List Pending_, (tk now l).1.length + (tk now l).2.2.length = l.length
  | [] => rfl
  | p :: l => by
    have := tk_len now l
    rw [tk_cons]
    split
    · simp; omega
    · split
      · simp; omega
      · simp; omega
theorem tk_sub (now : Int) : ∀ l : List Pending_, (tk now l).2.1.Sublist (l.map BB)
  | [] => List.Sublist.refl _
  | p :: l => by
    have := tk_sub now l
    rw [tk_cons]
    split
    · exact this.cons _
    · split
      · exact this.cons _
      · exact List.Sublist.cons_cons _ this
theorem tk_out (now : Int) : ∀ (l : List Pending_) (b : List Int), b ∈ (tk now l).2.1 → ∃ p ∈ l, p.Tries ≠ 3 ∧ b = BB p
  | [], b, h => by cases h
  | p :: l, b, h => by
    have ih := tk_out now l b
    rw [tk_cons] at h
    split at h
    · obtain ⟨q, hq, h2⟩ := ih h; exact ⟨q, by simp [hq], h2⟩
    · split at h
      · obtain ⟨q, hq, h2⟩ := ih h; exact ⟨q, by simp [hq], h2⟩
      · rename_i h3
        rcases List.mem_cons.1 h with rfl | h
        · exact ⟨p, by simp, h3, rfl⟩
        · obtain ⟨q, hq, h2⟩ := ih h; exact ⟨q, by simp [hq], h2⟩
theorem tk_kept (now : Int) : ∀ (l : List Pending_), (l.map BB).Nodup → ∀ q ∈ (tk now l).1, ∃ p ∈ l, (q = p ∧ now < p.Deadline ∧ BB p ∉ (tk now l).2.1) ∨ (q = bump now p ∧ BB p ∈ (tk now l).2.1 ∧ p.Tries ≠ 3)
  | [], _, q, h => by cases h
  | p :: l, hn, q, h => by
    rw [List.map_cons, List.nodup_cons] at hn
    obtain ⟨hp, hn⟩ := hn
    have ih := tk_kept now l hn q
    have hnot : BB p ∉ (tk now l).2.1 := fun hb => hp ((tk_sub now l).subset hb)
    rw [tk_cons] at h ⊢
    split at h
    · rename_i h1
      rw [if_pos h1]
      rcases List.mem_cons.1 h with rfl | h
      · exact ⟨q, by simp, .inl ⟨rfl, h1, hnot⟩⟩
      · obtain ⟨p', hp', h2⟩ := ih h; exact ⟨p', by simp [hp'], h2⟩
    · rename_i h1
      rw [if_neg h1]
      split at h
      · rename_i h3
        rw [if_pos h3]
        obtain ⟨p', hp', h2⟩ := ih h; exact ⟨p', by simp [hp'], h2⟩
      · rename_i h3
        rw [if_neg h3]
        rcases List.mem_cons.1 h with rfl | h
        · exact ⟨p, by simp, .inr ⟨rfl, by simp, h3⟩⟩
        · obtain ⟨p', hp', h2⟩ := ih h
          have hne : BB p' ≠ BB p := fun e => hp (by rw [← e]; exact List.mem_map.2 ⟨p', hp', rfl⟩)
          refine ⟨p', by simp [hp'], ?_⟩
          rcases h2 with ⟨a1, a2, a3⟩ | ⟨a1, a2, a3⟩
          · refine .inl ⟨a1, a2, fun hm => ?_⟩
            rcases List.mem_cons.1 hm with h | h
            · exact hne h
            · exact a3 h
          · exact .inr ⟨a1, List.mem_cons_of_mem _ a2, a3⟩
theorem bump_le {now : Int} {p : Pending_} (h1 : 1 ≤ p.Tries) (h2 : p.Tries ≤ 3) (h3 : p.Tries ≠ 3) : (bump now p).Deadline ≤ now + 40 := by
  have : p.Tries = 1 ∨ p.Tries = 2 := by omega
  rcases this with h | h
  · simp only [bump, h]
    rw [show (10 : Int) * 2 ^ (1 : Int).toNat = 20 from by decide]; omega
  · simp only [bump, h]
    rw [show (10 : Int) * 2 ^ (2 : Int).toNat = 40 from by decide]; omega
/-! ### what holds at each round's head -/
structure XI (n : Nat) (en tot now : Int) (r : Requester_) (st : List (List Int × Int)) : Prop where
  v : RV r
  t : RT r
  own : r.Own = 32
  cnt : en + (r.Pending.length : Int) = tot
  e0 : 0 ≤ en
  tn : tot ≤ n
  n0 : 0 ≤ now
  n1 : now ≤ 30 * n
  dl : ∀ p ∈ r.Pending, p.Deadline ≤ now + 40
  s1 : ∀ p ∈ r.Pending, mget 0 st (BB p) = p.Tries
  s2 : ∀ m, MV m ∧ m.Function % 2 = 0 → MT m → ∀ j : Int, (n : Int) ≤ j → m.Data = [j, j] → mget 0 st (mbytes m) = 0
  s3 : ∀ p ∈ r.Pending, ∃ j : Int, j < n ∧ p.Request.Data = [j, j]
theorem RV.pv {r : Requester_} (v : RV r) : ∀ p ∈ r.Pending, PV r.Own p := (RV_iff.1 v).2.2.2.2.2.1
theorem RV.ap {r : Requester_} (v : RV r) : (r.Pending.map (fun p => p.Request)).Pairwise (fun q p => ¬ sameM q p) := (RV_iff.1 v).2.2.2.2.2.2
theorem BB_eq {r : Requester_} (v : RV r) {p : Pending_} (hp : p ∈ r.Pending) : BB p = mbytes p.Request := by
  unfold BB; rw [mreq_of (v.pv p hp).2.2.2.2]
theorem BB_inj {r : Requester_} (v : RV r) (t : RT r) {p q : Pending_} (hp : p ∈ r.Pending) (hq : q ∈ r.Pending) (h : BB p = BB q) : p.Request = q.Request := by
  rw [BB_eq v hp, BB_eq v hq] at h
  exact mbytes_inj (v.pv p hp).2.2.2.2 (v.pv q hq).2.2.2.2 (t.ps p hp).1 (t.ps q hq).1 h
theorem BB_nodup {r : Requester_} (v : RV r) (t : RT r) : (r.Pending.map BB).Nodup := by
  have h := v.ap
  unfold List.Nodup
  rw [List.pairwise_map] at h ⊢
  refine h.imp_of_mem (fun {a b} ha hb hn he => hn ?_)
  have := BB_inj v t ha hb he
  rw [this]; exact ⟨rfl, rfl⟩
theorem XI.next {n : Nat} {en tot now : Int} {r : Requester_} {st : List (List Int × Int)} (x : XI n en tot now r st) : XI (n + 1) en tot now r st :=
  ⟨x.v, x.t, x.own, x.cnt, x.e0, by have := x.tn; omega, x.n0, by have := x.n1; omega, x.dl, x.s1, fun m hm tm j hj hd => x.s2 m hm tm j (by omega) hd, fun p hp => by obtain ⟨j, hj, hd⟩ := x.s3 p hp; exact ⟨j, by omega, hd⟩⟩
theorem XI.send {n : Nat} {en tot now : Int} {r : Requester_} {st : List (List Int × Int)} (x : XI n en tot now r st) (hn : n < 40) {to : Int} (h1 : 8 ≤ to) (h2 : to ≤ 119) (hl : r.Pending.length < 8) :
    ∃ r' b, rsend r to 6 1 [(n : Int), (n : Int)] now = (r', b, 0) ∧ Small b ∧ XI (n + 1) en (tot + 1) now r' (mput st b (IntKind.i64.wrap (mget 0 st b + 1))) := by
  have hb : ∀ y ∈ [(n : Int), (n : Int)], byte y := fun y hy => by
    have : y = (n : Int) := by simpa using hy
    rw [this]; constructor <;> omega
  have tm : MT (smsg r to 6 1 [(n : Int), (n : Int)]) := smsg_MT x.t ⟨by omega, by omega⟩ ⟨by decide, by decide⟩ ⟨by decide, by decide⟩ hb (by simp)
  have vm : MV (smsg r to 6 1 [(n : Int), (n : Int)]) ∧ (smsg r to 6 1 [(n : Int), (n : Int)]).Function % 2 = 0 := by
    have o := x.own
    refine ⟨⟨h1, h2, by simp only [smsg]; omega, by simp only [smsg]; omega, by simp only [smsg]; omega, by simp only [smsg]; omega, by simp only [smsg]; omega, by simp only [smsg]; omega, by simp only [smsg]; omega, ?_, ?_, by simp [smsg], .inr rfl⟩, rfl⟩
    · simp only [smsg, fseq]; omega
    · simp only [smsg, fseq]; omega
  have x0 := x.n0
  have x1 := x.n1
  have e : rsend r to 6 1 [(n : Int), (n : Int)] now = ({ r with Next := (fseq r.Pending to r.Next + 1) % 64, Pending := r.Pending ++ [⟨smsg r to 6 1 [(n : Int), (n : Int)], now + 10, 1⟩] }, mbytes (smsg r to 6 1 [(n : Int), (n : Int)]), 0) := by
    unfold rsend
    rw [if_neg (fun h => h x.v), if_neg (by omega), if_neg (by omega), mreq_of vm, if_neg (fun h => h rfl)]
  have hok : (rsend r to 6 1 [(n : Int), (n : Int)] now).2.2 = 0 := by rw [e]
  have v' := (rsend_V hok).1
  have t' := (rsend_RT x.t (now := now) (to := to) (fn := 6) (cm := 1) (data := [(n : Int), (n : Int)]) ⟨by omega, by omega⟩ ⟨by decide, by decide⟩ ⟨by decide, by decide⟩ hb (by simp)).1
  rw [e] at v' t'
  refine ⟨_, _, e, (mbytes_small vm.1 tm).1, ?_⟩
  have h0 := x.s2 _ vm tm (n : Int) (by omega) rfl
  rw [h0, wr (n := (0 : Int) + 1) (by omega)]
  have hcn := x.cnt
  have htn := x.tn
  refine ⟨v', t', x.own, by simp; omega, x.e0, by omega, x0, by omega, fun p hp => ?_, fun p hp => ?_, fun m hm tm' j hj hd => ?_, fun p hp => ?_⟩
  · rcases List.mem_append.1 hp with h | h
    · exact x.dl p h
    · simp only [List.mem_singleton] at h; rw [h]; simp only; omega
  · rw [mget_put]
    rcases List.mem_append.1 hp with h | h
    · rw [if_neg, x.s1 p h]
      intro he
      rw [BB_eq x.v h] at he
      have := mbytes_inj vm (x.v.pv p h).2.2.2.2 tm (x.t.ps p h).1 he
      obtain ⟨j, hj, hd⟩ := x.s3 p h
      rw [← this] at hd
      have hd' : [(n : Int), (n : Int)] = [j, j] := hd
      simp only [List.cons.injEq] at hd'
      omega
    · simp only [List.mem_singleton] at h; subst h
      rw [if_pos]
      · rfl
      · unfold BB; rw [mreq_of vm]
  · rw [mget_put, if_neg, x.s2 m hm tm' j (by omega) hd]
    intro he
    have := mbytes_inj vm hm tm tm' he
    rw [← this] at hd
    have hd' : [(n : Int), (n : Int)] = [j, j] := hd
    simp only [List.cons.injEq] at hd'
    omega
  · rcases List.mem_append.1 hp with h | h
    · obtain ⟨j, hj, hd⟩ := x.s3 p h; exact ⟨j, by omega, hd⟩
    · simp only [List.mem_singleton] at h; rw [h]; exact ⟨(n : Int), by omega, rfl⟩
theorem rtick_eq {r : Requester_} (v : RV r) {now : Int} (h0 : 0 ≤ now) (h1 : now ≤ 17179869184) : rtick r now = ({ r with Pending := (tk now r.Pending).1 }, (tk now r.Pending).2.1, (tk now r.Pending).2.2) := by
  unfold rtick
  rw [if_neg (by rintro (h | h); exact h v; omega), tk_eq]
/-- Tick: what the map counts then. -/
theorem XI.tick {n : Nat} {en tot now : Int} {r : Requester_} {st st' : List (List Int × Int)} (x : XI n en tot now r st) (hn : n < 40) {d : Int} (h1 : 0 ≤ d) (h2 : d < 30)
    (hst : ∀ b, mget 0 st' b = mget 0 st b + if b ∈ (tk (now + d) r.Pending).2.1 then 1 else 0) :
    XI (n + 1) (en + ((tk (now + d) r.Pending).2.2.length : Int)) tot (now + d) { r with Pending := (tk (now + d) r.Pending).1 } st' := by
  have x0 := x.n0
  have x1 := x.n1
  have v' := rtick_V x.v (now + d)
  have t' := (rtick_RT x.t (now := now + d)).1
  rw [rtick_eq x.v (by omega) (by omega)] at v' t'
  have hlen := tk_len (now + d) r.Pending
  have hcn := x.cnt
  have he0 := x.e0
  have htn := x.tn
  have hk := tk_kept (now + d) r.Pending (BB_nodup x.v x.t)
  refine ⟨v', t', x.own, by simp only; omega, by omega, by omega, by omega, by omega, fun q hq => ?_, fun q hq => ?_, fun m hm tm j hj hd => ?_, fun q hq => ?_⟩
  · obtain ⟨p, hp, ⟨rfl, _, _⟩ | ⟨rfl, _, h3⟩⟩ := hk q hq
    · have := x.dl q hp; omega
    · have := x.v.pv p hp; exact bump_le this.1 this.2.1 h3
  · obtain ⟨p, hp, ⟨rfl, _, h3⟩ | ⟨rfl, h3, _⟩⟩ := hk q hq
    · rw [hst, if_neg h3, x.s1 q hp]; omega
    · have e : BB (bump (now + d) p) = BB p := rfl
      rw [e, hst, if_pos h3, x.s1 p hp]; rfl
  · rw [hst, if_neg, x.s2 m hm tm j (by omega) hd]
    · rfl
    · intro hb
      obtain ⟨p, hp, _, he⟩ := tk_out _ _ _ hb
      rw [BB_eq x.v hp] at he
      have := mbytes_inj hm (x.v.pv p hp).2.2.2.2 tm (x.t.ps p hp).1 he
      obtain ⟨j', hj', hd'⟩ := x.s3 p hp
      rw [← this, hd] at hd'
      simp only [List.cons.injEq] at hd'
      omega
  · obtain ⟨p, hp, ⟨rfl, _, _⟩ | ⟨rfl, _, _⟩⟩ := hk q hq
    · obtain ⟨j, hj, hd⟩ := x.s3 q hp; exact ⟨j, by omega, hd⟩
    · obtain ⟨j, hj, hd⟩ := x.s3 p hp; exact ⟨j, by omega, hd⟩
theorem rdrop_sub (r : Requester_) (i : Nat) : (rdrop r i).Pending.Sublist r.Pending := by
  have h := List.Sublist.append (List.Sublist.refl (r.Pending.take i)) (List.drop_sublist_drop_left r.Pending (Nat.le_succ i))
  rwa [List.take_append_drop] at h
theorem XI.recv {n : Nat} {en tot now : Int} {r : Requester_} {st : List (List Int × Int)} (x : XI n en tot now r st) {i : Nat} {p : Pending_} (hp : r.Pending[i]? = some p) :
    ∃ y, mreply p.Request 0 [] = (y, 0) ∧ MT y ∧ mres y = (mbytes y, 0) ∧ Small (mbytes y) ∧ rrecv r (mbytes y) = (rdrop r i, p.Request, y, true) ∧ (rrecv (rdrop r i) (mbytes y)).2.2.2 = false ∧
      XI (n + 1) (en + 1) tot now (rdrop r i) st := by
  have hpm := List.mem_of_getElem? hp
  have vp := x.v.pv p hpm
  have tp := (x.t.ps p hpm).1
  have vr := vp.2.2.2.2
  have hyT := mreply_MT tp (code := 0) (data := []) ⟨by decide, by decide⟩ (fun x hx => (by cases hx))
  have hy : mreply p.Request 0 [] = (⟨p.Request.From, p.Request.To, p.Request.Function + 1, p.Request.Command, p.Request.FromUnit, p.Request.ToUnit, p.Request.Sequence, 0, []⟩, 0) := by
    unfold mreply; rw [if_pos ⟨vr.1, vr.2, by simp⟩]
  generalize hyd : (⟨p.Request.From, p.Request.To, p.Request.Function + 1, p.Request.Command, p.Request.FromUnit, p.Request.ToUnit, p.Request.Sequence, 0, []⟩ : Message_) = y at hy
  rw [hy] at hyT
  have ty : MT y := hyT.1
  have vy : MV y ∧ y.Function % 2 = 1 := by
    have h1 := vr.1
    have h2 := vr.2
    subst hyd
    simp only [MV] at h1 ⊢
    refine ⟨?_, by omega⟩
    simp only [List.length_nil]
    omega
  have hMM : MM p.Request y := by subst hyd; exact ⟨vr, vy.1, rfl, rfl, rfl, rfl, rfl, rfl, rfl⟩
  have hsame : ∀ q : Pending_, MM q.Request y → sameM q.Request p.Request := by
    intro q hq
    obtain ⟨_, _, h3, h4, _, _, _, _, h9⟩ := hq
    subst hyd
    exact ⟨h4.symm, h9.symm⟩
  have hpar : mparse true (mbytes y) = (y, 0) := mparse_back vy.1 ty true (by simpa using vy.2)
  have hap := x.v.ap
  rw [List.pairwise_map, List.pairwise_iff_getElem] at hap
  have hi := lt_len hp
  have hpe : r.Pending[i] = p := by rw [List.getElem?_eq_getElem hi] at hp; exact Option.some.inj hp
  have hoth : ∀ (j : Nat) (q : Pending_), j ≠ i → r.Pending[j]? = some q → ¬ MM q.Request y := by
    intro j q hji hq hM
    have hj := lt_len hq
    have hqe : r.Pending[j] = q := by rw [List.getElem?_eq_getElem hj] at hq; exact Option.some.inj hq
    have hs := hsame q hM
    rcases Nat.lt_or_gt_of_ne hji with h | h
    · exact hap j i hj hi h (by rw [hqe, hpe]; exact hs)
    · exact hap i j hi hj h (by rw [hqe, hpe]; exact ⟨hs.1.symm, hs.2.symm⟩)
  have hf : fidx r.Pending y = some i := fidx_some hp (decide_eq_true hMM) (fun j q hj hq => decide_eq_false (hoth j q (by omega) hq))
  have e1 : rrecv r (mbytes y) = (rdrop r i, p.Request, y, true) := by
    unfold rrecv
    rw [hpar, if_neg (by rintro (h | h); exact h x.v; exact h rfl)]
    simp only
    rw [hf]
    simp only
    rw [hp]; rfl
  have vd := rdrop_V x.v i
  have hnone : fidx (rdrop r i).Pending y = none := by
    refine fidx_none (fun q hq => decide_eq_false ?_)
    have hq' : q ∈ r.Pending.take i ++ r.Pending.drop (i + 1) := hq
    rcases List.mem_append.1 hq' with h | h
    · obtain ⟨j, hj⟩ := List.getElem?_of_mem h
      rw [List.getElem?_take] at hj
      split at hj
      · exact hoth j q (by omega) hj
      · cases hj
    · obtain ⟨j, hj⟩ := List.getElem?_of_mem h
      rw [List.getElem?_drop] at hj
      exact hoth (i + 1 + j) q (by omega) hj
  have e2 : (rrecv (rdrop r i) (mbytes y)).2.2.2 = false := by
    unfold rrecv
    rw [hpar, if_neg (by rintro (h | h); exact h vd; exact h rfl)]
    simp only
    rw [hnone]
  have hsub := rdrop_sub r i
  have hlen : (rdrop r i).Pending.length + 1 = r.Pending.length := by
    show (r.Pending.take i ++ r.Pending.drop (i + 1)).length + 1 = _
    simp; omega
  have hcn := x.cnt
  have he0 := x.e0
  have htn := x.tn
  have hn1 := x.n1
  refine ⟨y, hy, ty, by unfold mres; rw [if_pos vy], (mbytes_small vy.1 ty).1, e1, e2, ⟨vd, rdrop_RT x.t i, x.own, by omega, by omega, by omega, x.n0, by omega, fun q hq => x.dl q (hsub.subset hq), fun q hq => x.s1 q (hsub.subset hq), fun m hm tm j hj hd => x.s2 m hm tm j (by omega) hd, fun q hq => ?_⟩⟩
  obtain ⟨j, hj, hd⟩ := x.s3 q (hsub.subset hq)
  exact ⟨j, by omega, hd⟩
theorem BB_small {r : Requester_} (v : RV r) (t : RT r) {p : Pending_} (hp : p ∈ r.Pending) : Small (BB p) := by
  rw [BB_eq v hp]; exact (mbytes_small (v.pv p hp).2.2.2.2.1 (t.ps p hp).1).1
theorem law24_ExchangeOnce_true (a0 : List Int) (o0 : okL (okI .u8) a0) : ∃ fuel, law24_ExchangeOnce fuel a0 = some true := by
  refine ⟨10000, Ev.isTrue ?_⟩
  unfold law24_ExchangeOnce
  have hf : 6000 < 10000 := by omega
  refine Ev.to law24_awake_eq (Ev.iteF rfl ?_)
  obtain ⟨c, ec, hc⟩ := fNew_ok 10000 (l := a0) (n := 200) (fun x hx => okI_u8.1 (o0.2 x hx)) (by omega) (by omega)
  refine Ev.to ec (Ev.to (eNew_eq _ _) ?_)
  rw [if_pos (by omega)]
  refine Ev.bneF rfl ?_
  have x00 : XI 0 0 0 0 ⟨32, 0, []⟩ [] := ⟨⟨by decide, by decide, by decide, by decide, by simp, fun i p hp => by simp at hp⟩, ⟨⟨by decide, by decide⟩, okI_i64.2 ⟨by decide, by decide⟩, fun p hp => (by cases hp), by simp⟩, rfl, by simp, by omega, by omega, by omega, by omega, fun p hp => (by cases hp), fun p hp => (by cases hp), fun m _ _ j _ _ => rfl, fun p hp => (by cases hp)⟩
  refine Ev.count 40 (fun i (s : Int × Int × Int × Int × field_Codes × Requester_ × List (List Int × Int)) => s.2.2.2.1 = (i : Int) ∧ COk s.2.2.2.2.1 ∧ XI i s.1 s.2.1 s.2.2.1 s.2.2.2.2.2.1 s.2.2.2.2.2.2) (by omega) ⟨rfl, hc, x00⟩ (fun i s hi hI self hself => ?_)
  obtain ⟨en, tot, now, n, c, r, st⟩ := s
  obtain ⟨h1, h2, x⟩ := hI
  simp only at h1 h2 x
  subst h1
  simp only
  have x0 := x.n0
  have x1 := x.n1
  have hcn := x.cnt
  have he0 := x.e0
  have htn := x.tn
  have hl8 := RT.len8 x.v
  by_cases hil : i < 40
  · obtain ⟨r4, c4, e4, l4, k4⟩ := fnext_nat 10000 h2 (m := 4) (by omega) (by omega)
    refine Ev.decT (by omega) (Ev.to e4 (Ev.letP ?_))
    refine Ev.join (fun _ => True) (fun s2 _ => ?_) (fun j hj => Ev.ite (fun _ => hj _ trivial) (fun _ => Ev.letP (hj _ trivial)))
    refine Ev.join (fun (s : Int × Int × Int × field_Codes × Requester_ × List (List Int × Int)) => XI (i + 1) s.1 s.2.1 s.2.2.1 s.2.2.2.2.1 s.2.2.2.2.2 ∧ COk s.2.2.2.1) (fun s3 hs3 => ?_) (fun j2 hj2 => ?_)
    · -- no two with one number
      obtain ⟨en', tot', now', c', r', st'⟩ := s3
      obtain ⟨x', hc'⟩ := hs3
      simp only at x' hc' ⊢
      have hl8' := RT.len8 x'.v
      have hap := x'.v.ap
      rw [List.pairwise_map, List.pairwise_iff_getElem] at hap
      refine Ev.count r'.Pending.length (fun k (s : Int) => s = (k : Int)) (by omega) rfl (fun k s hk hK self2 hself2 => ?_)
      subst hK
      by_cases hkl : k < r'.Pending.length
      · refine Ev.decT (by omega) ?_
        refine Ev.count k (fun k2 (s : Int) => s = (k2 : Int)) (by omega) rfl (fun k2 s hk2 hK2 self3 hself3 => ?_)
        subst hK2
        by_cases hkl2 : k2 < k
        · have hx : idx r'.Pending (k : Int) = some r'.Pending[k] := by rw [idx_nat, List.getElem?_eq_getElem hkl]
          have hx2 : idx r'.Pending (k2 : Int) = some (r'.Pending[k2]'(by omega)) := by rw [idx_nat, List.getElem?_eq_getElem]
          have hne := hap k2 k (by omega) hkl hkl2
          refine Ev.decT (by omega) (Ev.join (fun s => s = false) (fun s hs => Ev.iteF hs (Ev.letP ?_)) (fun j3 hj3 => Ev.to hx (Ev.to hx2 (Ev.letP (Ev.beq (fun e => Ev.to hx (Ev.to hx2 (hj3 _ ?_))) (fun _ => hj3 _ rfl))))))
          · rw [wi k2 (by omega)]; exact hself3 _ hkl2 (by simp)
          · refine Bool.eq_false_iff.2 (fun h => hne ⟨e.symm, ?_⟩)
            exact (eq_of_beq h).symm
        · refine Ev.decF (by omega) ?_
          rw [wi k (by omega)]
          exact hself2 _ hkl (by simp)
      · refine Ev.decF (by omega) (Ev.letP ?_)
        rw [wi i (by omega)]
        exact hself _ hil ⟨by simp, hc', x'⟩
    · refine Ev.ite (fun _ => ?_) (fun _ => Ev.letP (Ev.ite (fun _ => ?_) (fun _ => Ev.letP (Ev.ite (fun _ => Ev.dec (fun hpos => ?_) (fun _ => hj2 _ ⟨x.next, k4⟩)) (fun _ => hj2 _ ⟨x.next, k4⟩)))))
      · -- Send
        obtain ⟨r5, c5, e5, l5, k5⟩ := fnext_nat 10000 k4 (m := 2) (by omega) (by omega)
        obtain ⟨to, hto, ht2⟩ := pick2 l5
        have hui : IntKind.u8.wrap (i : Int) = (i : Int) := by rw [w_u8]; omega
        have hb : ∀ y ∈ [(i : Int), (i : Int)], byte y := fun y hy => by
          have : y = (i : Int) := by simpa using hy
          rw [this]; constructor <;> omega
        have hbt : byte to := by constructor <;> omega
        refine Ev.to e5 (Ev.to hto ?_)
        rw [hui]
        refine Ev.to (eSend_eq hf x.t hbt (show byte 6 from ⟨by decide, by decide⟩) (show byte 1 from ⟨by decide, by decide⟩) hb (by simp)) ?_
        by_cases hl : r.Pending.length < 8
        · obtain ⟨r', b, es, hsb, x'⟩ := x.send hil (to := to) (by omega) (by omega) hl
          rw [es]
          refine Ev.beqT rfl (Ev.letP (Ev.letP ?_))
          rw [wr (n := tot + 1) (by omega), toStr_byte hsb.2]
          exact hj2 _ ⟨x', k5⟩
        · have es : rsend r to 6 1 [(i : Int), (i : Int)] now = (Requester_.z, [], 9) := by
            unfold rsend
            rw [if_neg (fun h => h x.v), if_neg (by omega), if_pos (by omega)]
          rw [es]
          exact Ev.beqF (by decide) (Ev.bneF rfl (hj2 _ ⟨x.next, k5⟩))
      · -- Tick
        obtain ⟨r7, c7, e7, l7, k7⟩ := fnext_nat 10000 k4 (m := 30) (by omega) (by omega)
        refine Ev.to e7 ?_
        rw [wr (n := now + (r7 : Int)) (by omega)]
        refine Ev.letP (Ev.to (eTick_eq hf x.t) ?_)
        rw [rtick_eq x.v (by omega) (by omega)]
        simp only
        have hlen := tk_len (now + (r7 : Int)) r.Pending
        have hnd : (tk (now + (r7 : Int)) r.Pending).2.1.Nodup := (BB_nodup x.v x.t).sublist (tk_sub _ _)
        have hol := (tk_sub (now + (r7 : Int)) r.Pending).length_le
        rw [List.length_map] at hol
        rw [wr (n := en + ((tk (now + (r7 : Int)) r.Pending).2.2.length : Int)) (by omega)]
        refine Ev.letP ?_
        have hout := tk_out (now + (r7 : Int)) r.Pending
        have hfin := fun (st' : List (List Int × Int)) => x.tick (st' := st') hil (d := (r7 : Int)) (by omega) (by omega)
        generalize (tk (now + (r7 : Int)) r.Pending).2.1 = O at hnd hol hout hfin
        refine Ev.count O.length (fun k (s : Int × List (List Int × Int)) => s.1 = (k : Int) ∧ ∀ b, mget 0 s.2 b = mget 0 st b + if b ∈ O.take k then 1 else 0) (by omega) ⟨rfl, fun b => by simp⟩ (fun k s hk hK self2 hself2 => ?_)
        obtain ⟨kk, s7⟩ := s
        obtain ⟨q1, q2⟩ := hK
        simp only at q1 q2
        subst q1
        simp only
        by_cases hkl : k < O.length
        · obtain ⟨b, hb, hbm⟩ := getq hkl
          obtain ⟨p, hp, hp3, rfl⟩ := hout b hbm
          have vp := x.v.pv p hp
          have hsb := BB_small x.v x.t hp
          have hnt : BB p ∉ O.take k := by
            intro hm
            obtain ⟨j, hj⟩ := List.getElem?_of_mem hm
            rw [List.getElem?_take] at hj
            split at hj
            · rename_i hjk
              have hj1 := lt_len hj
              rw [List.getElem?_eq_getElem hj1] at hj
              rw [List.getElem?_eq_getElem hkl] at hb
              have := (List.pairwise_iff_getElem.1 hnd) j k hj1 hkl hjk
              exact this (by rw [Option.some.inj hj, Option.some.inj hb])
            · cases hj
          have hv := q2 (BB p)
          rw [if_neg hnt, x.s1 p hp] at hv
          have t1 := vp.1
          have t2 := vp.2.1
          refine Ev.decT (by omega) (Ev.to (by rw [idx_nat, hb]) ?_)
          rw [toStr_byte hsb.2, hv, wr (n := p.Tries + 0 + 1) (by omega)]
          refine Ev.letP (Ev.decF (by rw [mget_put, if_pos rfl]; omega) ?_)
          rw [wi k (by omega)]
          refine hself2 _ hkl ⟨rfl, fun b' => ?_⟩
          simp only
          rw [mget_put]
          have htk : O.take (k + 1) = O.take k ++ [BB p] := by rw [List.take_add_one, hb]; rfl
          rw [htk]
          by_cases hbb : BB p = b'
          · subst hbb
            rw [if_pos rfl, if_pos (by simp), x.s1 p hp]; omega
          · rw [if_neg hbb, q2]
            have : (b' ∈ O.take k ++ [BB p]) ↔ b' ∈ O.take k := by
              rw [List.mem_append, List.mem_singleton]
              exact ⟨fun h => h.elim id (fun h => absurd h.symm hbb), .inl⟩
            simp only [this]
        · refine Ev.decF (by omega) (hj2 _ ⟨hfin s7 (fun b => ?_), k7⟩)
          rw [q2, List.take_of_length_le (by omega)]
      · -- Receive
        have hpos' : 0 < r.Pending.length := by omega
        obtain ⟨r9, c9, e9, l9, k9⟩ := fnext_nat 10000 k4 (m := r.Pending.length) hpos' (by omega)
        obtain ⟨p, hp, hpm⟩ := getq l9
        obtain ⟨y, ey, ty, e2, hsb, e3, e5, x'⟩ := x.recv hp
        have tp := (x.t.ps p hpm).1
        refine Ev.to e9 (Ev.to (by rw [idx_nat, hp]) (Ev.to (mReply_eq tp 0 (by simp)) ?_))
        rw [ey]
        refine Ev.to (mResponse_eq (by omega) ty) ?_
        rw [e2]
        refine Ev.to (eRecv_eq hf x.t hsb) ?_
        rw [e3]
        refine Ev.iteF rfl (Ev.to (eRecv_eq hf x'.t hsb) (Ev.iteF e5 (Ev.letP ?_)))
        rw [wr (n := en + 1) (by omega)]
        exact hj2 _ ⟨x', k9⟩
  · refine Ev.decF (by omega) ?_
    have hi40 : i = 40 := by omega
    subst hi40
    refine Ev.count 4 (fun k (s : Int × Int × Int × Requester_) => s.2.2.1 = (k : Int) ∧ RV s.2.2.2 ∧ RT s.2.2.2 ∧ s.1 + (s.2.2.2.Pending.length : Int) = tot ∧ 0 ≤ s.1 ∧ 0 ≤ s.2.1 ∧ s.2.1 ≤ 1200 + 200 * k ∧ (∀ p ∈ s.2.2.2.Pending, p.Deadline ≤ s.2.1 + 40 ∧ (k : Int) + 1 ≤ p.Tries)) (by omega) ⟨rfl, x.v, x.t, hcn, he0, x0, by simp only; omega, fun p hp => ⟨x.dl p hp, by have := (x.v.pv p hp).1; omega⟩⟩ (fun k s hk hK self2 hself2 => ?_)
    obtain ⟨en2, now2, kk, r2⟩ := s
    obtain ⟨q1, q2, q3, q4, q5, q6, q7, q8⟩ := hK
    simp only at q1 q2 q3 q4 q5 q6 q7 q8
    subst q1
    simp only
    have hl82 := RT.len8 q2
    by_cases hkl : k < 4
    · refine Ev.decT (by omega) ?_
      rw [wr (n := now2 + 200) (by omega)]
      refine Ev.letP (Ev.to (eTick_eq hf q3) ?_)
      have v' := rtick_V q2 (now2 + 200)
      have t' := (rtick_RT q3 (now := now2 + 200)).1
      rw [rtick_eq q2 (by omega) (by omega)] at v' t' ⊢
      have hlen := tk_len (now2 + 200) r2.Pending
      have hkept := tk_kept (now2 + 200) r2.Pending (BB_nodup q2 q3)
      simp only
      rw [wr (n := en2 + ((tk (now2 + 200) r2.Pending).2.2.length : Int)) (by omega), wi k (by omega)]
      refine Ev.letP (Ev.letP (hself2 _ hkl ⟨by simp, v', t', by simp only; omega, by simp only; omega, by simp only; omega, by simp only; omega, fun q hq => ?_⟩))
      obtain ⟨p, hp, ⟨rfl, h3, _⟩ | ⟨rfl, _, h3⟩⟩ := hkept q hq
      · have := (q8 q hp).1
        omega
      · have h5 := q2.pv p hp
        have h6 := (q8 p hp).2
        refine ⟨bump_le h5.1 h5.2.1 h3, ?_⟩
        simp only [bump]; omega
    · refine Ev.decF (by omega) ?_
      have hempty : r2.Pending = [] := by
        cases hp : r2.Pending with
        | nil => rfl
        | cons p l =>
          have hpm : p ∈ r2.Pending := by rw [hp]; simp
          have h6 := (q8 p hpm).2
          have h7 := (q2.pv p hpm).2.1
          omega
      rw [hempty] at q4 ⊢
      refine Ev.beqT rfl (Ev.letP (Ev.ret ?_))
      simp only [List.length_nil] at q4
      exact beq_iff_eq.2 (by omega)
end Lift
