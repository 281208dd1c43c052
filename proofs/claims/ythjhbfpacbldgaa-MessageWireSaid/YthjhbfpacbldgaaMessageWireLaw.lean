/- The plain law of MessageWire. uses: base lists sum8 ev messages dice dicebytes dicemessage each mreplies mparse mround wirec wirea wireb wired awake23
-/
import Derived.Test.YthjhbfpacbldgaaWired
import Derived.Test.YthjhbfpacbldgaaAwake23
set_option linter.unusedVariables false
set_option linter.unusedSimpArgs false
namespace Lift
open Go
theorem law23_MessageWire_true (a0 : List Int) (a1 a2 a3 : Int) (o0 : okL (okI .i64) a0) (o1 : okI .i64 a1) (o2 : okI .i64 a2) (o3 : okI .u8 a3) : ∃ fuel, law23_MessageWire fuel a0 a1 a2 a3 = some true := by
  refine ⟨6000, Ev.isTrue ?_⟩
  unfold law23_MessageWire
  have hf : 5000 < 6000 := by omega
  have skip : Ev (bindP (law23_awake 6000) fun y2 => some y2) (fun b => b = true) := Ev.to law23_awake_eq (Ev.ret rfl)
  refine Ev.to (Light_eq _ _) (Ev.not (Ev.dec (fun hl => ?_) (fun _ => skip)))
  obtain ⟨m, d2, e2, ⟨tm, vm, pm, _⟩, h2⟩ := Message_ok hf (roll_ok (l := a0) (by omega)) false
  obtain ⟨hs, hl1, hl2⟩ := mbytes_small vm tm
  have hreq : mreq m = (mbytes m, 0) := by
    simp at pm
    simp [mreq, vm, pm]
  refine Ev.to (Roll_eq _ _) (Ev.to e2 (Ev.to (mRequest_eq hf tm) ?_))
  rw [hreq]
  rw [Mod_eq 6000 (by omega) (by omega), bindP_some]
  have q5 := Int.emod_nonneg a1 (show (64 : Int) ≠ 0 by omega)
  have q6 := Int.emod_lt_of_pos a1 (show (0 : Int) < 64 by omega)
  rw [pwr (by omega)]
  obtain ⟨k, hk⟩ : ∃ k : Nat, 1 + a1 % 64 = k := ⟨(1 + a1 % 64).toNat, by omega⟩
  have hkp : 0 < k := by omega
  generalize hB : mbytes m = B at *
  have hBl : 0 < B.length ∧ B.length ≤ 512 := by omega
  have n1 : fragment_New 6000 9 = some (some ⟨9, []⟩, 0) := FNew_eq 6000 9
  have hsp : splitR 9 10 true 2 (k : Int) B = (pkts 9 10 true 2 k B, 0) := by
    unfold splitR
    rw [if_neg (by decide), if_neg (by omega), if_neg (by omega), if_neg (by omega)]; rfl
  rw [hk, Split_eq (by omega), bindP_some, n1, bindP_some, hsp, joinP]
  have hlen : (pkts 9 10 true 2 k B).length = nsp k B := by simp [pkts]
  have hle := nsp_le hkp B
  have hpos := nsp_pos hkp hBl.1
  have hpk : ∀ i : Nat, i < nsp k B → (pkts 9 10 true 2 k B)[i]? = some (pkt 9 10 true 2 k B i) := fun i hi => by simp [pkts, List.getElem?_range hi]
  dsimp only
  simp only [hlen]
  refine Ev.bneF rfl (Ev.bneF rfl (Ev.bneF rfl (Ev.iteF rfl (Ev.iteF (by simp; omega) ?_))))
  refine Ev.loop (fun r (s : List Int × Int × Option fragment_Assembler) => ∃ (i : Nat) (a : fragment_Assembler) (c : Option Nat), i ≤ nsp k B ∧ r = nsp k B - i ∧ s.2 = ((i : Int), some a) ∧ PAR a ∧ a.own = 9 ∧ OpenIs k B a.open_ c ∧ (i = 0 → c = none) ∧ (1 ≤ i → i < nsp k B → c = some i) ∧ (i = nsp k B → s.1 = B)) (fun r s hi self hself => ?_) (n := nsp k B) (by omega)
    ⟨0, ⟨9, []⟩, none, by omega, by omega, rfl, new_AR 9, rfl, rfl, fun _ => rfl, fun h => by omega, fun h => by omega⟩
  obtain ⟨i, a, c, hi, hr, hs2, hA, ho, hc, hc0, hc1, hgot⟩ := hi
  obtain ⟨got, s2⟩ := s
  simp only at hs2 hgot
  subst hs2
  by_cases hlt : i < nsp k B
  · refine Ev.decT (by simp only; omega) ?_
    have h1 := (nsp_lt hkp).1 hlt
    have hpl := piece_len (k := k) (xs := B) (i := i)
    have hn : vnum (pkt 9 10 true 2 k B i) = true := decide_eq_true ⟨by simp only [pkt]; omega, by simp only [pkt]; omega, by simp [pkt], by simp [pkt], by show 1 ≤ (piece k B i).length; rw [hpl]; omega, by show (piece k B i).length ≤ 64; rw [hpl]; omega⟩
    have hv : pvalidB (pkt 9 10 true 2 k B i) = true := by
      show (endp 9 && (endp 10 && vnum _)) = true
      rw [hn]; decide
    have hpb : ∀ x ∈ (pkt 9 10 true 2 k B i).Data, byte x := fun x hx => hs.2 x (List.mem_of_mem_drop (List.mem_of_mem_take hx))
    have hj : ∀ j, c = some j → j % 4 = i % 4 → j = i := by
      intro j e1 _
      by_cases h0 : i = 0
      · rw [hc0 h0] at e1; cases e1
      · rw [hc1 (by omega) hlt] at e1; cases e1; rfl
    obtain ⟨w1, w2, w3⟩ := step_ok hkp (by omega) (by omega) hlt hA ho hc hj
    obtain ⟨z1, z2⟩ := nxt_clean hlt hc0 hc1
    have hdec := dec_enc hv
    have hE2 : (encR (pkt 9 10 true 2 k B i)).2 = 0 := by simp only [encR, hv, if_true]
    have hEb := encR_byte hv hpb
    have hEl : (encR (pkt 9 10 true 2 k B i)).1.length ≤ 72 := by
      simp only [encR, hv, if_true, List.length_append, List.length_cons, List.length_nil]
      show 4 + (piece k B i).length ≤ 72
      rw [hpl]; omega
    rw [idx_nat, hpk i hlt, bindP_some, fragEncode_eq (by omega), bindP_some]
    generalize hEE : encR (pkt 9 10 true 2 k B i) = EE at *
    obtain ⟨x, ex⟩ := EE
    simp only at hE2 hEb hEl hdec
    subst hE2
    have hfv : valid (⟨16, 64, x⟩ : Frame_) = true := valid_iff.2 ⟨by simp, by simp, hEl⟩
    have hs0 := body_small hfv hEb
    obtain ⟨n, en, hnb, hnl, hz⟩ := sealed_nat hs0
    have hbl : (body (⟨16, 64, x⟩ : Frame_)).length = x.length + 4 := by simp [body, head]
    have hfe : frame_Encode 6000 (⟨16, 64, x⟩ : Frame_) = some (toI n, 0) := by rw [Encode_eq hEb hf, encode, hfv, if_pos rfl, en]
    have hd0 : decode (toI n) = (⟨16, 64, x⟩, 0) := by rw [← en]; exact decode_body hfv
    have hfd : frame_Decode 6000 (toI n) = some (⟨16, 64, x⟩, 0) := by rw [Decode_eq (toI_small hnb (by omega)) hf, hd0]
    have hpd : fragment_Decode 6000 x = some (pkt 9 10 true 2 k B i, 0) := by rw [fragDecode_eq (by omega) (by omega) hEb, hdec]
    dsimp only
    rw [hfe, bindP_some, hfd, bindP_some]
    dsimp only
    rw [hpd, bindP_some, bindP_some, fragAccept_eq (by omega) hA, bindP_some, joinP]
    have hcode : (pacc a (pkt 9 10 true 2 k B i)).2.2.1 = 0 := by
      exact step_code hkp (by omega) (by omega) hlt hA ho hc hc0 (fun h => hc1 h hlt)
    have hN1 : IntKind.i64.wrap (((nsp k B : Nat) : Int) - 1) = ((nsp k B : Nat) : Int) - 1 := pwr (by omega)
    refine Ev.bneF rfl (Ev.bneF rfl (Ev.bneF rfl (Ev.bneF rfl (Ev.bneF hcode ?_))))
    rw [hN1]
    refine Ev.iteF (by rw [w1, z1]; simp only [bne_eq_false_iff_eq]; rw [Bool.eq_iff_iff]; simp; omega) ?_
    have hnext : ∀ g : List Int, (i + 1 = nsp k B → g = B) → Ev (self (g, IntKind.i64.wrap ((i : Int) + 1), some (pacc a (pkt 9 10 true 2 k B i)).2.2.2)) (fun b => b = true) := by
      intro g hg
      rw [wi i (by omega)]
      refine hself (nsp k B - (i + 1)) _ (by omega) ⟨i + 1, _, _, by omega, rfl, rfl, (hA.pacc _).1, (hA.pacc _).2.trans ho, w3, fun h => by omega, fun _ h => z2 h, hg⟩
    have hrest : ∀ g : List Int, (i + 1 = nsp k B → g = B) → Ev (iteP (a3 != 0) (bindP (made_Mod 6000 a2 ((toI n).length : Int)) fun y14 => bindP (idx (toI n) y14) fun x3 => bindP (idx (toI n) y14) fun x4 => letP (upd (toI n) y14 (bXor .u8 x3 a3)) fun d1 => bindP (frame_Decode 6000 d1) fun y15 => iteP (y15.2 != 5) (some false) (
        letP (IntKind.i64.wrap ((i : Int) + 1)) fun x5 => self (g, x5, (some (pacc a (pkt 9 10 true 2 k B i)).2.2.2)))) (letP (IntKind.i64.wrap ((i : Int) + 1)) fun x6 => self (g, x6, (some (pacc a (pkt 9 10 true 2 k B i)).2.2.2)))) (fun b => b = true) := by
      intro g hg
      refine Ev.bne (fun hne => ?_) (fun _ => by rw [letP_eq]; exact hnext g hg)
      obtain ⟨b1, b2⟩ := okI_u8.1 o3
      obtain ⟨mk_, rfl, hmk⟩ := nat_of (a := a3) (m := 256) b1 (by omega)
      obtain ⟨kk, hkk, _, e4⟩ := mod_nat 6000 a2 (m := n.length) (by omega) (by omega)
      rw [toI_len, e4, bindP_some, idx_nat, toI_get hkk, bindP_some, bindP_some, letP_eq, upd_xor hnb hkk hmk]
      have hml := mod_lt (i := kk) (m := mk_) hnb hmk
      have h5 := decode_five hml (by simp; omega) (by
        rw [cN_mod n 0 kk mk_ hnb (by omega) hmk hkk, hz, Nat.zero_xor]
        exact it_ne _ mk_ hmk (fun h0 => hne (by rw [h0]; rfl)))
      rw [Decode_eq (toI_small hml (by simp; omega)) hf, h5, bindP_some, letP_eq]
      exact Ev.bneF rfl (hnext g hg)
    rw [joinP]
    cases hd : (pacc a (pkt 9 10 true 2 k B i)).2.1 with
    | true =>
      refine Ev.iteT rfl (hrest _ (fun _ => ?_))
      exact w2 (by rw [← w1]; exact hd)
    | false =>
      refine Ev.iteF rfl (hrest _ (fun h => ?_))
      rw [w1, z1, h] at hd
      simp at hd
  · have hii : i = nsp k B := by omega
    refine Ev.decF (by simp only; omega) ?_
    dsimp only
    rw [hgot hii]
    have q1 := mparse_back vm tm false pm
    rw [hB] at q1
    refine Ev.to (mpar_eq hf hs) ?_
    rw [q1]
    refine Ev.beqT rfl ?_
    refine Ev.to (mSame_eq hf _ _ (Nat.le_trans tm.le (by omega))) (Ev.iteT (by simp) skip)
end Lift
