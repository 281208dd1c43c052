/- The plain law of FrameBytes. uses: base crc8 lists sealc frames law20 dice dicebytes diceframe refframes sameframe ev each
-/
import Derived.Test.YtmjilnfeddaekaaLaw20
import Derived.Test.YtmjilnfeddaekaaDiceframe
import Derived.Test.YtmjilnfeddaekaaSameframe
import Derived.Test.YtmjilnfeddaekaaEach
namespace Lift
open Go
theorem rDecode_eq {fuel : Nat} {l : List Int} (h : Small l) (hf : 5000 < fuel) : ref20_Decode fuel l = some (decode l) := by
  have hl := h.1
  unfold ref20_Decode decode
  by_cases h0 : l.length < 5
  · have ed : decide ((l.length : Int) < 5) = true := by simp; omega
    rw [ed, if_pos h0]; rfl
  · have ed : decide ((l.length : Int) < 5) = false := by simp; omega
    have hne : l ≠ [] := by intro e; subst e; simp at h0
    rw [ed, iteP_false, if_neg h0, rOpenCRC8_eq h hf, bindP_some]
    by_cases hs : crc8 (l.take (l.length - 1)) = last l
    · have eo : openC l = (l.take (l.length - 1), 0) := by simp [openC, hne, hs]
      obtain ⟨b0, b1, b2, b3, D, hb, hD⟩ := take_four h0
      have hby := (h.take (l.length - 1)).2
      rw [hb] at hs hby eo ⊢
      rw [eo]
      have c0 := half (hby b0 (by simp))
      have c3 := half (hby b3 (by simp))
      obtain ⟨d1, d2⟩ := hby b2 (by simp)
      have i0 : idx (b0 :: b1 :: b2 :: b3 :: D) 0 = some b0 := rfl
      have i1 : idx (b0 :: b1 :: b2 :: b3 :: D) 1 = some b1 := rfl
      have i2 : idx (b0 :: b1 :: b2 :: b3 :: D) 2 = some b2 := rfl
      have i3 : idx (b0 :: b1 :: b2 :: b3 :: D) 3 = some b3 := rfl
      have sd : sub (b0 :: b1 :: b2 :: b3 :: D) 4 (b0 :: b1 :: b2 :: b3 :: D).length = some D := by
        have := sub_drop (l := b0 :: b1 :: b2 :: b3 :: D) (b := 4) (by omega) (by simp; omega)
        simpa using this
      have hn : ¬ crc8 (b0 :: b1 :: b2 :: b3 :: D) ≠ last l := by simpa using hs
      have w2 : IntKind.i64.wrap b2 = b2 := w_i64 (by omega) (by omega)
      have wl4 : IntKind.i64.wrap ((l.length : Int) - 4) = (l.length : Int) - 4 := w_i64 (by omega) (by omega)
      have ra : ∀ a : Int, ref20_Address fuel a = some (addr a) := rAddress_eq fuel
      rw [if_neg hn]
      simp only [bne_self_eq_false, iteP_false, i0, i1, i2, i3, sd, bindP_some, c0.1, c0.2, c3.1, c3.2, w2, wl4, joinP_eq, letP_eq]
      rw [Copy_eq (by omega) (by omega), bindP_some]
      simp only [iteP_eq, ra, bindP_some]
      by_cases t0 : b0 % 2 = 0
      · by_cases t1 : b1 = 15
        · by_cases t2 : b2 = (l.length : Int) - 4
          · by_cases t3 : b3 % 2 = 1
            · have t3' : ¬ b3 % 2 = 0 := by omega
              cases a1 : addr (b0 / 2) <;> cases a2 : addr (b3 / 2) <;> by_cases t4 : D.length ≤ 72 <;> simp [t0, t1, t2, t3, a1, a2, t4] <;> omega
            · have t3' : b3 % 2 = 0 := by omega
              simp [t0, t1, t2, t3']
          · simp [t0, t1, t2]
        · simp [t0, t1]
      · simp [t0]
    · have eo : openC l = ([], 5) := by simp [openC, hne, hs]
      rw [eo, if_pos hs]; rfl
theorem decode_len (l : List Int) : (decode l).1.Data.length ≤ 72 := by
  unfold decode
  split
  · simp [Frame_.z]
  · split
    · simp [Frame_.z]
    · split
      · split
        · split
          · split
            · assumption
            · simp [Frame_.z]
          · simp [Frame_.z]
        · simp [Frame_.z]
      · simp [Frame_.z]
theorem encode_len {f : Frame_} : (encode f).1.length ≤ 77 := by
  unfold encode
  cases h : valid f with
  | false => simp
  | true => have := (valid_iff.1 h).2.2; simp [body, head]; omega
theorem next_nat (fuel : Nat) {d : made_Dice} (h : DOk d) {m : Nat} (h1 : 0 < m) (h2 : m ≤ 1000000) : ∃ (r : Nat) (d' : made_Dice), made_Dice_Next fuel d (m : Int) = some ((r : Int), d') ∧ r < m ∧ DOk d' := by
  obtain ⟨r, d', e, r1, r2, hd⟩ := Next_ok fuel h (m := (m : Int)) (by omega) (by omega)
  exact ⟨r.toNat, d', by rw [e, Int.toNat_of_nonneg r1], by omega, hd⟩
theorem small_set {l : List Int} (h : Small l) (i : Nat) {x : Int} (hx : byte x) : Small (l.set i x) :=
  ⟨by simpa using h.1, fun y hy => (List.mem_or_eq_of_mem_set hy).elim (h.2 y) (fun e => e ▸ hx)⟩
theorem law20_FrameBytes_true (a0 : Frame_) (a1 a2 : List Int) (o0 : Frame_.ok a0) (o1 : okL (okI .u8) a1) (o2 : okL (okI .i64) a2) : ∃ fuel, law20_FrameBytes fuel a0 a1 a2 = some true := by
  refine ⟨6000, Ev.isTrue ?_⟩
  unfold law20_FrameBytes
  have hf : 5000 < 6000 := by omega
  refine Ev.join (fun s => s = false → a0.Data.length ≤ 200 ∧ a1.length ≤ 200 ∧ a2.length ≤ 600) (fun s hs => Ev.ite (fun _ => Ev.to law20_awake_eq (Ev.ret rfl)) (fun e => ?_)) (fun j hj => ?_)
  · obtain ⟨l0, l1, l2⟩ := hs e
    refine Ev.to (Roll_eq _ _) ?_
    obtain ⟨f, d1, e1, hv, hb, hd1⟩ := Frame_ok hf (roll_ok (l := a2) (by omega))
    obtain ⟨b, d2, e2, hbb, hd2⟩ := Byte_ok 6000 hd1
    obtain ⟨L, d3, e3, hL1, hL2, hd3⟩ := Bytes_ok hf hd2 (n := 80) (by omega) (by omega)
    refine Ev.to e1 (Ev.to e2 (Ev.letP (Ev.to e3 (Ev.letP ?_))))
    refine Ev.each (l := [a0, f, { { f with To := b } with Data := L }]) (by simp) (fun i x hx hmem hi self hself => ?_) (fun self => ?_)
    · refine Ev.decT (by simp at hi ⊢; omega) (Ev.to (by rw [idx_nat, hx]) ?_)
      have hxd : ∀ y ∈ x.Data, byte y := by
        simp only [List.mem_cons, List.not_mem_nil, or_false] at hmem
        rcases hmem with rfl | rfl | rfl
        · exact fun y hy => okI_u8.1 (o0.2.2.1.2 y hy)
        · exact hb
        · exact hL2
      have hl := encode_len (f := x)
      refine Ev.to (Encode_eq hxd hf) (Ev.to (rEncode_eq hxd hf) (Ev.join (fun s => s = false) (fun s hs => Ev.iteF hs ?_) (fun j2 hj2 => ?_)))
      · rw [w_i64 (by have : i < 3 := by simpa using hi
                      omega) (by have : i < 3 := by simpa using hi
                                 omega)]
        exact hself
      · exact Ev.to (Valid_eq _ _) (Ev.to (rValid_eq _ _) (Ev.letP (Ev.bneF rfl (Ev.letP (Ev.bneF rfl (Ev.to (Same_eq (by omega) (by omega)) (hj2 _ (by simp))))))))
    · refine Ev.decF (by simp) ?_
      obtain ⟨q1, q2, q3⟩ := encode_ok hv hb
      have hbs := body_small hv hb
      have hbl : (body f).length = f.Data.length + 4 := by simp [body, head]
      have h72 := (valid_iff.1 hv).2.2
      refine Ev.to ((rEncode_eq hb hf).trans (by rw [q1])) ?_
      simp only
      have hgl : (body f ++ [crc8 (body f)]).length = f.Data.length + 5 := by simp [body, head]
      have hgs : Small (body f ++ [crc8 (body f)]) := ⟨by omega, q2⟩
      refine Ev.to (a := body f) (by rw [hgl, w_i64 (by omega) (by omega), sub_take (by omega) (by omega)]; congr 1; rw [show ((((f.Data.length + 5 : Nat) : Int) - 1)).toNat = (body f).length by omega]; simp) ?_
      refine Ev.to (a := body f) (by rw [app_ok (by simp; omega)]; simp) ?_
      obtain ⟨r, d4, e4, hr, hd4⟩ := next_nat 6000 hd3 (m := (body f).length) (by omega) (by omega)
      obtain ⟨b2, d5, e5, hb2, hd5⟩ := Byte_ok 6000 hd4
      refine Ev.to e4 (Ev.to e5 (Ev.to (a := (body f)[r]'hr) (by rw [idx_nat]; simp) (Ev.letE (c := (body f).set r b2) (by simp [upd]) ?_)))
      obtain ⟨k3, d6, e6, hk3, hd6⟩ := next_nat 6000 hd5 (m := 3) (by omega) (by omega)
      refine Ev.to e6 (Ev.to (a := List.replicate 73 0) (by rw [show (73 : Int) = ((73 : Nat) : Int) from rfl, mk_ok (by omega)]) (Ev.to (app_ok (by simp)) ?_))
      have s1 := small_set hbs r hb2
      have s2 := small_of o1 (by omega)
      have s3 : Small ([32, 15, (IntKind.u8.wrap (IntKind.i64.wrap (73 + (k3 : Int)))), 65] ++ List.replicate 73 0) := by
        refine ⟨by simp, fun x hx => ?_⟩
        rw [w_i64 (by omega) (by omega), w_u8] at hx
        rcases List.mem_append.1 hx with hx | hx
        · simp only [List.mem_cons, List.not_mem_nil, or_false] at hx
          rcases hx with rfl | rfl | rfl | rfl <;> constructor <;> omega
        · rw [List.eq_of_mem_replicate hx]; constructor <;> omega
      refine Ev.to (rSealCRC8_eq s1 hf) (Ev.to (rSealCRC8_eq s2 hf) (Ev.to (rSealCRC8_eq s3 hf) ?_))
      obtain ⟨k4, d7, e7, hk4, hd7⟩ := next_nat 6000 hd6 (m := (body f ++ [crc8 (body f)]).length) (by omega) (by omega)
      refine Ev.to e7 (Ev.to (a := (body f ++ [crc8 (body f)]).take k4) (by rw [sub_take (by omega) (by omega)]; simp) ?_)
      have hsl : ∀ {l : List Int}, Small l → l.length ≤ 1000 → Small (l ++ [crc8 l]) := fun {l} hl hle => hl.append (by simpa using (crc8_eq hl).2) (by simp; omega)
      refine Ev.each (l := [a1, body f ++ [crc8 (body f)], (body f).set r b2, (body f).set r b2 ++ [crc8 ((body f).set r b2)], a1 ++ [crc8 a1], ([32, 15, (IntKind.u8.wrap (IntKind.i64.wrap (73 + (k3 : Int)))), 65] ++ List.replicate 73 0) ++ [crc8 ([32, 15, (IntKind.u8.wrap (IntKind.i64.wrap (73 + (k3 : Int)))), 65] ++ List.replicate 73 0)], (body f ++ [crc8 (body f)]).take k4]) (by simp) (fun i x hx hmem hi self hself => ?_) (fun self => ?_)
      · have hxs : Small x := by
          simp only [List.mem_cons, List.not_mem_nil, or_false] at hmem
          rcases hmem with rfl | rfl | rfl | rfl | rfl | rfl | rfl
          · exact s2
          · exact hgs
          · exact s1
          · exact hsl s1 (by simp; omega)
          · exact hsl s2 (by omega)
          · exact hsl s3 (by simp)
          · exact hgs.take _
        have hl := decode_len x
        refine Ev.decT (by simp at hi ⊢; omega) (Ev.to (by rw [idx_nat, hx]) (Ev.to (Decode_eq hxs hf) (Ev.to (rDecode_eq hxs hf) (Ev.join (fun s => s = false) (fun s hs => Ev.iteF hs ?_) (fun j2 hj2 => ?_)))))
        · rw [w_i64 (by have : i < 7 := by simpa using hi
                        omega) (by have : i < 7 := by simpa using hi
                                   omega)]
          exact hself
        · exact Ev.bneF rfl (Ev.to (rSame_eq _ _ (by omega)) (hj2 _ (by simp)))
      · exact Ev.decF (by simp) (Ev.to law20_awake_eq (Ev.ret rfl))
  · refine Ev.dec (fun _ => hj _ (fun e => by cases e)) (fun h0 => Ev.dec (fun _ => hj _ (fun e => by cases e)) (fun h1 => Ev.to (Light_eq _ _) (hj _ (fun e => ?_))))
    have h2 : (a2.length : Int) ≤ 600 := by simpa using e
    omega
end Lift
