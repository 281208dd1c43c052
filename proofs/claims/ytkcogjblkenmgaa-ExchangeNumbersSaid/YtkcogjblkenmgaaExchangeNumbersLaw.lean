/- The plain law of ExchangeNumbers. uses: base lists sum8 ev messages mreplies mparse mround mtyped gen2 codes2 exch exch2 exch3 exch4 exch5 awake24
-/
import Derived.Test.YtkcogjblkenmgaaAwake24
import Derived.Test.YtkcogjblkenmgaaExch5
set_option linter.unusedVariables false
set_option linter.unusedSimpArgs false
namespace Lift
open Go
theorem fseq_nil' (to : Int) {a : Nat} (ha : a ≤ 63) : fseq [] to (a : Int) = (a : Int) := by
  obtain ⟨h1, h2, h3⟩ := freeK_spec (l := []) (by simp) to a
  unfold fseq
  have : freeK [] to a = 0 := by
    refine Classical.byContradiction fun h => ?_
    obtain ⟨p, hp, _⟩ := h3 0 (by omega)
    cases hp
  rw [show ((a : Int)).toNat = a from rfl, this]; omega
theorem law24_ExchangeNumbers_true (a0 : Int) (a1 : List Bool) (o0 : okI .u8 a0) (o1 : okL (fun (_ : Bool) => True) a1) : ∃ fuel, law24_ExchangeNumbers fuel a0 a1 = some true := by
  refine ⟨10000, Ev.isTrue ?_⟩
  unfold law24_ExchangeNumbers
  have h0 := okI_u8.1 o0
  refine Ev.to law24_awake_eq (Ev.iteF rfl (Ev.to (eNew_eq _ _) ?_))
  rw [if_pos (by decide)]
  obtain ⟨s0, rfl⟩ := Int.eq_ofNat_of_zero_le h0.1
  have hm64 : Int.tmod (s0 : Int) 64 = ((s0 % 64 : Nat) : Int) := (Int.ofNat_tmod s0 64).symm
  rw [hm64, wr (n := ((s0 % 64 : Nat) : Int)) (by omega)]
  refine Ev.bneF rfl (Ev.letP ?_)
  refine Ev.count 200 (fun i (s : Int × Int × Requester_) => s.2.1 = (i : Int) ∧ ∃ w : Nat, w ≤ 63 ∧ s.1 = (w : Int) ∧ s.2.2 = ⟨32, w, []⟩) (by omega) ⟨rfl, s0 % 64, by omega, rfl, rfl⟩ (fun i s hi hI self hself => ?_)
  obtain ⟨hi1, w, hw, hw1, hr⟩ := hI
  rw [hi1, hw1, hr]
  refine Ev.join (fun s2 => s2 = true → i < a1.length ∧ i < 200) (fun s2 hs2 => Ev.ite (fun e2 => ?_) (fun _ => Ev.ret rfl)) (fun j hj => Ev.dec (fun h1 => hj _ (fun e => ?_)) (fun _ => hj _ (fun e => by cases e)))
  rotate_left
  · have := of_decide_eq_true e
    exact ⟨by omega, by omega⟩
  obtain ⟨hil, hi2⟩ := hs2 e2
  obtain ⟨x, hx, _⟩ := getq hil
  refine Ev.to (by rw [idx_nat, hx]) (Ev.join (fun z => z = 64 ∨ z = 65) (fun z hz => ?_) (fun j2 hj2 => Ev.ite (fun _ => hj2 _ (.inr rfl)) (fun _ => hj2 _ (.inl rfl))))
  have t0 : RT ⟨32, w, []⟩ := ⟨(show byte 32 from ⟨by decide, by decide⟩), okI_i64.2 ⟨by simp only; omega, by simp only; omega⟩, fun p hp => (by cases hp), by simp⟩
  have v0 : RV ⟨32, w, []⟩ := ⟨(show (8 : Int) ≤ 32 by decide), (show (32 : Int) ≤ 119 by decide), by simp only; omega, by simp only; omega, by simp, fun i p hp => by simp at hp⟩
  have bz : byte z := by rcases hz with rfl | rfl <;> exact ⟨by decide, by decide⟩
  have b6 : byte 6 := ⟨by decide, by decide⟩
  have b1 : byte 1 := ⟨by decide, by decide⟩
  have hmsg : smsg ⟨32, w, []⟩ z 6 1 [] = ⟨z, 32, 6, 1, 0, 0, w, 0, []⟩ := by
    unfold smsg; rw [fseq_nil' z hw]
  have tm := smsg_MT t0 bz b6 b1 (data := []) (fun x hx => (by cases hx)) (by simp)
  rw [hmsg] at tm
  have hm : MV ⟨z, 32, 6, 1, 0, 0, w, 0, []⟩ ∧ (⟨z, 32, 6, 1, 0, 0, w, 0, []⟩ : Message_).Function % 2 = 0 := by
    refine ⟨?_, by show (6 : Int) % 2 = 0; decide⟩
    unfold MV
    rcases hz with rfl | rfl <;> simp <;> omega
  have hrs : rsend ⟨32, w, []⟩ z 6 1 [] 5 = (⟨32, ((w : Int) + 1) % 64, [⟨⟨z, 32, 6, 1, 0, 0, w, 0, []⟩, 15, 1⟩]⟩, mbytes ⟨z, 32, 6, 1, 0, 0, w, 0, []⟩, 0) := by
    unfold rsend
    rw [if_neg (fun h => h v0), if_neg (by omega), if_neg (by simp), hmsg, if_neg (fun h => h (mreq_ok.2 hm)), fseq_nil' z hw]
    unfold mreq
    rw [if_pos hm]; rfl
  refine Ev.to (eSend_eq (by omega) t0 bz b6 b1 (fun x hx => (by cases hx)) (by simp)) ?_
  rw [hrs]
  generalize hM : (⟨z, 32, 6, 1, 0, 0, (w : Int), 0, []⟩ : Message_) = M at tm hm
  have hsm := (mbytes_small hm.1 tm).1
  refine Ev.bneF rfl (Ev.to (mpar_eq (by omega) hsm) ?_)
  rw [mparse_back hm.1 tm false hm.2]
  have hwt : Int.tmod (IntKind.i64.wrap ((w : Int) + 1)) 64 = ((w : Int) + 1) % 64 := by rw [wr (by omega), tm64 (by omega)]
  refine Ev.join (fun s => s = false) (fun s hs => Ev.iteF hs ?_) (fun j3 hj3 => Ev.bneF rfl (Ev.bneF (by rw [← hM]) (Ev.bneF (by rw [← hM]) (Ev.bneF (by rw [← hM]) (hj3 _ ?_)))))
  rotate_left
  · rw [hwt]; simp
  rw [hwt]
  refine Ev.letP (Ev.to (mReply_eq tm 0 (by simp)) ?_)
  have hy : mreply M 0 [] = (⟨M.From, M.To, M.Function + 1, M.Command, M.FromUnit, M.ToUnit, M.Sequence, 0, []⟩, 0) := by
    unfold mreply; rw [if_pos ⟨hm.1, hm.2, by simp⟩]
  obtain ⟨ty, _⟩ := mreply_MT tm (code := 0) (data := []) (show byte 0 from ⟨by decide, by decide⟩) (fun x hx => (by cases hx))
  refine Ev.to (mResponse_eq (by omega) ty) ?_
  have hyV : MV (mreply M 0 []).1 ∧ (mreply M 0 []).1.Function % 2 = 1 := by
    rw [hy, ← hM]
    refine ⟨?_, by show ((6 : Int) + 1) % 2 = 1; decide⟩
    unfold MV
    rcases hz with rfl | rfl <;> simp <;> omega
  have hres : mres (mreply M 0 []).1 = (mbytes (mreply M 0 []).1, 0) := by unfold mres; rw [if_pos hyV]
  rw [hres]
  have t1 : RT ⟨32, ((w : Int) + 1) % 64, [⟨M, 15, 1⟩]⟩ := by
    refine ⟨(show byte 32 from ⟨by decide, by decide⟩), okI_i64.2 ⟨by simp only; omega, by simp only; omega⟩, fun p hp => ?_, by simp⟩
    simp at hp
    subst hp
    exact ⟨tm, okI_i64.2 ⟨by simp only; omega, by simp only; omega⟩, okI_i64.2 ⟨by simp only; omega, by simp only; omega⟩⟩
  have v1 : RV ⟨32, ((w : Int) + 1) % 64, [⟨M, 15, 1⟩]⟩ := by
    have := (rsend_V (r := ⟨32, w, []⟩) (to := z) (fn := 6) (cm := 1) (now := 5) (data := []) (by rw [hrs])).1
    rw [hrs] at this
    rw [← hM]; exact this
  refine Ev.to (eRecv_eq (by omega) t1 (mbytes_small hyV.1 ty).1) ?_
  have hrv : rrecv ⟨32, ((w : Int) + 1) % 64, [⟨M, 15, 1⟩]⟩ (mbytes (mreply M 0 []).1) = (⟨32, ((w : Int) + 1) % 64, []⟩, M, (mreply M 0 []).1, true) := by
    unfold rrecv
    rw [mparse_back hyV.1 ty true hyV.2, if_neg (fun h => h.elim (fun h => h v1) (fun h => h rfl))]
    have hMM : MM M (mreply M 0 []).1 := by
      refine ⟨hm, hyV.1, ?_⟩
      rw [hy]
      exact ⟨rfl, rfl, rfl, rfl, rfl, rfl, rfl⟩
    have : fidx [⟨M, 15, 1⟩] (mreply M 0 []).1 = some 0 := fidx_some (p := ⟨M, 15, 1⟩) rfl (by simp [hMM]) (fun j q hj => by omega)
    simp only [this]; rfl
  rw [hrv]
  refine Ev.join (fun s => s = false) (fun s hs => Ev.iteF hs ?_) (fun j4 hj4 => Ev.iteF rfl (hj4 _ rfl))
  rw [wi i (by omega)]
  refine Ev.letP (hself _ hi2 ⟨by simp, (w + 1) % 64, by omega, by simp only; omega, ?_⟩)
  have : ((w : Int) + 1) % 64 = (((w + 1) % 64 : Nat) : Int) := by omega
  rw [this]
end Lift
