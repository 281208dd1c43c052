import Derived.Test.YtahlmfpllhmjoaaGreatDoorCarb
set_option linter.unusedVariables false
set_option linter.unusedSimpArgs false
namespace Lift
open Go
def src (o:fragment_open):Int:=o.whole.From
def ofs (f:Int):List fragment_open→Option fragment_open
  | []=>none
  | o::l=>if src o=f then some o else ofs f l
structure KU (l:List fragment_open):Prop where
  nd:(l.map src).Nodup
  rg:∀ o∈l,10≤src o∧src o≤17∧o.whole.Owner=true∧o.whole.Tag=1
structure PK (p:Packet_):Prop where
  v:validB p=true
  to:p.To=9
  frm:10≤p.From∧p.From≤17
  ow:p.Owner=true
  tag:p.Tag=1
def one (st:Option fragment_open) (p:Packet_):Whole_×Bool×Int×Option fragment_open :=
  if p.Start=true then (if p.End=true then (wof p,true,0,none) else (Whole_.z,false,0,some (oof p)))
  else match st with
    | none=>(Whole_.z,false,8,none)
    | some o=>if bad o p=true then (Whole_.z,false,15,none) else if 512<o.whole.Data.length+p.Data.length then (Whole_.z,false,3,none) else if p.End=true then ((grown o p).whole,true,0,none) else (Whole_.z,false,0,some (grown o p))
theorem fkey_src {p:Packet_} (hp:PK p) {l:List fragment_open} (h:KU l) {o:fragment_open} (ho:o∈l):fkey p o=decide (src o=p.From):=by
  obtain ⟨_,_,h3,h4⟩:=h.rg o ho
  simp only [fkey,h3,h4,hp.ow,hp.tag,src]
  by_cases e:o.whole.From=p.From<;>simp [e]
theorem ofs_none {f:Int}:∀ {l:List fragment_open},(∀ o∈l,src o≠f)→ofs f l=none
  | [],_=>rfl
  | o::l,h=>by
    simp only [ofs]
    rw [if_neg (h o (by simp))]
    exact ofs_none (λ x hx=>h x (by simp [hx]))
theorem ofs_at {f:Int}:∀ {l:List fragment_open} {i:Nat} {o:fragment_open},(l.map src).Nodup→l[i]?=some o→src o=f→ofs f l=some o
  | [],_,_,_,h,_=>by simp at h
  | a::l,0,o,_,h,e=>by
    simp at h;subst h;simp [ofs,e]
  | a::l,i+1,o,hn,h,e=>by
    simp only [List.map_cons,List.nodup_cons] at hn
    simp only [List.getElem?_cons_succ] at h
    have hne:src a≠f:=λ e2=>hn.1 (List.mem_map.2 ⟨o,List.mem_of_getElem? h,by rw [e,e2]⟩)
    simp only [ofs]
    rw [if_neg hne]
    exact ofs_at hn.2 h e
theorem ofs_append {f:Int}:∀ {l m:List fragment_open},ofs f (l++m)=match ofs f l with | some o=>some o | none=>ofs f m
  | [],m=>rfl
  | o::l,m=>by
    simp only [List.cons_append,ofs]
    split
    · rfl
    · exact ofs_append
theorem ofs_del {f:Int}:∀ {l:List fragment_open} {i:Nat} {o:fragment_open},(l.map src).Nodup→l[i]?=some o→ofs f (fdel l i)=if src o=f then none else ofs f l:=by
  intro l i o hn h
  have hi:=lt_len h
  have hsp:l=l.take i++o::l.drop (i+1):=by
    rw [List.getElem?_eq_getElem hi] at h
    rw [← Option.some.inj h,← List.drop_eq_getElem_cons hi,List.take_append_drop]
  have hd:fdel l i=l.take i++l.drop (i+1):=rfl
  rw [hd]
  generalize l.take i=a at hsp
  generalize l.drop (i+1)=b at hsp
  subst hsp
  simp only [List.map_append,List.map_cons,List.nodup_append,List.nodup_cons] at hn
  obtain ⟨n1,⟨n2,n3⟩,n4⟩:=hn
  by_cases e:src o=f
  · rw [if_pos e]
    apply ofs_none
    intro x hx ex
    rcases List.mem_append.1 hx with hx | hx
    · exact n4 (src x) (List.mem_map.2 ⟨x,hx,rfl⟩) (src o) (by simp) (by rw [ex,e])
    · exact n2 (List.mem_map.2 ⟨x,hx,by rw [ex,e]⟩)
  · rw [if_neg e,ofs_append,ofs_append]
    simp only [ofs]
    rw [if_neg e]
theorem ofs_set {f:Int} {l:List fragment_open} {i:Nat} {o o':fragment_open} (hn:(l.map src).Nodup) (h:l[i]?=some o) (he:src o'=src o):ofs f (l.set i o')=if src o=f then some o' else ofs f l:=by
  have hi:=lt_len h
  have hsp:l=l.take i++o::l.drop (i+1):=by
    rw [List.getElem?_eq_getElem hi] at h
    rw [← Option.some.inj h,← List.drop_eq_getElem_cons hi,List.take_append_drop]
  have hset:l.set i o'=l.take i++o'::l.drop (i+1):=by
    rw [List.set_eq_take_append_cons_drop,if_pos hi]
  rw [hset]
  generalize l.take i=a at hsp
  generalize l.drop (i+1)=b at hsp
  subst hsp
  simp only [List.map_append,List.map_cons,List.nodup_append,List.nodup_cons] at hn
  obtain ⟨n1,⟨n2,n3⟩,n4⟩:=hn
  rw [ofs_append,ofs_append]
  simp only [ofs,he]
  by_cases e:src o=f
  · rw [if_pos e,if_pos e]
    have:ofs f a=none:=ofs_none (λ x hx ex=>n4 (src x) (List.mem_map.2 ⟨x,hx,rfl⟩) (src o) (by simp) (by rw [ex,e]))
    rw [this]
  · simp only [if_neg e]
theorem KU.len {l:List fragment_open} (h:KU l):l.length≤8:=by
  have hk:∀ x∈l.map src,x∈[10,11,12,13,14,15,16,17]:=λ x hx=>by
    obtain ⟨o,ho,rfl⟩:=List.mem_map.1 hx
    have:=h.rg o ho
    simp;omega
  have:=List.Nodup.length_le_of_subset h.nd (λ x hx=>hk x hx)
  simpa using this
theorem KU.del {l:List fragment_open} (h:KU l) (i:Nat):KU (fdel l i):=by
  refine ⟨?_,λ o ho=>h.rg o (fdel_mem ho)⟩
  have hs:(fdel l i).map src=fdel (l.map src) i:=(fdel_map src l i).symm
  rw [hs]
  unfold fdel
  have hn:=h.nd
  generalize l.map src=m at hn
  have hsub:(m.take i++m.drop (i+1)).Sublist m:=by
    conv=>rhs;rw [← List.take_append_drop i m]
    refine List.Sublist.append (List.Sublist.refl _) ?_
    rw [show m.drop (i+1)=(m.drop i).drop 1 by rw [List.drop_drop]]
    exact List.drop_sublist _ _
  exact hn.sublist hsub
theorem KU.set {l:List fragment_open} (h:KU l) {i:Nat} {o o':fragment_open} (ho:l[i]?=some o) (e:src o'=src o) (e2:o'.whole.Owner=true∧o'.whole.Tag=1):KU (l.set i o'):=by
  refine ⟨?_,λ x hx=>?_⟩
  · have:(l.set i o').map src=l.map src:=by
      rw [List.map_set,e]
      apply List.ext_getElem?
      intro j
      rw [List.getElem?_set]
      split
      · rename_i hj;subst hj
        split
        · rw [List.getElem?_map,ho];rfl
        · rename_i hh;rw [List.getElem?_eq_none (by omega)]
      · rfl
    rw [this];exact h.nd
  · rcases List.mem_or_eq_of_mem_set hx with hx | hx
    · exact h.rg x hx
    · have:=h.rg o (List.mem_of_getElem? ho)
      rw [hx,e];exact ⟨this.1,this.2.1,e2⟩
theorem KU.snoc {l:List fragment_open} (h:KU l) {o:fragment_open} (hn:∀ x∈l,src x≠src o) (hr:10≤src o∧src o≤17∧o.whole.Owner=true∧o.whole.Tag=1):KU (l++[o]):=by
  refine ⟨?_,λ x hx=>?_⟩
  · rw [List.map_append,List.nodup_append]
    refine ⟨h.nd,by simp,λ a ha b hb=>?_⟩
    obtain ⟨x,hx,rfl⟩:=List.mem_map.1 ha
    simp at hb;subst hb
    exact hn x hx
  · rcases List.mem_append.1 hx with hx | hx
    · exact h.rg x hx
    · simp at hx;subst hx;exact hr
theorem of_none {f:Int}:∀ {l:List fragment_open},ofs f l=none→∀ o∈l,src o≠f
  | [],_,o,ho=>by simp at ho
  | a::l,h,o,ho=>by
    simp only [ofs] at h
    split at h
    · cases h
    · rename_i hne
      rcases List.mem_cons.1 ho with rfl | ho
      · exact hne
      · exact of_none h o ho
theorem dropped_facts {p:Packet_} (hp:PK p) {l:List fragment_open} (h:KU l):KU (dropped l p)∧ofs p.From (dropped l p)=none∧∀ g,g≠p.From→ofs g (dropped l p)=ofs g l:=by
  unfold dropped
  rcases ffind_cases l p with ⟨h1,h2⟩ | ⟨i,o,h1,h2,h3⟩
  · rw [h1,if_pos (by omega)]
    refine ⟨h,ofs_none (λ o ho e=>?_),λ _ _=>rfl⟩
    have:=h2 o ho
    rw [fkey_src hp h ho] at this
    simp [e] at this
  · rw [h1,if_neg (by omega),Int.toNat_natCast]
    rw [fkey_src hp h (List.mem_of_getElem? h2)] at h3
    have he:src o=p.From:=by simpa using h3
    refine ⟨h.del i,by rw [ofs_del h.nd h2,if_pos he],λ g hg=>by rw [ofs_del h.nd h2,if_neg (by rw [he];exact λ e=>hg e.symm)]⟩
theorem src_oof (p:Packet_):src (oof p)=p.From:=rfl
theorem acc_one {p:Packet_} (hp:PK p) {l:List fragment_open} (h:KU l):∃ l',acc ⟨9,l⟩ p=((one (ofs p.From l) p).1,(one (ofs p.From l) p).2.1,(one (ofs p.From l) p).2.2.1,⟨9,l'⟩)∧KU l'∧ofs p.From l'=(one (ofs p.From l) p).2.2.2∧∀ g,g≠p.From→ofs g l'=ofs g l:=by
  obtain ⟨d1,d2,d3⟩:=dropped_facts hp h
  unfold acc one
  rw [if_neg (by rw [hp.v];simp),if_neg (by simp [hp.to])]
  by_cases hS:p.Start=true
  · rw [if_pos hS,if_pos hS]
    by_cases hE:p.End=true
    · rw [if_pos hE,if_pos hE]
      exact ⟨_,rfl,d1,d2,d3⟩
    · rw [if_neg hE,if_neg hE]
      have hk:KU (dropped l p++[oof p]):=d1.snoc (λ x hx=>of_none d2 x hx) ⟨hp.frm.1,hp.frm.2,hp.ow,hp.tag⟩
      have hlen:=hk.len
      have hr:room (dropped l p)=dropped l p:=by
        unfold room;rw [if_neg];simp at hlen;omega
      refine ⟨dropped l p++[oof p],by simp only [hr],hk,?_,λ g hg=>?_⟩
      · rw [ofs_append,d2];simp [ofs,src_oof]
      · rw [ofs_append,d3 g hg]
        have hne:¬ src (oof p)=g:=λ e=>hg e.symm
        simp only [ofs,if_neg hne]
        cases ofs g l<;>rfl
  · rw [if_neg hS,if_neg hS]
    rcases ffind_cases l p with ⟨h1,h2⟩ | ⟨i,o,h1,h2,h3⟩
    · have hn:ofs p.From l=none:=ofs_none (λ o ho e=>by
        have:=h2 o ho
        rw [fkey_src hp h ho] at this
        simp [e] at this)
      simp only [h1,hn]
      exact ⟨l,rfl,h,hn,λ _ _=>rfl⟩
    · rw [fkey_src hp h (List.mem_of_getElem? h2)] at h3
      have he:src o=p.From:=by simpa using h3
      have hs:=ofs_at h.nd h2 he
      have hget:l.getD i fragment_open.z=o:=by rw [List.getD_eq_getElem?_getD,h2];rfl
      simp only [h1,hs,Int.toNat_natCast,hget]
      rw [if_neg (show ¬ (i:Int)<0 by omega)]
      have del:KU (fdel l i)∧ofs p.From (fdel l i)=none∧∀ g,g≠p.From→ofs g (fdel l i)=ofs g l:=⟨h.del i,by rw [ofs_del h.nd h2,if_pos he],λ g hg=>by rw [ofs_del h.nd h2,if_neg (by rw [he];exact λ e=>hg e.symm)]⟩
      by_cases hb:bad o p=true
      · rw [if_pos hb,if_pos hb];exact ⟨_,rfl,del⟩
      · rw [if_neg hb,if_neg hb]
        by_cases h5:512<o.whole.Data.length+p.Data.length
        · rw [if_pos h5,if_pos h5];exact ⟨_,rfl,del⟩
        · rw [if_neg h5,if_neg h5]
          by_cases hE:p.End=true
          · simp only [hE,Bool.not_true,Bool.true_eq_false,if_true,if_false,Bool.false_eq_true];exact ⟨_,rfl,del⟩
          · have hE':p.End=false:=by simpa using hE
            have hgs:src (grown o p)=src o:=rfl
            simp only [hE',Bool.not_false,if_true,Bool.false_eq_true,if_false]
            refine ⟨_,rfl,h.set h2 hgs ⟨(h.rg o (List.mem_of_getElem? h2)).2.2.1,(h.rg o (List.mem_of_getElem? h2)).2.2.2⟩,?_,λ g hg=>?_⟩
            · rw [ofs_set h.nd h2 hgs,if_pos he]
            · rw [ofs_set h.nd h2 hgs,if_neg (by rw [he];exact λ e=>hg e.symm)]
end Lift
