/- A part of the proof: see the last text, YthfnjogadngfiaaXh15. -/
import Derived.Test.YthfnjogadngfiaaXh12
set_option maxRecDepth 100000
set_option linter.unusedVariables false
set_option linter.unusedSimpArgs false
namespace Go.Proofs.Ythfnjogadngfiaa
open Go.Sl Go.Sv
theorem ne_new {ω:PH} {a b:Nat} {o:Obj} (h:ω a=some o) (hb:ω b=none):b ≠ a:=by
 rintro rfl; rw [h] at hb; cases hb
theorem NewK.zero (F:Fm) (n:Nat):NewK F n (st0 n) 0 0:=NewK.start rfl rfl rfl rfl rfl rfl rfl rfl rfl rfl rfl fun _ => rfl
theorem r36 {F:Fm} {n:Nat} {ff:List Value} {σ:PH} (hF:FOk F) (hn:n=F.bools) (hlen:∀ c ∈ F.clauses,c.length≤1000000) {aa ca:Option Addr} {an ac cn cc:Nat} (hff:ff=[.int .i64 F.ints,.int .i64 F.bools,.slice aa an ac,.slice ca cn cc]) (hL:Lists σ ca cn F.clauses) {Q:Value→PH→Prop}
   (hQ:∀ τ T s st,σ.sub (oth τ T)→Rep τ T s ff st→New F n st→Q (.pointer (some (ptr s))) τ) :
   C 36 #[.agg #[.int .i64 F.ints,.int .i64 F.bools,.slice aa an ac,.slice ca cn cc]] Q σ:=by
 subst hff
 refine go (E36_0 _ _ _ _ _ _ _ _ _ _ _) ?_
 unfold S36_0
 have hnb:=hF.bools
 have w2:IntKind.wrap .i64 ((2:Int) * (F.bools:Int))=((2 * F.bools:Nat):Int):=by rw [w64 (by omega) (by omega)]; omega
 have e0:∀ b:Nat,(Addr.mk b 0 none).add 0=⟨b,0,none⟩:=fun b => rfl
 intro b9 h9
 have s9:=PH.sub_set (o:=.cells #[.int .i64 F.ints,.int .i64 F.bools,.slice aa an ac,.slice ca cn cc] 29) h9
 have B9:Blk (σ.set b9 (.cells #[.int .i64 F.ints,.int .i64 F.bools,.slice aa an ac,.slice ca cn cc] 29)) b9 29 [.int .i64 F.ints,.int .i64 F.bools,.slice aa an ac,.slice ca cn cc]:=set_self
 generalize σ.set b9 (.cells #[.int .i64 F.ints,.int .i64 F.bools,.slice aa an ac,.slice ca cn cc] 29)=ω9 at *
 have g0:=B9.get (i:=0) rfl
 rw [e0] at g0
 refine ⟨_,g0,_,B9.get (i:=1) rfl,_,B9.get (i:=2) rfl,_,B9.get (i:=3) rfl,_,_,_,_,_,_,_,_,rfl,fun b22 h22 => ?_⟩
 have s22:=PH.sub_set (o:=.map #[] 0) h22
 have k22:(ω9.set b22 (.map #[] 0)) b22=some (.map #[] 0):=set_self
 generalize ω9.set b22 (.map #[] 0)=ω22 at *
 have B9a:Blk ω22 b9 29 [.int .i64 F.ints,.int .i64 F.bools,.slice aa an ac,.slice ca cn cc]:=s22 _ _ B9
 refine ⟨_,B9a.get (i:=1) rfl,_,rfl,?_⟩
 rw [w2]
 simp only [Int.toNat_natCast]
 refine ⟨by omega,by omega,by omega,by omega,fun b25 h25 => ?_⟩
 have s25:=PH.sub_set (o:=.cells (zeros (.slice none 0 0) (2 * F.bools)) 33) h25
 have k25:(ω22.set b25 (.cells (zeros (.slice none 0 0) (2 * F.bools)) 33)) b25=some (.cells (zeros (.slice none 0 0) (2 * F.bools)) 33 (0,0)):=set_self
 generalize ω22.set b25 (.cells (zeros (.slice none 0 0) (2 * F.bools)) 33)=ω25 at *
 have B9b:Blk ω25 b9 29 [.int .i64 F.ints,.int .i64 F.bools,.slice aa an ac,.slice ca cn cc]:=s25 _ _ B9a
 refine ⟨_,B9b.get (i:=1) rfl,_,rfl,by omega,by omega,by omega,by omega,fun b28 h28 => ?_⟩
 simp only [Int.toNat_natCast] at h28 ⊢
 have s28:=PH.sub_set (o:=.cells (zeros (.int .i64 0) F.bools) 3) h28
 have k28:(ω25.set b28 (.cells (zeros (.int .i64 0) F.bools) 3)) b28=some (.cells (zeros (.int .i64 0) F.bools) 3 (0,0)):=set_self
 generalize ω25.set b28 (.cells (zeros (.int .i64 0) F.bools) 3)=ω28 at *
 have B9c:Blk ω28 b9 29 [.int .i64 F.ints,.int .i64 F.bools,.slice aa an ac,.slice ca cn cc]:=s28 _ _ B9b
 refine ⟨_,B9c.get (i:=1) rfl,_,rfl,by omega,by omega,by omega,by omega,fun b31 h31 => ?_⟩
 simp only [Int.toNat_natCast] at h31 ⊢
 have s31:=PH.sub_set (o:=.cells (zeros (.int .i64 0) F.bools) 3) h31
 have k31:(ω28.set b31 (.cells (zeros (.int .i64 0) F.bools) 3)) b31=some (.cells (zeros (.int .i64 0) F.bools) 3 (0,0)):=set_self
 generalize ω28.set b31 (.cells (zeros (.int .i64 0) F.bools) 3)=ω31 at *
 have B9d:Blk ω31 b9 29 [.int .i64 F.ints,.int .i64 F.bools,.slice aa an ac,.slice ca cn cc]:=s31 _ _ B9c
 refine ⟨_,B9d.get (i:=1) rfl,_,rfl,by omega,by omega,by omega,by omega,fun b34 h34 => ?_⟩
 simp only [Int.toNat_natCast] at h34 ⊢
 have s34:=PH.sub_set (o:=.cells (zeros (.pointer none) F.bools) 84) h34
 have k34:(ω31.set b34 (.cells (zeros (.pointer none) F.bools) 84)) b34=some (.cells (zeros (.pointer none) F.bools) 84 (0,0)):=set_self
 generalize ω31.set b34 (.cells (zeros (.pointer none) F.bools) 84)=ω34 at *
 have B9e:Blk ω34 b9 29 [.int .i64 F.ints,.int .i64 F.bools,.slice aa an ac,.slice ca cn cc]:=s34 _ _ B9d
 refine ⟨_,B9e.get (i:=1) rfl,_,rfl,by omega,by omega,by omega,by omega,fun b37 h37 b38 => ?_⟩
 simp only [Int.toNat_natCast] at h37 ⊢
 intro h38
 have s37:=PH.sub_set (o:=.cells (zeros (.float .f64 0) F.bools) 83) h37
 have k37:(ω34.set b37 (.cells (zeros (.float .f64 0) F.bools) 83)) b37=some (.cells (zeros (.float .f64 0) F.bools) 83 (0,0)):=set_self
 generalize ω34.set b37 (.cells (zeros (.float .f64 0) F.bools) 83)=ω37 at *
 have B9f:Blk ω37 b9 29 [.int .i64 F.ints,.int .i64 F.bools,.slice aa an ac,.slice ca cn cc]:=s37 _ _ B9e
 have s38:=PH.sub_set (o:=.cells #[.int .i64 F.ints,.int .i64 F.bools,.slice aa an ac,.slice ca cn cc,.slice none 0 0,.map (some b22),.slice none 0 0,.slice (some ⟨b25,0,none⟩) (2 * F.bools) (2 * F.bools),.slice (some ⟨b28,0,none⟩) F.bools F.bools,.slice (some ⟨b31,0,none⟩) F.bools F.bools,.slice (some ⟨b34,0,none⟩) F.bools F.bools,.slice none 0 0,.slice none 0 0,.int .i64 0,.slice (some ⟨b37,0,none⟩) F.bools F.bools,.float .f64 4607182418800017408,.pointer none,.slice none 0 0] 86) h38
 have k38:Blk (ω37.set b38 (.cells #[.int .i64 F.ints,.int .i64 F.bools,.slice aa an ac,.slice ca cn cc,.slice none 0 0,.map (some b22),.slice none 0 0,.slice (some ⟨b25,0,none⟩) (2 * F.bools) (2 * F.bools),.slice (some ⟨b28,0,none⟩) F.bools F.bools,.slice (some ⟨b31,0,none⟩) F.bools F.bools,.slice (some ⟨b34,0,none⟩) F.bools F.bools,.slice none 0 0,.slice none 0 0,.int .i64 0,.slice (some ⟨b37,0,none⟩) F.bools F.bools,.float .f64 4607182418800017408,.pointer none,.slice none 0 0] 86)) b38 86 (cellsOf (low0 [.int .i64 F.ints,.int .i64 F.bools,.slice aa an ac,.slice ca cn cc] F.bools b22 b25 b28 b31 b34 b37 4607182418800017408)):=set_self
 refine ⟨_,(s38.cell (B9f.get (i:=3) rfl)),_,_,_,rfl,?_⟩
 generalize ω37.set b38 (.cells #[.int .i64 F.ints,.int .i64 F.bools,.slice aa an ac,.slice ca cn cc,.slice none 0 0,.map (some b22),.slice none 0 0,.slice (some ⟨b25,0,none⟩) (2 * F.bools) (2 * F.bools),.slice (some ⟨b28,0,none⟩) F.bools F.bools,.slice (some ⟨b31,0,none⟩) F.bools F.bools,.slice (some ⟨b34,0,none⟩) F.bools F.bools,.slice none 0 0,.slice none 0 0,.int .i64 0,.slice (some ⟨b37,0,none⟩) F.bools F.bools,.float .f64 4607182418800017408,.pointer none,.slice none 0 0] 86)=ω38 at *
 have q22_25:=s25 _ _ k22; have q22_28:=s28 _ _ q22_25; have q22_31:=s31 _ _ q22_28; have q22_34:=s34 _ _ q22_31; have q22_37:=s37 _ _ q22_34
 have q25_28:=s28 _ _ k25; have q25_31:=s31 _ _ q25_28; have q25_34:=s34 _ _ q25_31; have q25_37:=s37 _ _ q25_34
 have q28_31:=s31 _ _ k28; have q28_34:=s34 _ _ q28_31; have q28_37:=s37 _ _ q28_34
 have q31_34:=s34 _ _ k31; have q31_37:=s37 _ _ q31_34
 have q34_37:=s37 _ _ k34
 have hd:[b38,b22,b25,b28,b31,b34,b37].Nodup:=by
   simp only [List.nodup_cons,List.mem_cons,not_or,List.not_mem_nil,not_false_eq_true,List.nodup_nil,and_true]
   exact ⟨⟨ne_new q22_37 h38,ne_new q25_37 h38,ne_new q28_37 h38,ne_new q31_37 h38,ne_new q34_37 h38,ne_new k37 h38⟩,
     ⟨(ne_new k22 h25).symm,(ne_new q22_25 h28).symm,(ne_new q22_28 h31).symm,(ne_new q22_31 h34).symm,(ne_new q22_34 h37).symm⟩,
     ⟨(ne_new k25 h28).symm,(ne_new q25_28 h31).symm,(ne_new q25_31 h34).symm,(ne_new q25_34 h37).symm⟩,
     ⟨(ne_new k28 h31).symm,(ne_new q28_31 h34).symm,(ne_new q28_34 h37).symm⟩,
     ⟨(ne_new k31 h34).symm,(ne_new q31_34 h37).symm⟩,(ne_new k34 h37).symm⟩
 have sub9:=s9
 have sub22:=sub9.trans s22; have sub25:=sub22.trans s25; have sub28:=sub25.trans s28; have sub31:=sub28.trans s31; have sub34:=sub31.trans s34; have sub37:=sub34.trans s37
 have n22:=new_of s9 h22; have n25:=new_of sub22 h25; have n28:=new_of sub25 h28; have n31:=new_of sub28 h31; have n34:=new_of sub31 h34; have n37:=new_of sub34 h37; have n38:=new_of sub37 h38
 obtain ⟨T,H,A,hT⟩:=Sol.init k38 (s38 _ _ q22_37) (s38 _ _ q25_37) (s38 _ _ q28_37) (s38 _ _ q31_37) (s38 _ _ q34_37) (s38 _ _ k37) hd
 refine l36 hF hn hlen hL (fun τ T' st h1 h2 h3 => hQ τ T' b38 st h1 h2 h3) ⟨T,_,st0 n,H,rfl,hn ▸ A,fun b o hb => ?_,NewK.zero F n,fun i _ => rfl⟩
 have:T b=.other:=hT b (by
   simp only [List.mem_cons,List.not_mem_nil,or_false,not_or]
   refine ⟨?_,?_,?_,?_,?_,?_,?_⟩ <;> rintro rfl
   · rw [n38] at hb; cases hb
   · rw [n22] at hb; cases hb
   · rw [n25] at hb; cases hb
   · rw [n28] at hb; cases hb
   · rw [n31] at hb; cases hb
   · rw [n34] at hb; cases hb
   · rw [n37] at hb; cases hb)
 exact (oth_of this).trans (s38 _ _ (sub37 _ _ hb))
end Go.Proofs.Ythfnjogadngfiaa
namespace Go.Sv
theorem chain_le {x:Nat→Int}:∀ {l:List Dif} {a b:Int},chain a b l→(∀ d ∈ l,x (dX d) - x (dY d)≤d.2.2)→x a.toNat - x b.toNat≤sumC l
 | [],a,b,h,_ => by
   have:a=b:=h
   subst this
   simp [sumC]
 | d :: l,a,b,h,hd => by
   obtain ⟨h1,h2⟩:=h
   have:=chain_le h2 fun e he => hd e (List.mem_cons_of_mem _ he)
   have:=hd d List.mem_cons_self
   unfold dX dY at this
   unfold sumC at *
   rw [List.map_cons,List.sum_cons]
   rw [h1] at this
   omega
theorem ring_false {x:Nat→Int} {l:List Dif} (h:ring l) (hd:∀ d ∈ l,x (dX d) - x (dY d)≤d.2.2):False:=by
 obtain ⟨a,h1,h2⟩:=h
 have:=chain_le h1 hd
 omega
theorem Tr.lit_in {n:Nat} {value:List Int} {level:List Nat} {trail:List Int} {limits:List Nat} (h:Tr n value level trail limits) {i:Nat} (hi:i < n) (h0:value[i]? ≠ some 0):∃ v,value[i]?=some v∧(v=1 ∨ v=-1)∧v * ((i:Int) + 1) ∈ trail:=by
 have hv:=h.val i hi
 refine ⟨_,hv,?_,?_⟩
 · unfold sg at hv ⊢
   split
   · exact .inl rfl
   · split
     · exact .inr rfl
     · rename_i h1 h2
       rw [if_neg h1,if_neg h2] at hv
       exact absurd hv h0
 · unfold sg at hv ⊢
   split
   · rename_i h1; rw [Int.one_mul]; exact h1
   · split
     · rename_i h2; rw [Int.neg_mul,Int.one_mul]; exact h2
     · rename_i h1 h2
       rw [if_neg h1,if_neg h2] at hv
       exact absurd hv h0
end Go.Sv
namespace Go.Proofs.Ythfnjogadngfiaa
open Go.Sl Go.Sv
theorem quiet58 {ω:PH} {i1 i2:Int} {aa:Option Addr} {an ac:Nat} {ca:Option Addr} {cn cc:Nat} {F:Fm} (hA:Atoms ω aa an F.atoms) (hC:∀ d ∈ F.atoms,-1048576≤d.2.2∧d.2.2≤1048576) {x:Int} (hl:Lit x) :
   ∃ bs,quiet C 58 #[.agg #[.int .i64 i1,.int .i64 i2,.slice aa an ac,.slice ca cn cc],.int .i64 x] (bndV (bound F x)) bs ω:=by
 obtain ⟨bs,h1,h2⟩:∃ bs:List Nat,(∀ b ∈ bs,ω b ≠ none)∧Atoms (PH.only bs ω) aa an F.atoms:=by
   cases hat:F.atoms with
   | nil => exact ⟨[],by simp,by rw [hat] at hA; exact ⟨hA.1,fun i d hd => by simp at hd⟩⟩
   | cons d0 t =>
     rw [hat] at hA
     obtain ⟨p,hp,c0,_,_⟩:=hA.2 0 d0 rfl
     refine ⟨[p.block],fun b hb => ?_,hA.1,fun i d hd => ?_⟩
     · rw [List.mem_singleton] at hb; subst hb
       intro e
       unfold PH.cell? at c0
       rw [add_block,e] at c0; cases c0
     · obtain ⟨p',hp',q0,q1,q2⟩:=hA.2 i d hd
       rw [hp] at hp'; cases hp'
       exact ⟨p,hp,cell_only q0 (by rw [add_block]; simp),cell_only q1 (by rw [add_block,add_block]; simp),cell_only q2 (by rw [add_block,add_block]; simp)⟩
 exact ⟨bs,h1,c58 h2 hC hl fun τ hs => ⟨rfl,hs⟩⟩
def boolsV (l:List Bool):List Value:=l.map .bool
structure ML (σ υ:PH) (b2 b6 b7 n:Nat) (bl:List Bool) (sl:Sli) (l:List Dif):Prop where
 sub:σ.sub υ
 k2:Blk υ b2 35 [.slice none 0 0,.slice none 0 0]
 k6:Blk υ b6 4 (boolsV bl)
 k7:Blk υ b7 35 [.slice (some (ptr b6)) n n,.slice none 0 0]
 n2:σ b2=none
 n6:σ b6=none
 n7:σ b7=none
 d26:b2 ≠ b6
 d27:b2 ≠ b7
 d67:b6 ≠ b7
 ol:Own υ 50 3 sl.a sl.n sl.c (difV l)
 nl:∀ p,sl.a=some p→σ p.block=none∧p.block ≠ b2∧p.block ≠ b6∧p.block ≠ b7
theorem ML.grow {σ υ τ:PH} {b2 b6 b7 n:Nat} {bl:List Bool} {sl:Sli} {l:List Dif} (h:ML σ υ b2 b6 b7 n bl sl l) (hs:υ.sub τ):ML σ τ b2 b6 b7 n bl sl l :=
 ⟨h.sub.trans hs,hs _ _ h.k2,hs _ _ h.k6,hs _ _ h.k7,h.n2,h.n6,h.n7,h.d26,h.d27,h.d67,h.ol.keep (M:=fun _ => False) hs.step fun _ _ h => h,h.nl⟩
theorem ML.set {σ υ:PH} {b2 b6 b7 n:Nat} {bl:List Bool} {sl:Sli} {l:List Dif} (h:ML σ υ b2 b6 b7 n bl sl l) (k:Nat) (q:Bool):ML σ (υ.setCell ((ptr b6).add k) (.bool q)) b2 b6 b7 n (bl.set k q) sl l:=by
 have st:Step (·=b6) υ (υ.setCell ((ptr b6).add k) (.bool q)):=setCell_step.weaken fun b hb => hb.trans (add_block _ _)
 refine ⟨sub_step_new h.sub st (by rintro b rfl; exact h.n6),h.k2.keep st h.d26,?_,h.k7.keep st (Ne.symm h.d67),h.n2,h.n6,h.n7,h.d26,h.d27,h.d67,h.ol.keep st fun p hp => (h.nl p hp).2.2.1,h.nl⟩
 have:=h.k6.set k (.bool q)
 unfold boolsV at this ⊢
 rwa [List.map_set]
theorem ML.push {σ υ:PH} {b2 b6 b7 n:Nat} {bl:List Bool} {sl:Sli} {l:List Dif} (h:ML σ υ b2 b6 b7 n bl sl l) (d:Dif) (hl:l.length≤1000000) {b:Nat} (hb:υ b=none) {Q:Value→PH→Prop} (hQ:∀ sl' τ,ML σ τ b2 b6 b7 n bl sl' (l ++ [d])→Q sl'.v τ) :
   iappend prog 50 (.slice sl.a sl.n sl.c) (.slice (some ⟨b,0,none⟩) 1 1) Q (PH.set υ b (.cells #[.int .i64 d.1,.int .i64 d.2.1,.int .i64 d.2.2] 50)):=by
 have l1:=h.ol.len
 rw [difV_len] at l1
 refine pushRow t50.1 t50.2.1 t50.2.2 rfl (by decide) h.ol hb (news:=[.int .i64 d.1,.int .i64 d.2.1,.int .i64 d.2.2]) rfl ?_ (by omega) ?_
 · intro v hv
   simp at hv
   rcases hv with rfl | rfl | rfl <;> trivial
 · intro a c τ hO hst hnew
   have hnl:∀ q,(∃ p,sl.a=some p∧q=p.block)→σ q=none∧q ≠ b2∧q ≠ b6∧q ≠ b7:=by
     rintro q ⟨p,h1,rfl⟩; exact h.nl p h1
   refine hQ ⟨a,sl.n + 1,c⟩ τ ⟨sub_step_new h.sub hst fun q hq => (hnl q hq).1,h.k2.keep hst fun hq => (hnl _ hq).2.1 rfl,h.k6.keep hst fun hq => (hnl _ hq).2.2.1 rfl,h.k7.keep hst fun hq => (hnl _ hq).2.2.2 rfl,h.n2,h.n6,h.n7,h.d26,h.d27,h.d67,by simpa [difV,dcells] using hO,fun p hp => ?_⟩
   rcases hnew p hp with ⟨p',h1,h2⟩ | h1
   · rw [h2]; exact h.nl p' h1
   · exact ⟨new_of h.sub h1,(fun e => by rw [e,h.k2] at h1; cases h1),(fun e => by rw [e,h.k6] at h1; cases h1),(fun e => by rw [e,h.k7] at h1; cases h1)⟩
theorem r38 {F:Fm} {n s:Nat} {σ:PH} {T:Nat→Tag} {st:St} {ff:List Value} (hF:FOk F) (hn:n=F.bools) (hRep:Rep σ T s ff st) (hf:Frm (oth σ T) ff F) (hI:Inv F n st) (hv:∀ i,i < n→st.value[i]? ≠ some 0)
   {x0:Nat→Int} (hx0:∀ y ∈ st.trail,∀ d,bound F y=some d→x0 (dX d) - x0 (dY d)≤d.2.2) {Q:Value→PH→Prop}
   (hQ:∀ τ b X (x:Nat→Int),σ.sub τ→σ b=none→σ X=none→Blk τ b 4 (boolsV (tab n fun i => decide (0 < st.value.getD i 0)))→Blk τ X 3 (ints (tab F.ints x))→(∀ y ∈ st.trail,∀ d,bound F y=some d→x (dX d) - x (dY d)≤d.2.2)→(∀ v,v < F.ints→-1000000000000000≤x v∧x v≤0)→Q (.agg #[.slice (some (ptr b)) n n,.slice (some (ptr X)) F.ints F.ints]) τ) :
   C 38 #[.pointer (some (ptr s))] Q σ:=by
 subst hn
 obtain ⟨aa,an,ac,ca,cn,cc,rfl,hA,_,_,_⟩:=hf
 have hAσ:=hA.sub (oth_sub σ T)
 refine go (E38_0 _ _ _ _) ?_
 unfold S38_0
 obtain ⟨c0,c1,c2,c3⟩:=hRep.frm
 obtain ⟨va,vc,c8,hval⟩:=hRep.val
 have hnb:=hF.bools
 have hT:=hI.tr
 have hvl:=hT.vlen
 have e0:∀ b:Nat,(Addr.mk b 0 none).add 0=⟨b,0,none⟩:=fun b => rfl
 intro b2 h2
 have s2:=PH.sub_set (o:=.cells #[.slice none 0 0,.slice none 0 0] 35) h2
 have k2:Blk (σ.set b2 (.cells #[.slice none 0 0,.slice none 0 0] 35)) b2 35 [.slice none 0 0,.slice none 0 0]:=set_self
 generalize σ.set b2 (.cells #[.slice none 0 0,.slice none 0 0] 35)=ω2 at *
 refine ⟨_,rfl,_,s2.cell c1,_,rfl,by omega,by omega,by omega,by omega,fun b6 h6 => ?_⟩
 simp only [Int.toNat_natCast]
 have s6:=PH.sub_set (o:=.cells (zeros (.bool false) F.bools) 4) h6
 have k6:Blk (ω2.set b6 (.cells (zeros (.bool false) F.bools) 4)) b6 4 (boolsV (List.replicate F.bools false)):=by
   have:zeros (.bool false) F.bools=(boolsV (List.replicate F.bools false)).toArray:=by
     rw [zeros_one rfl,boolsV,List.map_replicate]
   rw [this]; exact set_self
 generalize ω2.set b6 (.cells (zeros (.bool false) F.bools) 4)=ω6 at *
 intro b7 h7
 simp only [newSet,newSet0,newCell,newCell0,newFroz,newFroz0,List.setIfInBounds_toArray,List.set_cons_zero,List.set_cons_succ,List.getElem?_toArray,List.getElem?_cons_zero,List.getElem?_cons_succ,Option.some.injEq,exists_eq',true_and,Value.slice.injEq,exists_eq_left']
 have s7:=PH.sub_set (o:=.cells #[.slice (some ⟨b6,0,none⟩) F.bools F.bools,.slice none 0 0] 35) h7
 have k7:Blk (ω6.set b7 (.cells #[.slice (some ⟨b6,0,none⟩) F.bools F.bools,.slice none 0 0] 35)) b7 35 [.slice (some (ptr b6)) F.bools F.bools,.slice none 0 0]:=set_self
 refine ⟨_,_,_,⟨rfl,rfl,rfl⟩,?_⟩
 generalize ω6.set b7 (.cells #[.slice (some ⟨b6,0,none⟩) F.bools F.bools,.slice none 0 0] 35)=ω7 at *
 have M0:ML σ ω7 b2 b6 b7 F.bools (List.replicate F.bools false) ⟨none,0,0⟩ [] :=
   ⟨(s2.trans s6).trans s7,s7 _ _ (s6 _ _ k2),s7 _ _ k6,k7,h2,new_of s2 h6,new_of (s2.trans s6) h7,(ne_new k2 h6).symm,(ne_new (s6 _ _ k2) h7).symm,(ne_new k6 h7).symm,own_nil,fun p hp => by cases hp⟩
 unfold S38_1
 clear k2 k6 k7 h6 h7 s2 s6 s7
 refine iloopS_for (G:=Sli) (fun k sl => (some (ptr s),ptr b2,ptr b7,sl.a,sl.n,sl.c,(F.bools:Int),(k:Int))) (fun k sl υ => ∃ bl l,ML σ υ b2 b6 b7 F.bools bl sl l∧(∀ i,i < F.bools→bl[i]?=some (if i < k then decide (0 < st.value.getD i 0) else false))∧bl.length=F.bools∧(∀ d ∈ l,∃ y ∈ st.trail,bound F y=some d)∧(∀ (i:Nat),i < k→∀ v,st.value[i]?=some v→∀ d,bound F (v * ((i:Int) + 1))=some d→d ∈ l)∧l.length≤k) F.bools ?_
   (g:=⟨none,0,0⟩) ⟨_,[],M0,fun i hi => by simp [hi],by simp,by simp,fun i hi => by omega,by simp⟩
 rintro k sl υ hk ⟨bl,l,M,hbl,hbn,hl1,hl2,hln⟩ R hR
 unfold S38_2
 dsimp only
 have g7:=M.k7.get (i:=0) rfl
 rw [e0] at g7
 refine br_dec.2 ⟨fun hlt => ?_,fun hge => ?_⟩
 · have hkn:k < F.bools:=by omega
   obtain ⟨v,hvk,hv1,hvt⟩:=hT.lit_in hkn (hv k hkn)
   obtain ⟨pv,rfl,cv⟩:=hval k v hvk
   have hgd:st.value.getD k 0=v:=by rw [List.getD_eq_getElem?_getD,hvk]; rfl
   have M1:=M.set k (decide (v > 0))
   have wk:IntKind.wrap .i64 ((k:Int) + 1)=(k:Int) + 1:=w64 (by omega) (by omega)
   have wl:IntKind.wrap .i64 (v * ((k:Int) + 1))=v * ((k:Int) + 1):=by rcases hv1 with rfl | rfl <;> rw [w64 (by omega) (by omega)]
   have hll:Lit (v * ((k:Int) + 1)):=litN (hT.lit _ hvt) (by omega)
   obtain ⟨bs,hq⟩:=quiet58 (i1:=(F.ints:Int)) (i2:=(F.bools:Int)) (ac:=ac) (ca:=ca) (cn:=cn) (cc:=cc) (hAσ.sub M1.sub) (fun d hd => (hF.at' d hd).2.2.2.2.2) hll
   obtain ⟨q0,hq0⟩:∃ q0,bl[k]?=some q0:=⟨_,hbl k hkn⟩
   have c6:υ.cell? ((ptr b6).add k)=some (.bool q0):=M.k6.get (i:=k) (by simp [boolsV,hq0])
   simp only [Int.toNat_natCast,Nat.mul_one]
   have hbl':∀ i,i < F.bools→(bl.set k (decide (v > 0)))[i]?=some (if i < k + 1 then decide (0 < st.value.getD i 0) else false):=by
     intro i hi
     rw [List.getElem?_set]
     by_cases e:k=i
     · subst e
       rw [if_pos rfl,if_pos (by omega),if_pos (by omega),hgd]
     · rw [if_neg e,hbl i hi]
       by_cases e2:i < k
       · rw [if_pos e2,if_pos (by omega)]
       · rw [if_neg e2,if_neg (by omega)]
   have wk':IntKind.wrap .i64 ((k:Int) + 1)=((k + 1:Nat):Int):=by rw [wk]; omega
   have hbd:∀ (i:Nat) w,i < k + 1→st.value[i]?=some w→i=k→w=v:=by
     rintro i w _ h1 rfl; rw [hvk] at h1; exact (Option.some.inj h1).symm
   cases hb:bound F (v * ((k:Int) + 1)) with
   | none =>
     rw [hb] at hq
     refine ⟨_,g7,_,_,_,rfl,_,rfl,_,M.sub.cell c8,_,_,_,rfl,pv,rfl,by omega,by omega,_,M.sub.cell cv,v,rfl,_,rfl,by omega,by omega,⟨_,c6⟩,M.k6.froz k,0,0,0,false,bs,_,rfl,_,M1.sub.cell c0,_,M1.sub.cell c1,_,M1.sub.cell c2,_,M1.sub.cell c3,_,_,_,_,_,_,_,_,rfl,_,rfl,_,M1.sub.cell c8,_,_,_,rfl,pv,rfl,by omega,by omega,_,M1.sub.cell cv,v,rfl,?_,fun b70 h70 => ?_⟩
     · rw [wk,wl]; exact hq
     simp only [newSet,newSet0,newCell,newCell0,newFroz,newFroz0,List.setIfInBounds_toArray,List.set_cons_zero,List.set_cons_succ,List.getElem?_toArray,List.getElem?_cons_zero,List.getElem?_cons_succ,Option.some.injEq,exists_eq',true_and,Value.int.injEq,exists_eq_left']
     refine br_iff.2 ⟨fun h => (by cases h),fun _ => ?_⟩
     rw [wk']
     refine hR sl _ hkn ⟨_,l,M1.grow (PH.sub_set h70),hbl',by simp [hbn],hl1,fun i hi w hw d hd => ?_,by omega⟩
     by_cases e:i=k
     · subst e
       rw [hbd i w (by omega) hw rfl,hb] at hd; cases hd
     · exact hl2 i (by omega) w hw d hd
   | some d =>
     rw [hb] at hq
     refine ⟨_,g7,_,_,_,rfl,_,rfl,_,M.sub.cell c8,_,_,_,rfl,pv,rfl,by omega,by omega,_,M.sub.cell cv,v,rfl,_,rfl,by omega,by omega,⟨_,c6⟩,M.k6.froz k,d.1,d.2.1,d.2.2,true,bs,_,rfl,_,M1.sub.cell c0,_,M1.sub.cell c1,_,M1.sub.cell c2,_,M1.sub.cell c3,_,_,_,_,_,_,_,_,rfl,_,rfl,_,M1.sub.cell c8,_,_,_,rfl,pv,rfl,by omega,by omega,_,M1.sub.cell cv,v,rfl,?_,fun b70 h70 => ?_⟩
     · rw [wk,wl]; exact hq
     simp only [newSet,newSet0,newCell,newCell0,newFroz,newFroz0,List.setIfInBounds_toArray,List.set_cons_zero,List.set_cons_succ,List.getElem?_toArray,List.getElem?_cons_zero,List.getElem?_cons_succ,Option.some.injEq,exists_eq',true_and,Value.int.injEq,exists_eq_left']
     refine br_iff.2 ⟨fun _ => ⟨_,_,_,rfl,fun b80 h80 => ?_⟩,fun h => (by cases h)⟩
     refine (M1.grow (PH.sub_set h70)).push d (by omega) h80 fun sl' τ M2 => ⟨_,_,_,rfl,?_⟩
     rw [wk']
     refine hR sl' _ hkn ⟨_,l ++ [d],M2,hbl',by simp [hbn],fun e he => ?_,fun i hi w hw e he => ?_,by simp; omega⟩
     · rcases List.mem_append.1 he with he | he
       · exact hl1 e he
       · rw [List.mem_singleton] at he; subst he; exact ⟨_,hvt,hb⟩
     · by_cases ei:i=k
       · subst ei
         rw [hbd i w (by omega) hw rfl,hb] at he; cases he; simp
       · exact List.mem_append_left _ (hl2 i (by omega) w hw e he)
 · have hkn:k=F.bools:=by omega
   subst hkn
   have hlok:∀ (j:Nat) d,l[j]?=some d→DOk F.ints d∧dX d ≠ dY d:=by
     intro j d hd
     obtain ⟨y,_,hy⟩:=hl1 d (List.mem_of_getElem? hd)
     exact hF.bound hy
   have hAt:=own_atoms M.ol
   have hln':=hAt.1
   have hN:=hF.ints
   refine ⟨_,rfl,_,M.sub.cell c0,_,rfl,?_⟩
   refine c59 hAt (fun j d hd => (hlok j d hd).1) (by omega) (by omega) (fun τ X x hs hX0 hX hx hxb => ?_) fun τ slc c hD => ?_
   · have M2:=M.grow hs
     have X2:X ≠ b2:=ne_new M.k2 hX0
     have X7:X ≠ b7:=ne_new M.k7 hX0
     have st7:Step (·=b7) τ (τ.setCell ((ptr b7).add 1) (.slice (some (ptr X)) F.ints F.ints)):=setCell_step.weaken fun b hb => hb.trans (add_block _ _)
     have k7':=M2.k7.set 1 (.slice (some (ptr X)) F.ints F.ints)
     have k2':=M2.k2.keep st7 M2.d27
     have k6':=M2.k6.keep st7 M2.d67
     have kX':=hX.keep st7 X7
     have sub1:=sub_step_new M2.sub st7 (by rintro b rfl; exact M2.n7)
     have u7:=M2.k7.get (i:=1) rfl
     have f7:=M2.k7.froz 1
     have fin:∀ τ1:PH,σ.sub τ1→Blk τ1 b2 35 [.slice none 0 0,.slice none 0 0]→Blk τ1 b6 4 (boolsV bl)→Blk τ1 X 3 (ints (tab F.ints x))→Blk τ1 b7 35 [.slice (some (ptr b6)) F.bools F.bools,.slice (some (ptr X)) F.ints F.ints] →
         ∃ v100,τ1.cell? (ptr b7)=some v100∧∃ v101,τ1.cell? ((ptr b7).add 1)=some v101∧∃ (a102:Option Addr) (n103:Nat) (c104:Nat) (a105:Option Addr) (n106:Nat) (c107:Nat),Value.agg #[v100,v101]=(.agg #[(.slice a102 n103 c104),(.slice a105 n106 c107)])∧(∃ u108,τ1.cell? (ptr b2)=some u108)∧τ1.froz (ptr b2)=some false∧(∃ u109,(τ1.setCell (ptr b2) (.slice a102 n103 c104)).cell? ((ptr b2).add 1)=some u109)∧(τ1.setCell (ptr b2) (.slice a102 n103 c104)).froz ((ptr b2).add 1)=some false ∧
           ∃ v110,((τ1.setCell (ptr b2) (.slice a102 n103 c104)).setCell ((ptr b2).add 1) (.slice a105 n106 c107)).cell? (ptr b2)=some v110∧∃ v111,((τ1.setCell (ptr b2) (.slice a102 n103 c104)).setCell ((ptr b2).add 1) (.slice a105 n106 c107)).cell? ((ptr b2).add 1)=some v111∧Q (.agg #[v110,v111]) ((τ1.setCell (ptr b2) (.slice a102 n103 c104)).setCell ((ptr b2).add 1) (.slice a105 n106 c107)):=by
       intro τ1 sub1 k2' k6' kX' k7'
       have h7a:=k7'.get (i:=0) rfl
       have h7b:=k7'.get (i:=1) rfl
       have h2a:=k2'.get (i:=0) rfl
       have f2a:=k2'.froz 0
       rw [e0] at h7a h2a f2a
       have st2:Step (·=b2) τ1 (τ1.setCell (ptr b2) (.slice (some (ptr b6)) F.bools F.bools)):=setCell_step.weaken fun b hb => hb
       have k2'':=k2'.set 0 (.slice (some (ptr b6)) F.bools F.bools)
       rw [e0] at k2''
       have st3:Step (·=b2) (τ1.setCell (ptr b2) (.slice (some (ptr b6)) F.bools F.bools)) ((τ1.setCell (ptr b2) (.slice (some (ptr b6)) F.bools F.bools)).setCell ((ptr b2).add 1) (.slice (some (ptr X)) F.ints F.ints)):=setCell_step.weaken fun b hb => hb.trans (add_block _ _)
       have k2x:=k2''.set 1 (.slice (some (ptr X)) F.ints F.ints)
       have r2a:=k2x.get (i:=0) rfl
       rw [e0] at r2a
       refine ⟨_,h7a,_,h7b,_,_,_,_,_,_,rfl,⟨_,h2a⟩,f2a,⟨_,k2''.get (i:=1) rfl⟩,k2''.froz 1,_,r2a,_,k2x.get (i:=1) rfl,?_⟩
       have st23:=st2.trans st3
       refine hQ _ b6 X x (sub_step_new sub1 st23 (by rintro b rfl; exact M2.n2)) M2.n6 (new_of M.sub hX0) ?_ (kX'.keep st23 X2) (fun y hy d hd => ?_) hxb
       · have:tab F.bools (fun i => decide (0 < st.value.getD i 0))=bl:=by
           apply List.ext_getElem?
           intro i
           by_cases hi:i < F.bools
           · rw [tab_get hi,hbl i hi,if_pos hi]
           · rw [List.getElem?_eq_none (by rw [tab_len]; omega),List.getElem?_eq_none (by omega)]
         rw [this]
         exact k6'.keep st23 (Ne.symm M2.d26)
       · have hyl:=hT.lit y hy
         have hvy:=hyl.vr_lt
         obtain ⟨w,w1,w2,w3⟩:=hT.lit_in hvy (hv _ hvy)
         have:w * (((vr y:Nat):Int) + 1)=y:=by
           have e:w * (((vr y:Nat):Int) + 1)=y ∨ w * (((vr y:Nat):Int) + 1)=-y:=by
             obtain ⟨g1,g2⟩:=hyl
             unfold vr
             rcases w2 with rfl | rfl <;> omega
           rcases e with e | e
           · exact e
           · rw [e] at w3; exact absurd w3 (fun h => hT.anti hy h)
         exact hx d (hl2 (vr y) hvy w w1 d (by rw [this]; exact hd))
     refine ⟨τ,PH.sub.refl _,_,_,_,_,_,_,_,rfl,⟨_,u7⟩,f7,?_⟩
     exact fin _ sub1 k2' k6' kX' k7'
   · refine (ring_false hD.ring (x:=x0) fun d hd => ?_).elim
     obtain ⟨j,hj,rfl⟩:=List.mem_map.1 hd
     have:=hD.rng j hj
     have hjl:j.toNat < l.length:=by omega
     have hm:l.getD j.toNat (0,0,0) ∈ l:=by
       rw [List.getD_eq_getElem?_getD,List.getElem?_eq_getElem hjl]; exact List.getElem_mem _
     obtain ⟨y,hy1,hy2⟩:=hl1 _ hm
     exact hx0 y hy1 _ hy2
structure FOkR (i1 i2:Int) (atoms:List Dif) (clauses:List (List Int)):Prop where
 ints:0≤i1∧i1≤32
 bools:0≤i2∧i2≤1024
 cn:clauses.length≤32768
 an:(atoms.length:Int)≤i2
 at':∀ d ∈ atoms,0≤d.1∧d.1 < i1∧0≤d.2.1∧d.2.1 < i1∧d.1 ≠ d.2.1∧-1048576≤d.2.2∧d.2.2≤1048576
 cl:∀ c ∈ clauses,∀ x ∈ c,x ≠ 0∧-i2≤x∧x≤i2
theorem fok_raw {F:Fm} (h:FOk F):FOkR F.ints F.bools F.atoms F.clauses:=by
 have h1:=h.ints
 have h2:=h.bools
 have h3:=h.atoms
 exact ⟨by omega,by omega,h.cn,by omega,h.at',fun c hc x hx => by obtain ⟨q1,q2⟩:=h.cl c hc x hx; exact ⟨q1,by omega,by omega⟩⟩
theorem mem_of_all {α:Type} {l:List α} {P:α→Prop} (h:∀ i x,i < l.length→l[i]?=some x→P x):∀ x ∈ l,P x:=by
 intro x hx
 obtain ⟨i,hi⟩:=List.mem_iff_getElem?.1 hx
 exact h i x (List.getElem?_eq_some_iff.1 hi).1 hi
theorem c35 {σ:PH} {i1 i2:Int} {aa:Option Addr} {an ac:Nat} {ca:Option Addr} {cn cc:Nat} {atoms:List Dif} {clauses:List (List Int)} (hA:Atoms σ aa an atoms) (hL:Lists σ ca cn clauses) (hlen:∀ c ∈ clauses,c.length≤1000000) {Q:Value→PH→Prop}
   (hok:FOkR i1 i2 atoms clauses→∀ τ,σ.sub τ→Q (.int .i64 0) τ) (hno:¬ FOkR i1 i2 atoms clauses→∀ τ e,σ.sub τ→(e=1 ∨ e=2)→Q (.int .i64 e) τ) :
   C 35 #[.agg #[.int .i64 i1,.int .i64 i2,.slice aa an ac,.slice ca cn cc]] Q σ:=by
 refine go (E35_0 _ _ _ _ _ _ _ _ _ _ _) ?_
 unfold S35_0
 have e0:∀ b:Nat,(Addr.mk b 0 none).add 0=⟨b,0,none⟩:=fun b => rfl
 have han:=hA.1
 have hcn:=hL.1
 intro b9 h9
 have s9:=PH.sub_set (o:=.cells #[.int .i64 i1,.int .i64 i2,.slice aa an ac,.slice ca cn cc] 29) h9
 have B9:Blk (σ.set b9 (.cells #[.int .i64 i1,.int .i64 i2,.slice aa an ac,.slice ca cn cc] 29)) b9 29 [.int .i64 i1,.int .i64 i2,.slice aa an ac,.slice ca cn cc]:=set_self
 generalize σ.set b9 (.cells #[.int .i64 i1,.int .i64 i2,.slice aa an ac,.slice ca cn cc] 29)=ω9 at *
 have g0:=B9.get (i:=0) rfl
 rw [e0] at g0
 refine ⟨_,g0,_,rfl,br_dec.2 ⟨fun h => hno (fun f => by have:=f.ints; omega) _ _ s9 (.inr rfl),fun h1 => ?_⟩⟩
 refine ⟨_,B9.get (i:=1) rfl,_,rfl,br_dec.2 ⟨fun h => hno (fun f => by have:=f.bools; omega) _ _ s9 (.inr rfl),fun h2 => ?_⟩⟩
 refine ⟨_,B9.get (i:=3) rfl,_,_,_,rfl,br_dec.2 ⟨fun h => hno (fun f => by have:=f.cn; omega) _ _ s9 (.inr rfl),fun h3 => ?_⟩⟩
 refine ⟨_,g0,_,rfl,br_dec.2 ⟨fun h => hno (fun f => by have:=f.ints; omega) _ _ s9 (.inl rfl),fun h4 => ?_⟩⟩
 refine ⟨_,B9.get (i:=1) rfl,_,rfl,br_dec.2 ⟨fun h => hno (fun f => by have:=f.bools; omega) _ _ s9 (.inl rfl),fun h5 => ?_⟩⟩
 refine ⟨_,B9.get (i:=2) rfl,_,_,_,rfl,_,B9.get (i:=1) rfl,_,rfl,br_dec.2 ⟨fun h => hno (fun f => by have:=f.an; omega) _ _ s9 (.inl rfl),fun h6 => ?_⟩⟩
 refine ⟨_,B9.get (i:=2) rfl,_,_,_,rfl,?_⟩
 unfold S35_1
 refine iloopS_for (G:=Unit) (fun k _ => (ptr b9,aa,an,ac,(an:Int),(k:Int))) (fun k _ υ => ω9.sub υ∧∀ j d,j < k→atoms[j]?=some d→0≤d.1∧d.1 < i1∧0≤d.2.1∧d.2.1 < i1∧d.1 ≠ d.2.1∧-1048576≤d.2.2∧d.2.2≤1048576) an ?_ (g:=()) ⟨PH.sub.refl _,fun j d h => by omega⟩
 rintro k _ υ hk ⟨hs,hall⟩ R hR
 unfold S35_2
 dsimp only
 have hsu:=s9.trans hs
 refine br_dec.2 ⟨fun hlt => ?_,fun hge => ?_⟩
 · have hkn:k < an:=by omega
   obtain ⟨d,hd⟩:∃ d,atoms[k]?=some d:=⟨_,List.getElem?_eq_getElem (by omega)⟩
   have hdm:=List.mem_of_getElem? hd
   obtain ⟨p,hp,a0,a1,a2⟩:=(hA.sub hsu).2 k d hd
   refine ⟨p,hp,by omega,by omega,_,by rw [Int.toNat_natCast]; exact a0,_,by rw [Int.toNat_natCast]; exact a1,_,by rw [Int.toNat_natCast]; exact a2,_,_,_,rfl,fun b hb => ?_⟩
   have sb:=PH.sub_set (o:=.cells #[.int .i64 d.1,.int .i64 d.2.1,.int .i64 d.2.2] 50) hb
   simp only [newSet,newSet0,newCell,newCell0,newFroz,newFroz0,List.setIfInBounds_toArray,List.set_cons_zero,List.set_cons_succ,List.getElem?_toArray,List.getElem?_cons_zero,List.getElem?_cons_succ,Option.some.injEq,exists_eq',true_and,Value.int.injEq,exists_eq_left']
   generalize υ.set b (.cells #[.int .i64 d.1,.int .i64 d.2.1,.int .i64 d.2.2] 50)=ω at *
   have sω:=hsu.trans sb
   have g0ω:=(hs.trans sb).cell g0
   have wk:IntKind.wrap .i64 ((k:Int) + 1)=((k + 1:Nat):Int):=by rw [w64 (by omega) (by omega)]; omega
   have no:¬ (0≤d.1∧d.1 < i1∧0≤d.2.1∧d.2.1 < i1∧d.1 ≠ d.2.1∧-1048576≤d.2.2∧d.2.2≤1048576)→Q (.int .i64 1) ω:=fun hn => hno (fun f => hn (f.at' d hdm)) ω 1 sω (.inl rfl)
   refine br_dec.2 ⟨fun h => no (by omega),fun q1 => ⟨_,g0ω,_,rfl,br_dec.2 ⟨fun h => no (by omega),fun q2 => br_dec.2 ⟨fun h => no (by omega),fun q3 => ⟨_,g0ω,_,rfl,br_dec.2 ⟨fun h => no (by omega),fun q4 => br_iff.2 ⟨fun h => no ?_,fun q5 => br_dec.2 ⟨fun h => no (by omega),fun q6 => br_dec.2 ⟨fun h => no (by omega),fun q7 => ?_⟩⟩⟩⟩⟩⟩⟩⟩⟩
   · have:d.1=d.2.1:=by simpa using h
     omega
   · have q5:d.1 ≠ d.2.1:=by simpa using q5
     rw [wk]
     refine hR () _ hkn ⟨hs.trans sb,fun j e hj he => ?_⟩
     by_cases ej:j=k
     · subst ej
       rw [hd] at he; cases he
       omega
     · exact hall j e (by omega) he
 · have hkn:k=an:=by omega
   subst hkn
   have hat:∀ d ∈ atoms,0≤d.1∧d.1 < i1∧0≤d.2.1∧d.2.1 < i1∧d.1 ≠ d.2.1∧-1048576≤d.2.2∧d.2.2≤1048576:=mem_of_all fun i d hi hd => hall i d (by omega) hd
   refine ⟨_,hs.cell (B9.get (i:=3) rfl),_,_,_,rfl,?_⟩
   unfold S35_3
   refine iloopS_for (G:=Unit) (fun k _ => (ptr b9,ca,cn,cc,(cn:Int),(k:Int))) (fun k _ τ => υ=τ∧∀ j c,j < k→clauses[j]?=some c→∀ x ∈ c,x ≠ 0∧-i2≤x∧x≤i2) cn ?_ (g:=()) ⟨rfl,fun j d h => by omega⟩
   rintro k2 _ _ hk2 ⟨rfl,hall2⟩ R2 hR2
   unfold S35_4
   dsimp only
   refine br_dec.2 ⟨fun hlt => ?_,fun hge => ?_⟩
   · have hkn2:k2 < cn:=by omega
     obtain ⟨c,hc⟩:∃ c,clauses[k2]?=some c:=⟨_,List.getElem?_eq_getElem (by omega)⟩
     have hcm:=List.mem_of_getElem? hc
     obtain ⟨p,x,m,kk,hp,hcell,hI,hmk⟩:=(hL.sub hsu).2 k2 c hc
     have hmc:=hI.1
     have hcl:=hlen c hcm
     have wk2:IntKind.wrap .i64 ((k2:Int) + 1)=((k2 + 1:Nat):Int):=by rw [w64 (by omega) (by omega)]; omega
     refine ⟨p,hp,by omega,by omega,_,by rw [Int.toNat_natCast,Nat.mul_one]; exact hcell,_,_,_,rfl,?_⟩
     unfold S35_5
     refine iloopS_for (G:=Unit) (fun k _ => (ptr b9,ca,cn,cc,(cn:Int),(k2:Int),x,m,kk,(m:Int),(k:Int))) (fun k _ τ => υ=τ∧∀ j y,j < k→c[j]?=some y→y ≠ 0∧-i2≤y∧y≤i2) m ?_ (g:=()) ⟨rfl,fun j d h => by omega⟩
     rintro k3 _ _ hk3 ⟨rfl,hall3⟩ R3 hR3
     unfold S35_6
     dsimp only
     refine br_dec.2 ⟨fun hlt3 => ?_,fun hge3 => ?_⟩
     · have hkn3:k3 < m:=by omega
       obtain ⟨y,hy⟩:∃ y,c[k3]?=some y:=⟨_,List.getElem?_eq_getElem (by omega)⟩
       have hym:=List.mem_of_getElem? hy
       obtain ⟨p3,hp3,hc3⟩:=hI.2.at (i:=k3) (v:=.int .i64 y) (by simp [hy])
       have wk3:IntKind.wrap .i64 ((k3:Int) + 1)=((k3 + 1:Nat):Int):=by rw [w64 (by omega) (by omega)]; omega
       have wi:IntKind.wrap .i64 (0 - i2)=-i2:=by rw [w64 (by omega) (by omega)]; omega
       have g1:=hs.cell (B9.get (i:=1) rfl)
       have no:¬ (y ≠ 0∧-i2≤y∧y≤i2)→Q (.int .i64 1) υ:=fun hn => hno (fun f => hn (f.cl c hcm y hym)) υ 1 hsu (.inl rfl)
       refine ⟨p3,hp3,by omega,by omega,_,by rw [Int.toNat_natCast,Nat.mul_one]; exact hc3,y,rfl,br_iff.2 ⟨fun h => no ?_,fun q1 => ⟨_,g1,_,rfl,br_dec.2 ⟨fun h => no (by omega),fun q2 => ⟨_,g1,_,rfl,?_⟩⟩⟩⟩⟩
       · have:y=0:=by simpa using h
         omega
       · rw [wi]
         refine br_dec.2 ⟨fun h => no (by omega),fun q3 => ?_⟩
         have q1:y ≠ 0:=by simpa using q1
         rw [wk3]
         refine hR3 () _ hkn3 ⟨rfl,fun j z hj hz => ?_⟩
         by_cases ej:j=k3
         · subst ej
           rw [hy] at hz; cases hz
           exact ⟨q1,by omega,by omega⟩
         · exact hall3 j z (by omega) hz
     · have hkn3:k3=m:=by omega
       subst hkn3
       rw [wk2]
       refine hR2 () _ hkn2 ⟨rfl,fun j c' hj hc' => ?_⟩
       by_cases ej:j=k2
       · subst ej
         rw [hc] at hc'; cases hc'
         exact mem_of_all fun i y hi hy => hall3 i y (by omega) hy
       · exact hall2 j c' (by omega) hc'
   · exact hok ⟨by omega,by omega,by omega,by omega,hat,mem_of_all fun i c hi hc => hall2 i c (by omega) hc⟩ υ hsu
end Go.Proofs.Ythfnjogadngfiaa
namespace Go.Sv
def litT (bl:List Bool) (y:Int):Prop:=if 0 < y then bl.getD (y - 1).toNat false=true else bl.getD (-y - 1).toNat false=false
structure SatM (F:Fm) (bl:List Bool) (x:Nat→Int):Prop where
 len:bl.length=F.bools
 cl:∀ c ∈ F.clauses,∃ y ∈ c,litT bl y
 at':∀ (i:Nat) d,F.atoms[i]?=some d→(bl.getD i false=true ↔ x (dX d) - x (dY d)≤d.2.2)
 rng:∀ v,v < F.ints→-1000000000000000≤x v∧x v≤0
theorem Tr.or {n:Nat} {value:List Int} {level:List Nat} {trail:List Int} {limits:List Nat} (h:Tr n value level trail limits) (hv:∀ i,i < n→value[i]? ≠ some 0) {y:Int} (hy:LitN n y):y ∈ trail ∨ -y ∈ trail:=by
 obtain ⟨w,w1,w2,w3⟩:=h.lit_in hy.vr_lt (hv _ hy.vr_lt)
 have e:w * (((vr y:Nat):Int) + 1)=y ∨ w * (((vr y:Nat):Int) + 1)=-y:=by
   obtain ⟨g1,g2⟩:=hy
   unfold vr
   rcases w2 with rfl | rfl <;> omega
 rcases e with e | e
 · rw [e] at w3; exact .inl w3
 · rw [e] at w3; exact .inr w3
theorem sat_clauses {F:Fm} {n:Nat} {st:St} (hF:FOk F) (hn:n=F.bools) (hI:Inv F n st) (hW:WI n st st.W st.trail.length) (hC:Cov F st) (hv:∀ i,i < n→st.value[i]? ≠ some 0):∀ c ∈ F.clauses,∃ y ∈ c,y ∈ st.trail:=by
 intro c hc
 have hl:=hF.cl c hc
 rw [← hn] at hl
 have hnb:=hF.bools
 cases hnm:norm c with
 | none =>
   have:¬ Clean c:=fun h => by obtain ⟨o,ho⟩:=norm_ok h; rw [hnm] at ho; cases ho
   unfold Clean at this
   have:∃ x ∈ c,-x ∈ c:=by
     apply Classical.byContradiction
     intro hne
     exact this fun x hx => ⟨(hl x hx).1,by obtain ⟨_,h2⟩:=hl x hx; unfold minInt; omega,fun h => hne ⟨x,hx,h⟩⟩
   obtain ⟨x,h1,h2⟩:=this
   rcases hI.tr.or hv (hl x h1) with h | h
   · exact ⟨x,h1,h⟩
   · exact ⟨-x,h2,h⟩
 | some l =>
   obtain ⟨_,hm,_⟩:=norm_some hnm
   rcases hC c hc l hnm with ⟨r,q1,rc,q2,q3⟩ | ⟨x,q1,q2,_⟩
   · obtain ⟨rc',q4,q5⟩:=hW.cl r q1
     rw [q2] at q4; cases q4
     obtain ⟨a,ha⟩:∃ a,rc.lits[0]?=some a:=⟨_,List.getElem?_eq_getElem (by omega)⟩
     obtain ⟨b,hb⟩:∃ b,rc.lits[1]?=some b:=⟨_,List.getElem?_eq_getElem (by omega)⟩
     have ha':=List.mem_of_getElem? ha
     have hac:=(hm a).1 ((q3 a).1 ha')
     rcases hI.tr.or hv (hl a hac) with h | h
     · exact ⟨a,hac,h⟩
     · obtain ⟨h1,_⟩:=hW.ok r q1 rc q2 a b (.inl ⟨ha,hb⟩) (by rw [List.take_length]; exact h)
       exact ⟨b,(hm b).1 ((q3 b).1 (List.mem_of_getElem? hb)),h1⟩
   · subst q1
     exact ⟨x,(hm x).1 (by simp),q2⟩
theorem litT_of {n:Nat} {value:List Int} {level:List Nat} {trail:List Int} {limits:List Nat} (h:Tr n value level trail limits) {bl:List Bool} (hb:∀ i,i < n→bl[i]?=some (decide (0 < value.getD i 0))) {y:Int} (hy:y ∈ trail):litT bl y:=by
 have hl:=h.lit y hy
 have hv:=h.val (vr y) hl.vr_lt
 have hbv:=hb (vr y) hl.vr_lt
 rw [List.getD_eq_getElem?_getD,hv] at hbv
 obtain ⟨g1,g2⟩:=hl
 unfold Go.Sv.litT
 split
 · rename_i hp
   have e:(y - 1).toNat=vr y:=by unfold vr; omega
   rw [e,List.getD_eq_getElem?_getD,hbv]
   have:((vr y:Nat):Int) + 1=y:=by unfold vr; omega
   simp [sg,this,hy]
 · rename_i hp
   have e:(-y - 1).toNat=vr y:=by unfold vr; omega
   rw [e,List.getD_eq_getElem?_getD,hbv]
   have e2:((vr y:Nat):Int) + 1=-y:=by unfold vr; omega
   have hn:-y ∉ trail:=fun hm => h.anti hy hm
   have e3:-(((vr y:Nat):Int) + 1)=y:=by omega
   simp [sg,e2,hn,hy]
theorem sat_model {F:Fm} {n:Nat} {st:St} (hF:FOk F) (hn:n=F.bools) (hI:Inv F n st) (hW:WI n st st.W st.trail.length) (hC:Cov F st) (hv:∀ i,i < n→st.value[i]? ≠ some 0) {bl:List Bool} (hbl:bl.length=n) (hb:∀ i,i < n→bl[i]?=some (decide (0 < st.value.getD i 0))) {x:Nat→Int} (hx:∀ y ∈ st.trail,∀ d,bound F y=some d→x (dX d) - x (dY d)≤d.2.2) (hxb:∀ v,v < F.ints→-1000000000000000≤x v∧x v≤0):SatM F bl x:=by
 refine ⟨by omega,fun c hc => ?_,fun i d hd => ?_,hxb⟩
 · obtain ⟨y,h1,h2⟩:=sat_clauses hF hn hI hW hC hv c hc
   exact ⟨y,h1,litT_of hI.tr hb h2⟩
 · have hi:=(List.getElem?_eq_some_iff.1 hd).1
   have hal:=hF.atoms
   have hin:i < n:=by omega
   obtain ⟨w,w1,w2,w3⟩:=hI.tr.lit_in hin (hv i hin)
   have hbi:bl.getD i false=decide (0 < w):=by rw [List.getD_eq_getElem?_getD,hb i hin,List.getD_eq_getElem?_getD,w1]; rfl
   rw [hbi]
   rcases w2 with rfl | rfl
   · rw [Int.one_mul] at w3
     have:=hx _ w3 d (bound_pos hd)
     simp [this]
   · rw [Int.neg_mul,Int.one_mul] at w3
     have:=hx _ w3 _ (bound_neg (a:=d.1) (b:=d.2.1) (c:=d.2.2) hd)
     have e1:dX (d.2.1,d.1,-d.2.2 - 1)=dY d:=rfl
     have e2:dY (d.2.1,d.1,-d.2.2 - 1)=dX d:=rfl
     rw [e1,e2] at this
     simp only [show ¬ ((0:Int) < -1) from by decide,decide_false,Bool.false_eq_true,false_iff]
     dsimp only at this
     omega
end Go.Sv
namespace Go.Proofs.Ythfnjogadngfiaa
open Go.Sl Go.Sv
def StepsM (τ:PH) (a:Option Addr) (n:Nat) (ps:List PStep):Prop :=
 ps.length=n∧∀ (i:Nat) p,ps[i]?=some p→∃ q x m c,a=some q∧τ.cell? (q.add (i * 6))=some (.int .i64 p.kind)∧τ.cell? ((q.add (i * 6)).add 1)=some (.int .i64 p.index)∧τ.cell? ((q.add (i * 6)).add 2)=some (.slice x m c)∧Ints τ x m p.lits∧m≤c ∧
   τ.cell? ((q.add (i * 6)).add 3)=some (.int .i64 p.p)∧τ.cell? ((q.add (i * 6)).add 4)=some (.int .i64 p.q)∧τ.cell? ((q.add (i * 6)).add 5)=some (.int .i64 p.v)
theorem StepsM.sub {σ τ:PH} (hs:σ.sub τ) {a:Option Addr} {n:Nat} {ps:List PStep} (h:StepsM σ a n ps):StepsM τ a n ps:=by
 refine ⟨h.1,fun i p hp => ?_⟩
 obtain ⟨q,x,m,c,h1,h2,h3,h4,h5,h6,h7,h8,h9⟩:=h.2 i p hp
 exact ⟨q,x,m,c,h1,hs.cell h2,hs.cell h3,hs.cell h4,h5.sub hs,h6,hs.cell h7,hs.cell h8,hs.cell h9⟩
theorem Sol.stepsM {σ:PH} {T:Nat→Tag} {s:Nat} {g:Low} (H:Sol σ T s g) {st:St} (A:Abs g st):(g.F 4).n≤(g.F 4).c∧StepsM σ (g.F 4).a (g.F 4).n st.steps:=by
 have hO:=H.fld 4 95 6 rfl
 refine ⟨hO.1.le,⟨(H.n4 A).symm,fun i p hp => ?_⟩⟩
 obtain ⟨g',x,H',hff',A',hx,hn4,q,hq,c0,c1,c2,c3,c4,c5⟩:=copyStep ⟨g,H,rfl,A⟩ hp
 have f1:=H.field (k:=4) rfl
 have f2:=H'.field (k:=4) rfl
 rw [f1] at f2
 simp only [Option.some.injEq,Value.slice.injEq] at f2
 obtain ⟨e1,_,_⟩:=f2
 rw [e1]
 obtain ⟨k1,k2,k3,k4,k5,k6⟩:=hx
 rw [k1] at c0; rw [k2] at c1; rw [k3] at c3; rw [k4] at c4; rw [k5] at c5
 rcases k6 with ⟨l1,l2⟩ | ⟨r,y,l1,l2,l3⟩
 · rw [l1] at c2
   exact ⟨q,none,0,0,hq,c0,c1,c2,by rw [l2]; exact own_ints own_nil,Nat.le_refl _,c3,c4,c5⟩
 · have hc:=(H'.rc r y l1).1
   rw [l3] at hc
   rw [l2] at c2
   exact ⟨q,y.c.a,y.c.n,y.c.c,hq,c0,c1,c2,own_ints hc,hc.le,c3,c4,c5⟩
theorem c17 {F:Fm} {σ:PH} (hF:FOk F) (h40:F.bools≤40) (hlen:∀ c ∈ F.clauses,c.length≤1000000) {aa ca:Option Addr} {an ac cn cc:Nat} (hA:Atoms σ aa an F.atoms) (hL:Lists σ ca cn F.clauses) (ha:an≤ac) (hcc:cn≤cc) {Q:Value→PH→Prop}
   (hsat:∀ τ b X bl x,σ.sub τ→Blk τ b 4 (boolsV bl)→Blk τ X 3 (ints (tab F.ints x))→SatM F bl x→Q (.tuple #[.agg #[.slice (some (ptr b)) F.bools F.bools,.slice (some (ptr X)) F.ints F.ints],.slice none 0 0,.bool true]) τ)
   (hunsat:∀ τ a n c ps cs,σ.sub τ→StepsM τ a n ps→n≤c→stepsOf F ps=some cs→cs.getLast?=some []→n≤3500000000000→Q (.tuple #[.agg #[.slice none 0 0,.slice none 0 0],.slice a n c,.bool false]) τ) :
   C 17 #[.agg #[.int .i64 F.ints,.int .i64 F.bools,.slice aa an ac,.slice ca cn cc]] Q σ:=by
 refine go (E17_0 _ _ _ _ _ _ _ _ _ _ _) ?_
 unfold S17_0
 have e0:∀ b:Nat,(Addr.mk b 0 none).add 0=⟨b,0,none⟩:=fun b => rfl
 intro b9 h9
 have s9:=PH.sub_set (o:=.cells #[.int .i64 F.ints,.int .i64 F.bools,.slice aa an ac,.slice ca cn cc] 29) h9
 have B9:Blk (σ.set b9 (.cells #[.int .i64 F.ints,.int .i64 F.bools,.slice aa an ac,.slice ca cn cc] 29)) b9 29 [.int .i64 F.ints,.int .i64 F.bools,.slice aa an ac,.slice ca cn cc]:=set_self
 generalize σ.set b9 (.cells #[.int .i64 F.ints,.int .i64 F.bools,.slice aa an ac,.slice ca cn cc] 29)=ω9 at *
 intro b10 h10
 have s10:=PH.sub_set (o:=.cells #[.slice none 0 0,.slice none 0 0] 35) h10
 have B10:Blk (ω9.set b10 (.cells #[.slice none 0 0,.slice none 0 0] 35)) b10 35 [.slice none 0 0,.slice none 0 0]:=set_self
 have B9a:=s10 _ _ B9
 have nb10:σ b10=none:=new_of s9 h10
 have sω:=s9.trans s10
 generalize ω9.set b10 (.cells #[.slice none 0 0,.slice none 0 0] 35)=ω at *
 clear B9 s9 s10 h10
 have B9:Blk ω b9 29 [.int .i64 F.ints,.int .i64 F.bools,.slice aa an ac,.slice ca cn cc]:=B9a
 have g0:=B9.get (i:=0) rfl
 rw [e0] at g0
 refine ⟨_,g0,_,B9.get (i:=1) rfl,_,B9.get (i:=2) rfl,_,B9.get (i:=3) rfl,_,_,_,_,_,_,_,_,rfl,?_⟩
 refine c35 (hA.sub sω) (hL.sub sω) hlen (fun _ υ hs => ?_) fun hno => absurd (fok_raw hF) hno
 have B9u:Blk υ b9 29 [.int .i64 F.ints,.int .i64 F.bools,.slice aa an ac,.slice ca cn cc]:=hs _ _ B9
 have B10u:Blk υ b10 35 [.slice none 0 0,.slice none 0 0]:=hs _ _ B10
 have g0u:=B9u.get (i:=0) rfl
 rw [e0] at g0u
 refine ⟨υ,PH.sub.refl _,0,rfl,br_iff.2 ⟨fun h => (by cases h),fun _ => ?_⟩⟩
 refine ⟨_,g0u,_,B9u.get (i:=1) rfl,_,B9u.get (i:=2) rfl,_,B9u.get (i:=3) rfl,_,_,_,_,_,_,_,_,rfl,?_⟩
 have sσυ:=sω.trans hs
 refine r36 hF rfl hlen rfl (hL.sub sσυ) fun τ T s st h1 R1 N1 => ⟨τ,PH.sub.refl _,_,rfl,?_⟩
 have hf:Frm (oth τ T) [.int .i64 F.ints,.int .i64 F.bools,.slice aa an ac,.slice ca cn cc] F:=⟨aa,an,ac,ca,cn,cc,rfl,(hA.sub sσυ).sub h1,(hL.sub sσυ).sub h1,ha,hcc⟩
 refine r37 hF rfl h40 R1 hf N1 (fun τ2 T2 st2 x D2 R2 I2 W2 C2 hv hx => ?_) fun τ2 T2 st2 cs D2 R2 hcs hlast hsn => ?_
 · have B10t:Blk τ2 b10 35 [.slice none 0 0,.slice none 0 0]:=oth_sub _ _ _ _ (D2.oth _ _ (h1 _ _ B10u))
   have sub2:σ.sub τ2:=((sσυ.trans h1).trans D2.oth).trans (oth_sub _ _)
   refine ⟨τ2,PH.sub.refl _,_,rfl,br_iff.2 ⟨fun _ => ?_,fun h => (by cases h)⟩⟩
   refine r38 hF rfl R2 (hf.sub D2.oth) I2 hv hx fun τ3 b X x' hs3 hb0 hX0 kb kX hx' hxb' => ?_
   have B10v:Blk τ3 b10 35 [.slice none 0 0,.slice none 0 0]:=hs3 _ _ B10t
   have sub3:=sub2.trans hs3
   have c0:=B10v.get (i:=0) rfl
   have f0:=B10v.froz 0
   rw [e0] at c0 f0
   have k1:=B10v.set 0 (.slice (some (ptr b)) F.bools F.bools)
   rw [e0] at k1
   have k2:=k1.set 1 (.slice (some (ptr X)) F.ints F.ints)
   have r0:=k2.get (i:=0) rfl
   rw [e0] at r0
   have st1:Step (·=b10) τ3 (τ3.setCell (ptr b10) (.slice (some (ptr b)) F.bools F.bools)):=setCell_step.weaken fun b hb => hb
   have st2':Step (·=b10) (τ3.setCell (ptr b10) (.slice (some (ptr b)) F.bools F.bools)) ((τ3.setCell (ptr b10) (.slice (some (ptr b)) F.bools F.bools)).setCell ((ptr b10).add 1) (.slice (some (ptr X)) F.ints F.ints)):=setCell_step.weaken fun b hb => hb.trans (add_block _ _)
   have stt:=st1.trans st2'
   have nbb:b ≠ b10:=ne_new B10t hb0
   have nbX:X ≠ b10:=ne_new B10t hX0
   refine ⟨τ3,PH.sub.refl _,_,_,_,_,_,_,rfl,⟨_,c0⟩,f0,⟨_,k1.get (i:=1) rfl⟩,k1.froz 1,_,r0,_,k2.get (i:=1) rfl,?_⟩
   refine hsat _ b X _ x' (sub_step_new sub3 stt (by rintro q rfl; exact nb10)) (kb.keep stt nbb) (kX.keep stt nbX) ?_
   exact sat_model hF rfl I2 W2 C2 hv tab_len (fun i hi => tab_get hi) hx' hxb'
 · have B10t:Blk τ2 b10 35 [.slice none 0 0,.slice none 0 0]:=oth_sub _ _ _ _ (D2.oth _ _ (h1 _ _ B10u))
   have to:T2 b10=.other:=by
     have h:=D2.oth _ _ (h1 _ _ B10u)
     unfold oth at h
     split at h
     · assumption
     · cases h
   have sub2:σ.sub τ2:=((sσυ.trans h1).trans D2.oth).trans (oth_sub _ _)
   obtain ⟨g,H,hff,A⟩:=R2
   have hsb:s ≠ b10:=by
     rintro rfl
     have:=H.tag
     rw [to] at this; cases this
   have c0:=B10t.get (i:=0) rfl
   have f0:=B10t.froz 0
   rw [e0] at c0 f0
   have k1:=B10t.set 0 (.slice none 0 0)
   rw [e0] at k1
   have k2:=k1.set 1 (.slice none 0 0)
   have r0:=k2.get (i:=0) rfl
   rw [e0] at r0
   have st1:Step (·=b10) τ2 (τ2.setCell (ptr b10) (.slice none 0 0)):=setCell_step.weaken fun b hb => hb
   have st2':Step (·=b10) (τ2.setCell (ptr b10) (.slice none 0 0)) ((τ2.setCell (ptr b10) (.slice none 0 0)).setCell ((ptr b10).add 1) (.slice none 0 0)):=setCell_step.weaken fun b hb => hb.trans (add_block _ _)
   have stt:=st1.trans st2'
   have H3:=H.keep stt fun b hb e => hb (by rw [e]; exact to)
   obtain ⟨hnc,hSM⟩:=H3.stepsM A
   have hn4:=H.n4 A
   refine ⟨τ2,PH.sub.refl _,_,rfl,br_iff.2 ⟨fun h => (by cases h),fun _ => ?_⟩⟩
   refine ⟨_,rfl,_,H.field (k:=4) rfl,_,_,_,rfl,fun h => hsb (by have:=h.1; rw [add_block] at this; exact this.symm),fun h => hsb (by have:=h.1; rw [add_block,add_block] at this; exact this.symm),⟨_,c0⟩,f0,⟨_,k1.get (i:=1) rfl⟩,k1.froz 1,_,r0,_,k2.get (i:=1) rfl,?_⟩
   exact hunsat _ _ _ _ _ cs (sub_step_new sub2 stt (by rintro q rfl; exact nb10)) hSM hnc hcs hlast (by omega)
theorem c44 {x:Int} (hl:Lit x) (σ:PH):C 44 #[.int .i64 x] (fun v τ => v=.int .i64 (x.natAbs:Nat)∧τ=σ) σ:=by
 refine go (E44_0 _ _ _ _) ?_
 unfold S44_0
 obtain ⟨h1,h2⟩:=hl
 refine br_dec.2 ⟨fun hn => ⟨?_,rfl⟩,fun hn => ⟨?_,rfl⟩⟩
 · rw [w64 (by omega) (by omega)]
   congr 1; omega
 · congr 1; omega
theorem c33 {σ:PH} {i1 i2:Int} {aa:Option Addr} {an ac:Nat} {ca:Option Addr} {cn cc:Nat} {F:Fm} (hA:Atoms σ aa an F.atoms) (hC:∀ d ∈ F.atoms,-1048576≤d.2.2∧d.2.2≤1048576) (han:an≤1000000) {x:Int} (hl:Lit x) {Q:Value→PH→Prop} (hQ:∀ τ,σ.sub τ→Q (bndV (bound F x)) τ) :
   C 33 #[.agg #[.int .i64 i1,.int .i64 i2,.slice aa an ac,.slice ca cn cc],.int .i64 x] Q σ:=by
 refine go (E33_0 _ _ _ _ _ _ _ _ _ _ _ _) ?_
 unfold S33_0
 intro b10 h10 b11 h11
 have e0:∀ b:Nat,(Addr.mk b 0 none).add 0=⟨b,0,none⟩:=fun b => rfl
 have s1:=PH.sub_set (o:=.cells #[.int .i64 i1,.int .i64 i2,.slice aa an ac,.slice ca cn cc] 29) h10
 have s2:=PH.sub_set (o:=.cells #[.int .i64 0,.int .i64 0,.int .i64 0] 50) h11
 obtain ⟨hb1,hb2⟩:=hl
 have hal:=hA.1
 have B10:Blk ((σ.set b10 (.cells #[.int .i64 i1,.int .i64 i2,.slice aa an ac,.slice ca cn cc] 29)).set b11 (.cells #[.int .i64 0,.int .i64 0,.int .i64 0] 50)) b10 29 [.int .i64 i1,.int .i64 i2,.slice aa an ac,.slice ca cn cc]:=s2 _ _ set_self
 have B11:Blk ((σ.set b10 (.cells #[.int .i64 i1,.int .i64 i2,.slice aa an ac,.slice ca cn cc] 29)).set b11 (.cells #[.int .i64 0,.int .i64 0,.int .i64 0] 50)) b11 50 [.int .i64 0,.int .i64 0,.int .i64 0]:=set_self
 have n11:σ b11=none:=new_of s1 h11
 have sub:=s1.trans s2
 generalize ((σ.set b10 (.cells #[.int .i64 i1,.int .i64 i2,.slice aa an ac,.slice ca cn cc] 29)).set b11 (.cells #[.int .i64 0,.int .i64 0,.int .i64 0] 50))=ω at *
 have st:∀ (ω:PH) i v,Step (·=b11) ω (ω.setCell ((ptr b11).add i) v):=fun ω i v => setCell_step.weaken fun b hb => hb.trans (add_block _ _)
 have fin:∀ (ω':PH),ω.sub ω'→∀ (v0 v1 v2:Int) (q:Bool),Q (.tuple #[.agg #[.int .i64 v0,.int .i64 v1,.int .i64 v2],.bool q]) (((ω'.setCell (ptr b11) (.int .i64 v0)).setCell ((ptr b11).add 1) (.int .i64 v1)).setCell ((ptr b11).add 2) (.int .i64 v2)) →
     (∃ u,ω'.cell? (ptr b11)=some u)∧ω'.froz (ptr b11)=some false∧(∃ u,(ω'.setCell (ptr b11) (.int .i64 v0)).cell? ((ptr b11).add 1)=some u)∧(ω'.setCell (ptr b11) (.int .i64 v0)).froz ((ptr b11).add 1)=some false ∧
     (∃ u,((ω'.setCell (ptr b11) (.int .i64 v0)).setCell ((ptr b11).add 1) (.int .i64 v1)).cell? ((ptr b11).add 2)=some u)∧((ω'.setCell (ptr b11) (.int .i64 v0)).setCell ((ptr b11).add 1) (.int .i64 v1)).froz ((ptr b11).add 2)=some false ∧
     ∃ w0,(((ω'.setCell (ptr b11) (.int .i64 v0)).setCell ((ptr b11).add 1) (.int .i64 v1)).setCell ((ptr b11).add 2) (.int .i64 v2)).cell? (ptr b11)=some w0∧∃ w1,(((ω'.setCell (ptr b11) (.int .i64 v0)).setCell ((ptr b11).add 1) (.int .i64 v1)).setCell ((ptr b11).add 2) (.int .i64 v2)).cell? ((ptr b11).add 1)=some w1 ∧
     ∃ w2,(((ω'.setCell (ptr b11) (.int .i64 v0)).setCell ((ptr b11).add 1) (.int .i64 v1)).setCell ((ptr b11).add 2) (.int .i64 v2)).cell? ((ptr b11).add 2)=some w2∧Q (.tuple #[.agg #[w0,w1,w2],.bool q]) (((ω'.setCell (ptr b11) (.int .i64 v0)).setCell ((ptr b11).add 1) (.int .i64 v1)).setCell ((ptr b11).add 2) (.int .i64 v2)):=by
   intro ω' hs v0 v1 v2 q hq
   have B:=hs _ _ B11
   have k0:Blk (ω'.setCell (ptr b11) (.int .i64 v0)) b11 50 [.int .i64 v0,.int .i64 0,.int .i64 0]:=(show Blk ω' b11 50 _ from B).set 0 (.int .i64 v0)
   have k1:Blk ((ω'.setCell (ptr b11) (.int .i64 v0)).setCell ((ptr b11).add 1) (.int .i64 v1)) b11 50 [.int .i64 v0,.int .i64 v1,.int .i64 0]:=k0.set 1 (.int .i64 v1)
   have k2:Blk (((ω'.setCell (ptr b11) (.int .i64 v0)).setCell ((ptr b11).add 1) (.int .i64 v1)).setCell ((ptr b11).add 2) (.int .i64 v2)) b11 50 [.int .i64 v0,.int .i64 v1,.int .i64 v2]:=k1.set 2 (.int .i64 v2)
   have g0:=(show Blk ω' b11 50 _ from B).get (i:=0) rfl
   have f0:=(show Blk ω' b11 50 _ from B).froz 0
   have r0:=k2.get (i:=0) rfl
   rw [e0] at g0 f0 r0
   exact ⟨⟨_,g0⟩,f0,⟨_,k0.get (i:=1) rfl⟩,k0.froz 1,⟨_,k1.get (i:=2) rfl⟩,k1.froz 2,_,r0,_,k2.get (i:=1) rfl,_,k2.get (i:=2) rfl,hq⟩
 have fsub:∀ (ω':PH),ω.sub ω'→∀ (v0 v1 v2:Int),σ.sub (((ω'.setCell (ptr b11) (.int .i64 v0)).setCell ((ptr b11).add 1) (.int .i64 v1)).setCell ((ptr b11).add 2) (.int .i64 v2)):=fun ω' hs v0 v1 v2 =>
   sub_step_new (sub_step_new (sub_step_new (sub.trans hs) (st ω' 0 _) (by rintro b rfl; exact n11)) (st _ 1 _) (by rintro b rfl; exact n11)) (st _ 2 _) (by rintro b rfl; exact n11)
 have ans:∀ (ω':PH),ω.sub ω'→∀ (v0 v1 v2:Int) (q:Bool),bndV (bound F x)=.tuple #[.agg #[.int .i64 v0,.int .i64 v1,.int .i64 v2],.bool q]→Q (.tuple #[.agg #[.int .i64 v0,.int .i64 v1,.int .i64 v2],.bool q]) (((ω'.setCell (ptr b11) (.int .i64 v0)).setCell ((ptr b11).add 1) (.int .i64 v1)).setCell ((ptr b11).add 2) (.int .i64 v2)):=by
   intro ω' hs v0 v1 v2 q e
   rw [← e]
   exact hQ _ (fsub ω' hs v0 v1 v2)
 have c2:=B10.get (i:=2) rfl
 refine br_iff.2 ⟨fun h0 => ?_,fun h0 => ?_⟩
 · have hx:x=0:=by simpa using h0
   refine fin ω (.refl _) 0 0 0 false (ans ω (.refl _) 0 0 0 false ?_)
   unfold bound; rw [if_pos hx]; rfl
 · have hx:x ≠ 0:=by simpa using h0
   have wn:IntKind.wrap .i64 (0 - (an:Int))=-(an:Int):=by rw [w64 (by omega) (by omega)]; omega
   have none':F.atoms.length≤vr x→bndV (bound F x)=.tuple #[.agg #[.int .i64 0,.int .i64 0,.int .i64 0],.bool false]:=by
     intro h
     unfold bound
     rw [if_neg hx,List.getElem?_eq_none h]; rfl
   refine ⟨_,c2,_,_,_,rfl,br_dec.2 ⟨fun hgt => fin ω (.refl _) 0 0 0 false (ans ω (.refl _) 0 0 0 false (none' (by unfold vr; omega))),fun hle => ?_⟩⟩
   refine ⟨_,c2,_,_,_,rfl,?_⟩
   rw [wn]
   refine br_dec.2 ⟨fun hlt => fin ω (.refl _) 0 0 0 false (ans ω (.refl _) 0 0 0 false (none' (by unfold vr; omega))),fun hge => ?_⟩
   have hv:vr x < F.atoms.length:=by unfold vr; omega
   obtain ⟨d,hd⟩:∃ d,F.atoms[vr x]?=some d:=⟨_,List.getElem?_eq_getElem hv⟩
   have hCm:=hC d (List.mem_of_getElem? hd)
   obtain ⟨p,hp,a0,a1,a2⟩:=(hA.sub sub).2 _ d hd
   refine br_dec.2 ⟨fun hpos => ?_,fun hneg => ?_⟩
   · have w1:IntKind.wrap .i64 (x - 1)=((vr x:Nat):Int):=by unfold vr; rw [w64 (by omega) (by omega)]; omega
     refine ⟨_,c2,_,_,_,rfl,p,hp,?_⟩
     rw [w1]
     simp only [Int.toNat_natCast]
     refine ⟨by omega,by omega,_,a0,_,a1,_,a2,_,_,_,rfl,fin ω (.refl _) d.1 d.2.1 d.2.2 true (ans ω (.refl _) _ _ _ _ ?_)⟩
     unfold bound
     rw [if_neg hx,hd]
     dsimp only
     rw [if_pos (by omega)]; rfl
   · have w1:IntKind.wrap .i64 (IntKind.wrap .i64 (0 - x) - 1)=((vr x:Nat):Int):=by unfold vr; rw [w64 (n:=0 - x) (by omega) (by omega),w64 (by omega) (by omega)]; omega
     refine ⟨_,c2,_,_,_,rfl,p,hp,?_⟩
     rw [w1]
     simp only [Int.toNat_natCast]
     refine ⟨by omega,by omega,_,a0,_,a1,_,a2,_,_,_,rfl,fun b66 h66 => ?_⟩
     simp only [newSet,newSet0,newCell,newCell0,newFroz,newFroz0,List.setIfInBounds_toArray,List.set_cons_zero,List.set_cons_succ,List.getElem?_toArray,List.getElem?_cons_zero,List.getElem?_cons_succ,Option.some.injEq,exists_eq',true_and,Value.int.injEq,exists_eq_left']
     have w2:IntKind.wrap .i64 (IntKind.wrap .i64 (0 - d.2.2) - 1)=-d.2.2 - 1:=by rw [w64 (n:=0 - d.2.2) (by omega) (by omega),w64 (by omega) (by omega)]; omega
     rw [w2]
     refine fin _ (PH.sub_set h66) d.2.1 d.1 (-d.2.2 - 1) true (ans _ (PH.sub_set h66) _ _ _ _ ?_)
     unfold bound
     rw [if_neg hx,hd]
     dsimp only
     rw [if_neg (by omega)]; rfl
end Go.Proofs.Ythfnjogadngfiaa
namespace Go.Sv
theorem ins_at {x:Int}:∀ {o:List Int} {i:Nat},i≤o.length→(∀ (j:Nat) y,j < i→o[j]?=some y→y.natAbs < x.natAbs)→(∀ y,o[i]?=some y→¬ y.natAbs < x.natAbs) →
   ins x o=(match o[i]? with | some y => if y=x then some o else if y=-x then none else some (o.take i ++ x :: o.drop i) | none => some (o.take i ++ [x]))
 | [],0,_,_,_ => rfl
 | y :: ys,0,_,_,h2 => by
   have:=h2 y rfl
   unfold ins
   rw [if_neg this]
   rfl
 | y :: ys,i + 1,h0,h1,h2 => by
   have hy:=h1 0 y (by omega) rfl
   have ih:=ins_at (x:=x) (o:=ys) (i:=i) (by simpa using h0) (fun j z hj hz => h1 (j + 1) z (by omega) (by simpa using hz)) (fun z hz => h2 z (by simpa using hz))
   unfold ins
   rw [if_pos hy,ih]
   have e:(y :: ys)[i + 1]?=ys[i]?:=by simp
   rw [e]
   cases hz:ys[i]? with
   | none => simp
   | some z =>
     dsimp only
     by_cases q1:z=x
     · rw [if_pos q1,if_pos q1]; rfl
     · rw [if_neg q1,if_neg q1]
       by_cases q2:z=-x
       · rw [if_pos q2,if_pos q2]; rfl
       · rw [if_neg q2,if_neg q2]; simp
end Go.Sv
namespace Go.Proofs.Ythfnjogadngfiaa
open Go.Sl Go.Sv
theorem append_fresh {σ:PH} {a xb:Option Addr} {n c m mc:Nat} {l0 l1:List Int} (hr0:readsRow σ a (ints l0)) (hl0:l0.length=n) (hr1:readsRow σ xb (ints l1)) (hl1:l1.length=m) (hc:c < n + m) (hbig:n + m≤10000000000000) {Q:Value→PH→Prop}
   (hQ:∀ b c' τ,σ b=none→σ.sub τ→Own τ 3 1 (some ⟨b,0,none⟩) (n + m) c' (ints (l0 ++ l1))→Q (.slice (some ⟨b,0,none⟩) (n + m) c') τ) :
   iappend prog 3 (.slice a n c) (.slice xb m mc) Q σ:=by
 unfold iappend
 obtain ⟨h1,h2,h3⟩:=t3
 simp only [h1,h2,h3]
 refine ⟨ints l0,ints l1,by simp [ints,hl0],by simp [ints,hl1],hr0,hr1,fun hle => by omega,fun hlt => ⟨by decide,?_,fun c' b hc' hbn => ?_⟩⟩
 · exact Nat.le_trans (Nat.mul_le_mul_right _ (nextcap_le hlt)) (by omega)
 · refine hQ b c' _ hbn (PH.sub_set hbn) ⟨by simp [ints,hl0,hl1],hc',.inr ⟨b,_,rfl,set_self,?_,?_⟩⟩
   · simp only [Array.size_append,List.size_toArray,zeros,Builtin.zeroCells,Array.size_map,Array.size_range]
     simp [ints,hl0,hl1,Value.cells]
     omega
   · simp only [Array.toList_append]
     rw [List.take_append_of_le_length (by simp [ints,hl0,hl1])]
     simp [ints,hl0,hl1,List.take_of_length_le]
theorem take_reads {σ:PH} {e:TypeId} {a:Option Addr} {n c:Nat} {vs:List Value} (o:Own σ e 1 a n c vs) (m:Nat):readsRow σ a (vs.take m):=by
 refine row_reads ?_
 rcases Own.row' o with h | ⟨p,h1,h2⟩
 · left; rw [h]; simp
 · right
   refine ⟨p,h1,fun i v hv => h2 i v ?_⟩
   rw [List.getElem?_take] at hv
   split at hv
   · exact hv
   · cases hv
theorem c62 {σ:PH} {a:Option Addr} {n c:Nat} {l:List Int} (hl:Ints σ a n l) (hlit:∀ x ∈ l,Lit x) (hn:l.length≤1000000) {Q:Value→PH→Prop}
   (hok:∀ τ (sl:Sli) out,σ.sub τ→norm l=some out→Own τ 3 1 sl.a sl.n sl.c (ints out)→(∀ p,sl.a=some p→σ p.block=none)→Q (.tuple #[sl.v,.bool true]) τ)
   (hno:∀ τ,σ.sub τ→norm l=none→Q (.tuple #[.slice none 0 0,.bool false]) τ) :
   C 62 #[.slice a n c] Q σ:=by
 refine go (E62_0 _ _ _ _ _ _) ?_
 unfold S62_0 S62_1
 have hln:=hl.1
 refine iloopS_for (G:=Sli) (fun k sl => (sl.a,sl.n,sl.c,a,n,c,(n:Int),(k:Int))) (fun k sl υ => ∃ o,σ.sub υ∧Own υ 3 1 sl.a sl.n sl.c (ints o)∧(∀ p,sl.a=some p→σ p.block=none)∧normFrom o (l.drop k)=norm l∧o.length≤k∧∀ y ∈ o,Lit y) n ?_
   (g:=⟨none,0,0⟩) ⟨[],.refl _,own_nil,(fun p hp => by cases hp),rfl,by simp,by simp⟩
 rintro k sl υ hk ⟨o,hs,hO,hnew,hnf,hol,hoL⟩ R1 hR1
 unfold S62_2
 dsimp only at hO hnew ⊢
 have hon:=own_len hO
 refine br_dec.2 ⟨fun hlt => ?_,fun hge => ?_⟩
 · have hkn:k < n:=by omega
   obtain ⟨x,hx⟩:∃ x,l[k]?=some x:=⟨_,List.getElem?_eq_getElem (by omega)⟩
   have hxL:=hlit x (List.mem_of_getElem? hx)
   obtain ⟨hx1,hx2⟩:=hxL
   obtain ⟨p,hp,hc⟩:=(hl.sub hs).2.at (i:=k) (v:=.int .i64 x) (by simp [hx])
   have hdk:l.drop k=x :: l.drop (k + 1):=by
     rw [List.drop_eq_getElem_cons (by omega)]
     congr 1
     exact (List.getElem?_eq_some_iff.1 hx).2
   have wk:IntKind.wrap .i64 ((k:Int) + 1)=((k + 1:Nat):Int):=by rw [w64 (by omega) (by omega)]; omega
   have wx:IntKind.wrap .i64 (0 - x)=-x:=by rw [w64 (by omega) (by omega)]; omega
   rw [hdk] at hnf
   refine ⟨p,hp,by omega,by omega,_,by rw [Int.toNat_natCast,Nat.mul_one]; exact hc,x,rfl,br_iff.2 ⟨fun h0 => ?_,fun h0 => ?_⟩⟩
   · have hx0:x=0:=by simpa using h0
     refine hno υ hs ?_
     rw [← hnf]
     unfold normFrom
     rw [if_pos (.inl hx0)]
   · have hx0:x ≠ 0:=by simpa using h0
     rw [wx]
     refine br_iff.2 ⟨fun h1 => ?_,fun _ => ?_⟩
     · have:x=-x:=by simpa using h1
       omega
     have hnf':(match ins x o with | none => none | some o' => normFrom o' (l.drop (k + 1)))=norm l:=by
       rw [← hnf]
       conv => rhs; unfold normFrom
       rw [if_neg (by unfold minInt; omega)]
       cases ins x o <;> rfl
     unfold S62_3
     refine iloopS_for (G:=Unit) (fun i _ => (sl.a,sl.n,sl.c,x,(i:Int),a,n,c,(n:Int),(k:Int))) (fun i _ τ => υ=τ∧∀ (j:Nat) y,j < i→o[j]?=some y→y.natAbs < x.natAbs) sl.n ?_ (g:=()) ⟨rfl,fun j y h => by omega⟩
     rintro i _ _ hi ⟨rfl,hlow⟩ R3 hR3
     unfold S62_4
     dsimp only
     have app:(∀ y,o[i]?=some y→¬ y.natAbs < x.natAbs)→(∀ y,o[i]?=some y→y ≠ x∧y ≠ -x)→∀ b:Nat,υ b=none→(0:Int)≤(i:Int)∧(i:Int)≤((sl.n:Nat):Int)∧iappend prog 3 (.slice (some ⟨b,0,none⟩) 1 1) (.slice (cutAt sl.a sl.c (Int.toNat (i:Int)) 1) (sl.n - Int.toNat (i:Int)) (sl.c - Int.toNat (i:Int))) (fun v τ => ∃ (a1:Option Addr) (n1:Nat) (c1:Nat),v=(.slice a1 n1 c1)∧(0:Int)≤(i:Int)∧(i:Int)≤((sl.c:Nat):Int)∧(0:Int)≤(i:Int)∧(i:Int)≤(i:Int) ∧
         iappend prog 3 (.slice sl.a (Int.toNat (i:Int)) (Int.toNat (i:Int))) (.slice a1 n1 c1) (fun v τ => ∃ (a2:Option Addr) (n2:Nat) (c2:Nat),v=(.slice a2 n2 c2)∧R1 (a2,n2,c2,a,n,c,(n:Int),(IntKind.wrap .i64 ((k:Int) + (1:Int)))) τ) τ) (PH.set υ b (.cells #[(.int .i64 x)] 3)):=by
       intro hnl hneq b hbn
       have hle:=hO.le
       refine ⟨by omega,by omega,?_⟩
       rw [Int.toNat_natCast]
       have sb:=PH.sub_set (o:=.cells #[.int .i64 x] 3) hbn
       have Ob:Own (υ.set b (.cells #[.int .i64 x] 3)) 3 1 (some ⟨b,0,none⟩) 1 1 (ints [x]):=⟨by simp [ints],Nat.le_refl _,.inr ⟨b,_,rfl,set_self,by simp,by simp [ints]⟩⟩
       have hO':=hO.keep (M:=fun _ => False) sb.step fun _ _ h => h
       have hcr:=cut_reads hO' (m:=i) (by omega)
       refine Own.append t3.1 t3.2.1 t3.2.2 rfl (by decide) Ob (news:=ints (o.drop i)) (m:=sl.n - i) ?_ (by simp [ints]; omega) (by intro v hv; obtain ⟨y,_,rfl⟩:=List.mem_map.1 hv; trivial) (by omega) fun a1 c1 τ hO1 hst hnew1 => ?_
       · unfold ints at hcr ⊢
         rwa [← List.map_drop] at hcr
       · refine ⟨_,_,_,rfl,by omega,by omega,by omega,by omega,?_⟩
         have hbs:σ b=none:=new_of hs hbn
         have hO2:Own τ 3 1 sl.a sl.n sl.c (ints o):=hO'.keep hst (by
           rintro q hq ⟨q',h1,h2⟩
           cases h1
           exact hO.known hq (by rw [h2]; exact hbn))
         have sτ:σ.sub τ:=sub_step_new (hs.trans sb) hst (by rintro q ⟨q',h1,rfl⟩; cases h1; exact hbs)
         have hr0:=take_reads hO2 i
         refine append_fresh (l0:=o.take i) (l1:=x :: o.drop i) ?_ (by simp; omega) ?_ (by simp; omega) (by omega) (by omega) fun b2 c2 τ2 hb2 hs2 hO3 => ⟨_,_,_,rfl,?_⟩
         · unfold ints at hr0 ⊢
           rwa [← List.map_take] at hr0
         · have:=hO1.reads
           simpa [ints] using this
         · rw [wk]
           have hins:ins x o=some (o.take i ++ x :: o.drop i):=by
             rw [ins_at (by omega) hlow hnl]
             cases hoi:o[i]? with
             | none =>
               have:o.length≤i:=by
                 rcases Nat.lt_or_ge i o.length with h | h
                 · rw [List.getElem?_eq_getElem h] at hoi; cases hoi
                 · exact h
               rw [List.drop_eq_nil_of_le this]
             | some y =>
               obtain ⟨g1,g2⟩:=hneq y hoi
               dsimp only
               rw [if_neg g1,if_neg g2]
           refine hR1 ⟨some ⟨b2,0,none⟩,_,c2⟩ _ hkn ⟨o.take i ++ x :: o.drop i,sτ.trans hs2,hO3,fun q hq => by cases hq; exact new_of sτ hb2,?_,by simp; omega,fun y hy => ?_⟩
           · rw [hins] at hnf'
             exact hnf'
           · rcases List.mem_append.1 hy with hy | hy
             · exact hoL y (List.mem_of_mem_take hy)
             · rcases List.mem_cons.1 hy with rfl | hy
               · exact ⟨hx1,hx2⟩
               · exact hoL y (List.mem_of_mem_drop hy)
     refine br_dec.2 ⟨fun hilt => ?_,fun hige => ?_⟩
     · have hil:i < o.length:=by omega
       obtain ⟨y,hy⟩:∃ y,o[i]?=some y:=⟨_,List.getElem?_eq_getElem hil⟩
       have hyL:=hoL y (List.mem_of_getElem? hy)
       obtain ⟨q,hq,hcq⟩:=hO.get (i:=i) (v:=.int .i64 y) (by simp [ints,hy])
       have wi:IntKind.wrap .i64 ((i:Int) + 1)=((i + 1:Nat):Int):=by rw [w64 (by omega) (by omega)]; omega
       have hcq':υ.cell? (q.add (Int.toNat (i:Int) * 1))=some (.int .i64 y):=by rw [Int.toNat_natCast,Nat.mul_one]; exact hcq
       refine ⟨q,hq,by omega,by omega,_,hcq',y,rfl,(c44 hyL _).mono hb ?_⟩
       rintro _ τ ⟨rfl,eτ⟩
       obtain rfl:=eτ.symm
       refine ⟨_,.refl _,_,rfl,(c44 ⟨hx1,hx2⟩ _).mono hb ?_⟩
       rintro _ τ ⟨rfl,eτ⟩
       obtain rfl:=eτ.symm
       refine ⟨_,.refl _,_,rfl,br_dec.2 ⟨fun hab => ?_,fun hab => ?_⟩⟩
       · rw [wi]
         refine hR3 () _ (by omega) ⟨rfl,fun j z hj hz => ?_⟩
         by_cases e:j=i
         · subst e
           rw [hy] at hz; cases hz; omega
         · exact hlow j z (by omega) hz
       · have hnl:∀ z,o[i]?=some z→¬ z.natAbs < x.natAbs:=by
           intro z hz; rw [hy] at hz; cases hz; omega
         refine br_dec.2 ⟨fun _ => ⟨q,hq,by omega,by omega,_,hcq',y,rfl,br_iff.2 ⟨fun he => ?_,fun he => ?_⟩⟩,fun h => absurd hilt h⟩
         · have he:y=x:=by simpa using he
           rw [wk]
           refine hR1 sl _ hkn ⟨o,hs,hO,hnew,?_,by omega,hoL⟩
           rw [ins_at (by omega) hlow hnl,hy] at hnf'
           dsimp only at hnf'
           rw [if_pos he] at hnf'
           exact hnf'
         · have he:y ≠ x:=by simpa using he
           refine br_dec.2 ⟨fun _ => ⟨q,hq,by omega,by omega,_,hcq',y,rfl,?_⟩,fun h => absurd hilt h⟩
           rw [wx]
           refine br_iff.2 ⟨fun he2 => ?_,fun he2 => ?_⟩
           · have he2:y=-x:=by simpa using he2
             refine hno υ hs ?_
             rw [ins_at (by omega) hlow hnl,hy] at hnf'
             dsimp only at hnf'
             rw [if_neg he,if_pos he2] at hnf'
             exact hnf'.symm
           · have he2:y ≠ -x:=by simpa using he2
             exact app hnl fun z hz => by rw [hy] at hz; cases hz; exact ⟨he,he2⟩
     · have hil:o[i]?=none:=List.getElem?_eq_none (by omega)
       refine br_dec.2 ⟨fun h => absurd h hige,fun _ => br_dec.2 ⟨fun h => absurd h hige,fun _ => ?_⟩⟩
       exact app (fun z hz => by rw [hil] at hz; cases hz) (fun z hz => by rw [hil] at hz; cases hz)
 · have hkn:k=n:=by omega
   subst hkn
   rw [List.drop_eq_nil_of_le (by omega)] at hnf
   exact hok υ sl o hs hnf.symm hO hnew
end Go.Proofs.Ythfnjogadngfiaa
namespace Go.Sv
theorem chain_next:∀ {l:List Dif} {a b:Int},chain a b l→(∀ d,l[0]?=some d→d.1=a)∧(∀ (i:Nat) d e,l[i]?=some d→l[i + 1]?=some e→d.2.1=e.1)∧(∀ d,l[l.length - 1]?=some d→d.2.1=b)
 | [],a,b,h => ⟨by simp,by simp,by simp⟩
 | x :: t,a,b,h => by
   obtain ⟨h1,h2⟩:=h
   obtain ⟨g1,g2,g3⟩:=chain_next h2
   refine ⟨fun d hd => by simp at hd; subst hd; exact h1,fun i d e hd he => ?_,fun d hd => ?_⟩
   · cases i with
     | zero => simp at hd; subst hd; exact (g1 e (by simpa using he)).symm
     | succ i => exact g2 i d e (by simpa using hd) (by simpa using he)
   · cases t with
     | nil => simp at hd; subst hd; exact h2
     | cons y t' =>
       refine g3 d ?_
       simpa using hd
theorem ring_next {l:List Dif} (h:ring l):∀ (i:Nat) d e,l[i]?=some d→l[(i + 1) % l.length]?=some e→d.2.1=e.1:=by
 obtain ⟨a,hc,hs⟩:=h
 obtain ⟨h1,h2,h3⟩:=chain_next hc
 intro i d e hd he
 have hi:=(List.getElem?_eq_some_iff.1 hd).1
 by_cases hl:i + 1 < l.length
 · rw [Nat.mod_eq_of_lt hl] at he
   exact h2 i d e hd he
 · have e1:i + 1=l.length:=by omega
   rw [e1,Nat.mod_self] at he
   rw [h1 e he]
   exact h3 d (by rw [show l.length - 1=i from by omega]; exact hd)
theorem sumC_take {l:List Dif} {K:Int} (hK:0≤K) (h:∀ d ∈ l,-K≤d.2.2∧d.2.2≤K) (k:Nat):-(k * K)≤sumC (l.take k)∧sumC (l.take k)≤k * K:=by
 induction k with
 | zero => simp [sumC]
 | succ k ih =>
   cases hd:l[k]? with
   | none =>
     have:l.take (k + 1)=l.take k:=by rw [List.take_add_one,hd]; simp
     rw [this]
     have:((k + 1:Nat):Int) * K=k * K + K:=by rw [Int.natCast_add,Int.add_mul]; simp
     omega
   | some d =>
     have:=h d (List.mem_of_getElem? hd)
     have e:sumC (l.take (k + 1))=sumC (l.take k) + d.2.2:=by
       rw [List.take_add_one,hd]
       unfold sumC
       simp
     rw [e]
     have:((k + 1:Nat):Int) * K=k * K + K:=by rw [Int.natCast_add,Int.add_mul]; simp
     omega
end Go.Sv
namespace Go.Proofs.Ythfnjogadngfiaa
open Go.Sl Go.Sv
def upto (n:Nat):List Int:=(List.range n).map fun (i:Nat) => (i:Int)
theorem upto_len {n:Nat}:(upto n).length=n:=by simp [upto]
theorem upto_get {n i:Nat} (h:i < n):(upto n)[i]?=some (i:Int):=by simp [upto,h]
theorem upto_succ (n:Nat):upto (n + 1)=upto n ++ [(n:Int)]:=by unfold upto; rw [List.range_succ,List.map_append]; rfl
theorem c87 {σ:PH} {la:Option Addr} {ln lc:Nat} {l:List Dif} (hA:Atoms σ la ln l) {a:Option Addr} {n c:Nat} (hI:Ints σ a n (upto n)) (hn:l.length=n) (hl:n≤1000000) (hK:∀ d ∈ l,-1048577≤d.2.2∧d.2.2≤1048577) (hr:ring l) {Q:Value→PH→Prop} (hQ:Q (.bool true) σ) :
   C 87 #[.slice la ln lc,.slice a n c] Q σ:=by
 refine go (E87_0 _ _ _ _ _ _ _ _ _) ?_
 unfold S87_0 S87_1
 have hln:=hA.1
 have hne:=ring_ne hr
 have hn0:0 < n:=by
   cases l with
   | nil => exact absurd rfl hne
   | cons x t => simp at hn; omega
 refine iloopS_for (G:=Unit) (fun k _ => (la,ln,lc,a,n,c,sumC (l.take k),a,n,c,(n:Int),(k:Int))) (fun k _ υ => σ=υ) n ?_ (g:=()) rfl
 rintro k _ _ hk rfl R hR
 unfold S87_2
 dsimp only
 refine br_dec.2 ⟨fun hlt => ?_,fun hge => ?_⟩
 · have hkn:k < n:=by omega
   obtain ⟨d,hd⟩:∃ d,l[k]?=some d:=⟨_,List.getElem?_eq_getElem (by omega)⟩
   have hnx:(k + 1) % n < n:=Nat.mod_lt _ hn0
   obtain ⟨e,he⟩:∃ e,l[(k + 1) % n]?=some e:=⟨_,List.getElem?_eq_getElem (by omega)⟩
   obtain ⟨p,hp,hc⟩:=hI.2.at (i:=k) (v:=.int .i64 (k:Int)) (by simp [upto_get hkn])
   obtain ⟨p',hp',hc'⟩:=hI.2.at (i:=(k + 1) % n) (v:=.int .i64 (((k + 1) % n:Nat):Int)) (by simp [upto_get hnx])
   rw [hp] at hp'; cases hp'
   obtain ⟨q,hq,d0,d1,d2⟩:=hA.2 k d hd
   obtain ⟨q',hq',e0,e1,e2⟩:=hA.2 _ e he
   rw [hq] at hq'; cases hq'
   have wk:IntKind.wrap .i64 ((k:Int) + 1)=((k + 1:Nat):Int):=by rw [w64 (by omega) (by omega)]; omega
   have tm:Int.tmod ((k + 1:Nat):Int) (n:Int)=(((k + 1) % n:Nat):Int):=by
     rw [Int.tmod_eq_emod_of_nonneg (by omega)]
     exact (Int.natCast_emod _ _).symm
   have hde:d.2.1=e.1:=ring_next hr k d e hd (by rw [hn]; exact he)
   have hdK:=hK d (List.mem_of_getElem? hd)
   have hsum:=sumC_take (l:=l) (K:=1048577) (by omega) hK k
   have hst:sumC (l.take (k + 1))=sumC (l.take k) + d.2.2:=by
     rw [List.take_add_one,hd]; unfold sumC; simp
   have wsum:IntKind.wrap .i64 (sumC (l.take k) + d.2.2)=sumC (l.take (k + 1)):=by rw [hst,w64 (by omega) (by omega)]
   refine ⟨p,hp,by omega,by omega,_,by rw [Int.toNat_natCast,Nat.mul_one]; exact hc,_,rfl,br_dec.2 ⟨fun h => by omega,fun _ => br_dec.2 ⟨fun h => by omega,fun _ => ?_⟩⟩⟩
   rw [wk,tm]
   refine ⟨by omega,rfl,p,hp,by omega,by omega,_,by rw [Int.toNat_natCast,Nat.mul_one]; exact hc',_,rfl,br_dec.2 ⟨fun h => by omega,fun _ => br_dec.2 ⟨fun h => by omega,fun _ => ?_⟩⟩⟩
   simp only [Int.toNat_natCast]
   refine ⟨q,hq,by omega,by omega,_,d1,_,rfl,q,hq,by omega,by omega,_,e0,_,rfl,br_iff.2 ⟨fun h => ?_,fun _ => ⟨q,hq,by omega,by omega,_,d2,_,rfl,?_⟩⟩⟩
   · have h:d.2.1 ≠ e.1:=by simpa using h
     exact absurd hde h
   · rw [wsum]
     exact hR () _ hkn rfl
 · have hkn:k=n:=by omega
   subst hkn
   refine br_dec.2 ⟨fun _ => ?_,fun h => absurd (by omega) h⟩
   have:sumC (l.take k) < 0:=by
     rw [List.take_of_length_le (by omega)]
     obtain ⟨_,_,h⟩:=hr
     exact h
   rw [decide_eq_true this]
   exact hQ
structure Tri (σ υ:PH) (sl:Sli) (l:List Dif) (sc:Sli) (js:List Int) (sn:Sli) (ns:List Int):Prop where
 col:Col σ υ sl l sc js
 on:Own υ 3 1 sn.a sn.n sn.c (ints ns)
 nn:∀ p,sn.a=some p→σ p.block=none
 d1:∀ p q,sl.a=some p→sn.a=some q→p.block ≠ q.block
 d2:∀ p q,sc.a=some p→sn.a=some q→p.block ≠ q.block
theorem Tri.grow {σ υ τ:PH} {sl:Sli} {l:List Dif} {sc:Sli} {js:List Int} {sn:Sli} {ns:List Int} (h:Tri σ υ sl l sc js sn ns) (hs:υ.sub τ):Tri σ τ sl l sc js sn ns :=
 ⟨h.col.grow hs,h.on.keep (M:=fun _ => False) hs.step fun _ _ h => h,h.nn,h.d1,h.d2⟩
open Classical in
theorem Tri.push {σ υ:PH} {sl:Sli} {l:List Dif} {sc:Sli} {js:List Int} {sn:Sli} {ns:List Int} (h:Tri σ υ sl l sc js sn ns) (d:Dif) (j x:Int) (hn1:l.length≤1000000) (hn2:js.length≤1000000) (hn3:ns.length≤1000000) {b:Nat} (hb:υ b=none) {R:Sli→Sli→Sli→PH→Prop}
   (hR:∀ sl' sc' sn' τ,Tri σ τ sl' (l ++ [d]) sc' (js ++ [j]) sn' (ns ++ [x])→R sl' sc' sn' τ) :
   iappend prog 50 (.slice sl.a sl.n sl.c) (.slice (some ⟨b,0,none⟩) 1 1) (fun v τ => ∃ (a:Option Addr) (n c:Nat),v=(.slice a n c)∧∀ b2:Nat,τ b2=none→iappend prog 3 (.slice sc.a sc.n sc.c) (.slice (some ⟨b2,0,none⟩) 1 1) (fun v τ => ∃ (a':Option Addr) (n' c':Nat),v=(.slice a' n' c') ∧
     ∀ b3:Nat,τ b3=none→iappend prog 3 (.slice sn.a sn.n sn.c) (.slice (some ⟨b3,0,none⟩) 1 1) (fun v τ => ∃ (a3:Option Addr) (n3 c3:Nat),v=(.slice a3 n3 c3)∧R ⟨a,n,c⟩ ⟨a',n',c'⟩ ⟨a3,n3,c3⟩ τ) (PH.set τ b3 (.cells #[(.int .i64 x)] 3))) (PH.set τ b2 (.cells #[(.int .i64 j)] 3))) (PH.set υ b (.cells #[.int .i64 d.1,.int .i64 d.2.1,.int .i64 d.2.2] 50)):=by
 obtain ⟨σ',hσ'⟩:∃ σ':PH,σ'=fun b => if ∃ q,sn.a=some q∧b=q.block then υ b else σ b:=⟨_,rfl⟩
 have in':∀ q,sn.a=some q→σ' q.block=υ q.block:=fun q hq => by rw [hσ']; exact if_pos ⟨q,hq,rfl⟩
 have out':∀ b,(∀ q,sn.a=some q→b ≠ q.block)→σ' b=σ b:=fun b hb => by rw [hσ']; exact if_neg (by rintro ⟨q,h1,h2⟩; exact hb q h1 h2)
 have sub0:σ.sub σ':=by
   intro b o hbo
   rw [out' b (by rintro q hq rfl; rw [h.nn q hq] at hbo; cases hbo)]
   exact hbo
 have sub1:σ'.sub υ:=by
   intro b o hbo
   by_cases hq:∃ q,sn.a=some q∧b=q.block
   · obtain ⟨q,h1,rfl⟩:=hq
     rw [in' q h1] at hbo; exact hbo
   · rw [out' b (fun q h1 h2 => hq ⟨q,h1,h2⟩)] at hbo
     exact h.col.sub b o hbo
 have col':Col σ' υ sl l sc js:=⟨sub1,h.col.ol,h.col.oi,fun p hp => by rw [out' _ (fun q hq => h.d1 p q hp hq)]; exact h.col.nl p hp,fun p hp => by rw [out' _ (fun q hq => h.d2 p q hp hq)]; exact h.col.ni p hp,h.col.ne⟩
 refine col'.push d j hn1 hn2 hb (R:=fun sl' sc' τ => ∀ b3:Nat,τ b3=none→iappend prog 3 (.slice sn.a sn.n sn.c) (.slice (some ⟨b3,0,none⟩) 1 1) (fun v τ => ∃ (a3:Option Addr) (n3 c3:Nat),v=(.slice a3 n3 c3)∧R sl' sc' ⟨a3,n3,c3⟩ τ) (PH.set τ b3 (.cells #[(.int .i64 x)] 3))) fun sl' sc' τ hC b3 hb3 => ?_
 have on':Own τ 3 1 sn.a sn.n sn.c (ints ns):=by
   refine ⟨h.on.len,h.on.le,?_⟩
   rcases h.on.row with h1 | ⟨b0,arr,h1,h2,h3⟩
   · exact .inl h1
   · exact .inr ⟨b0,arr,h1,hC.sub _ _ (by rw [in' _ h1]; exact h2),h3⟩
 have hnl:∀ p q,sl'.a=some p→sn.a=some q→p.block ≠ q.block:=by
   intro p q hp hq e
   have:=hC.nl p hp
   rw [e,in' q hq] at this
   exact h.on.known hq this
 have hnc:∀ p q,sc'.a=some p→sn.a=some q→p.block ≠ q.block:=by
   intro p q hp hq e
   have:=hC.ni p hp
   rw [e,in' q hq] at this
   exact h.on.known hq this
 have old:∀ {b:Nat},σ' b=none→σ b=none:=fun hb => new_of sub0 hb
 have l3:=own_len h.on
 refine pushRow t3.1 t3.2.1 t3.2.2 rfl (by decide) on' hb3 (news:=[.int .i64 x]) rfl ?_ (by omega) ?_
 · intro v hv; simp at hv; subst hv; trivial
 · intro a3 c3 τ3 hO3 hst hnew3
   have sστ:σ.sub τ:=sub0.trans hC.sub
   refine ⟨_,_,_,rfl,hR _ _ ⟨a3,sn.n + 1,c3⟩ _ ⟨⟨sub_step_new sστ hst (by rintro q ⟨p,h1,rfl⟩; exact h.nn p h1),hC.ol.keep hst (by rintro p hp ⟨q,h1,h2⟩; exact hnl p q hp h1 h2),hC.oi.keep hst (by rintro p hp ⟨q,h1,h2⟩; exact hnc p q hp h1 h2),fun p hp => old (hC.nl p hp),fun p hp => old (hC.ni p hp),hC.ne⟩,by simpa [ints] using hO3,fun p hp => ?_,fun p q hp hq => ?_,fun p q hp hq => ?_⟩⟩
   · rcases hnew3 p hp with ⟨p',h1,h2⟩ | h1
     · rw [h2]; exact h.nn p' h1
     · exact new_of sστ h1
   · rcases hnew3 q hq with ⟨q',h1,h2⟩ | h1
     · rw [h2]; exact hnl p q' hp h1
     · exact fun e => hC.ol.known hp (e ▸ h1)
   · rcases hnew3 q hq with ⟨q',h1,h2⟩ | h1
     · rw [h2]; exact hnc p q' hp h1
     · exact fun e => hC.oi.known hp (e ▸ h1)
theorem bounds_get {F:Fm}:∀ {lits:List Int} {l:List Dif},bounds F lits=some l→∀ (i:Nat) x,lits[i]?=some x→∃ d,bound F x=some d∧l[i]?=some d
 | [],l,h,i,x,hx => by simp at hx
 | y :: t,l,h,i,x,hx => by
   unfold bounds at h
   split at h
   · cases h
   · rename_i d hd
     split at h
     · cases h
     · rename_i l' hl'
       cases h
       cases i with
       | zero => simp at hx; subst hx; exact ⟨d,hd,rfl⟩
       | succ i => exact bounds_get hl' i x (by simpa using hx)
theorem bound_C {F:Fm} (hC:∀ d ∈ F.atoms,-1048576≤d.2.2∧d.2.2≤1048576) {x:Int} {d:Dif} (h:bound F x=some d):-1048577≤d.2.2∧d.2.2≤1048577:=by
 unfold bound at h
 split at h
 · cases h
 · split at h
   · cases h
   · rename_i a b c hat
     have:=hC _ (List.mem_of_getElem? hat)
     dsimp only at this
     split at h <;> cases h <;> dsimp only <;> omega
theorem c65 {σ:PH} {i1 i2:Int} {aa:Option Addr} {an ac:Nat} {ca:Option Addr} {cn cc:Nat} {F:Fm} (hA:Atoms σ aa an F.atoms) (hC:∀ d ∈ F.atoms,-1048576≤d.2.2∧d.2.2≤1048576) (han:an≤1000000) {a:Option Addr} {n c:Nat} {lits:List Int} (hI:Ints σ a n lits) (hL:∀ x ∈ lits,Lit x) {out:List Int} (hcy:cyclic F lits=some out) {Q:Value→PH→Prop}
   (hQ:∀ τ (sl:Sli),σ.sub τ→Own τ 3 1 sl.a sl.n sl.c (ints out)→(∀ p,sl.a=some p→σ p.block=none)→Q (.tuple #[sl.v,.bool true]) τ) :
   C 65 #[.agg #[.int .i64 i1,.int .i64 i2,.slice aa an ac,.slice ca cn cc],.slice a n c] Q σ:=by
 refine go (E65_0 _ _ _ _ _ _ _ _ _ _ _ _ _ _) ?_
 unfold S65_0
 have e0:∀ b:Nat,(Addr.mk b 0 none).add 0=⟨b,0,none⟩:=fun b => rfl
 have hln:=hI.1
 unfold cyclic at hcy
 split at hcy
 · cases hcy
 rename_i l hb
 have hrl:ring l∧lits.length≤1000:=by
   apply Classical.byContradiction
   intro h
   rw [if_neg h] at hcy; cases hcy
 rw [if_pos hrl] at hcy
 obtain ⟨hring,hlen⟩:=hrl
 have hll:=bounds_len hb
 intro b12 h12
 have s12:=PH.sub_set (o:=.cells #[.int .i64 i1,.int .i64 i2,.slice aa an ac,.slice ca cn cc] 29) h12
 have B12:Blk (σ.set b12 (.cells #[.int .i64 i1,.int .i64 i2,.slice aa an ac,.slice ca cn cc] 29)) b12 29 [.int .i64 i1,.int .i64 i2,.slice aa an ac,.slice ca cn cc]:=set_self
 generalize σ.set b12 (.cells #[.int .i64 i1,.int .i64 i2,.slice aa an ac,.slice ca cn cc] 29)=ω at *
 unfold S65_1
 refine iloopS_for (G:=Sli × Sli × Sli) (fun k g => (ptr b12,g.1.a,g.1.n,g.1.c,g.2.1.a,g.2.1.n,g.2.1.c,g.2.2.a,g.2.2.n,g.2.2.c,a,n,c,(n:Int),(k:Int)))
   (fun k g υ => Tri ω υ g.1 (l.take k) g.2.1 (upto k) g.2.2 ((lits.take k).map (- ·))) n ?_ (g:=(⟨none,0,0⟩,⟨none,0,0⟩,⟨none,0,0⟩))
   ⟨⟨.refl _,own_nil,own_nil,(fun _ h => by cases h),(fun _ h => by cases h),fun _ _ h => by cases h⟩,own_nil,(fun _ h => by cases h),(fun _ _ h => by cases h),fun _ _ h => by cases h⟩
 rintro k ⟨sl,sc,sn⟩ υ hk Tr R hR
 unfold S65_2
 dsimp only at Tr hR ⊢
 have hs:=Tr.col.sub
 have hσ:=s12.trans hs
 refine br_dec.2 ⟨fun hlt => ?_,fun hge => ?_⟩
 · have hkn:k < n:=by omega
   obtain ⟨x,hx⟩:∃ x,lits[k]?=some x:=⟨_,List.getElem?_eq_getElem (by omega)⟩
   obtain ⟨d,hbd,hd⟩:=bounds_get hb k x hx
   have hxL:=hL x (List.mem_of_getElem? hx)
   obtain ⟨p,hp,hc⟩:=(hI.sub hσ).2.at (i:=k) (v:=.int .i64 x) (by simp [hx])
   have wk:IntKind.wrap .i64 ((k:Int) + 1)=((k + 1:Nat):Int):=by rw [w64 (by omega) (by omega)]; omega
   have wx:IntKind.wrap .i64 (0 - x)=-x:=by unfold Lit at hxL; rw [w64 (by omega) (by omega)]; omega
   have Bu:Blk υ b12 29 _:=hs _ _ B12
   have g0:=Bu.get (i:=0) rfl
   rw [e0] at g0
   refine ⟨p,hp,by omega,by omega,_,by rw [Int.toNat_natCast,Nat.mul_one]; exact hc,x,rfl,_,g0,_,Bu.get (i:=1) rfl,_,Bu.get (i:=2) rfl,_,Bu.get (i:=3) rfl,_,_,_,_,_,_,_,_,rfl,?_⟩
   refine c33 (hA.sub hσ) hC han hxL fun τ hsτ => ⟨τ,.refl _,?_⟩
   rw [hbd]
   refine ⟨d.1,d.2.1,d.2.2,true,rfl,fun b65 h65 => ?_⟩
   simp only [newSet,newSet0,newCell,newCell0,newFroz,newFroz0,List.setIfInBounds_toArray,List.set_cons_zero,List.set_cons_succ,List.getElem?_toArray,List.getElem?_cons_zero,List.getElem?_cons_succ,Option.some.injEq,exists_eq',true_and,Value.int.injEq,exists_eq_left']
   refine br_iff.2 ⟨fun h => (by cases h),fun _ => ⟨_,_,_,rfl,fun b75 h75 => ?_⟩⟩
   have T2:=(Tr.grow hsτ).grow (PH.sub_set (o:=.cells #[.int .i64 d.1,.int .i64 d.2.1,.int .i64 d.2.2] 50) h65)
   have:=T2.push d (k:Int) (-x) (by rw [List.length_take]; omega) (by rw [upto_len]; omega) (by rw [List.length_map,List.length_take]; omega) h75 (R:=fun sl' sc' sn' τ => R (ptr b12,sl'.a,sl'.n,sl'.c,sc'.a,sc'.n,sc'.c,sn'.a,sn'.n,sn'.c,a,n,c,(n:Int),IntKind.wrap .i64 ((k:Int) + 1)) τ) fun sl' sc' sn' τ' hT => by
     rw [wk]
     refine hR (sl',sc',sn') _ hkn ?_
     show Tri ω τ' sl' (l.take (k + 1)) sc' (upto (k + 1)) sn' ((lits.take (k + 1)).map (- ·))
     rw [List.take_add_one,hd,upto_succ,List.take_add_one,hx,List.map_append]
     exact hT
   rw [wx]
   exact this
 · have hkn:k=n:=by omega
   subst hkn
   have hlt:l.take k=l:=List.take_of_length_le (by omega)
   have hlt2:lits.take k=lits:=List.take_of_length_le (by omega)
   rw [hlt,hlt2] at Tr
   have hK:∀ d ∈ l,-1048577≤d.2.2∧d.2.2≤1048577:=by
     intro d hd
     obtain ⟨y,_,hy⟩:=bounds_mem hb d hd
     exact bound_C hC hy
   have hon:=own_len Tr.col.oi
   rw [upto_len] at hon
   have hIu:=own_ints Tr.col.oi
   have hAt:=own_atoms Tr.col.ol
   rw [hon] at hIu
   rw [hon]
   refine c87 hAt hIu (by omega) (by omega) hK hring ⟨υ,.refl _,true,rfl,br_iff.2 ⟨fun h => (by cases h),fun _ => ?_⟩⟩
   refine c62 (own_ints Tr.on) (fun y hy => ?_) (by rw [List.length_map]; omega) (fun τ sl' out' hs' ho hO hnew => ?_) fun τ _ hno => ?_
   · obtain ⟨z,hz,rfl⟩:=List.mem_map.1 hy
     have:=hL z hz
     unfold Lit at this ⊢
     omega
   · rw [hcy] at ho; cases ho
     exact ⟨τ,.refl _,_,_,_,_,rfl,hQ τ sl' (hσ.trans hs') hO fun p hp => new_of hσ (hnew p hp)⟩
   · rw [hcy] at hno; cases hno
theorem growNew {σ υ:PH} {sl:Sli} {o:List Int} (hs:σ.sub υ) (hO:Own υ 3 1 sl.a sl.n sl.c (ints o)) (hnew:∀ p,sl.a=some p→σ p.block=none) (x:Int) (hn:o.length≤1000000) {b:Nat} (hb:υ b=none) {R:Option Addr→Nat→Nat→PH→Prop}
   (hR:∀ (sl':Sli) τ,σ.sub τ→Own τ 3 1 sl'.a sl'.n sl'.c (ints (o ++ [x]))→(∀ p,sl'.a=some p→σ p.block=none)→R sl'.a sl'.n sl'.c τ) :
   iappend prog 3 (.slice sl.a sl.n sl.c) (.slice (some ⟨b,0,none⟩) 1 1) (fun v τ => ∃ (a:Option Addr) (n c:Nat),v=(.slice a n c)∧R a n c τ) (PH.set υ b (.cells #[(.int .i64 x)] 3)):=by
 have hon:=own_len hO
 refine pushRow t3.1 t3.2.1 t3.2.2 rfl (by decide) hO hb (news:=[.int .i64 x]) rfl ?_ (by omega) ?_
 · intro v hv; simp at hv; subst hv; trivial
 · intro a c τ hO' hst hnew'
   refine ⟨_,_,_,rfl,hR ⟨a,sl.n + 1,c⟩ τ (sub_step_new hs hst (by rintro q ⟨p,h1,rfl⟩; exact hnew p h1)) (by simpa [ints] using hO') fun p hp => ?_⟩
   rcases hnew' p hp with ⟨p',h1,h2⟩ | h1
   · rw [h2]; exact hnew p' h1
   · exact new_of hs h1
theorem c48 {σ:PH} {a1 a2:Option Addr} {n1 c1 n2 c2:Nat} {p q:List Int} (h1:Ints σ a1 n1 p) (h2:Ints σ a2 n2 q) (hp:∀ x ∈ p,Lit x) (hq:∀ x ∈ q,Lit x) (hl1:p.length≤100000) (hl2:q.length≤100000) {v:Int} {out:List Int} (hr:resolvent p q v=some out) {Q:Value→PH→Prop}
   (hQ:∀ τ (sl:Sli),σ.sub τ→Own τ 3 1 sl.a sl.n sl.c (ints out)→(∀ p,sl.a=some p→σ p.block=none)→Q (.tuple #[sl.v,.bool true]) τ) :
   C 48 #[.slice a1 n1 c1,.slice a2 n2 c2,.int .i64 v] Q σ:=by
 refine go (E48_0 _ _ _ _ _ _ _ _ _ _) ?_
 unfold S48_0
 have hln1:=h1.1
 have hln2:=h2.1
 unfold resolvent at hr
 have hc:0≤v∧v < 1024∧v + 1 ∈ p∧-(v + 1) ∈ q:=by
   apply Classical.byContradiction
   intro h
   rw [if_neg h] at hr; cases hr
 rw [if_pos hc] at hr
 obtain ⟨v0,v1,hm1,hm2⟩:=hc
 have wv:IntKind.wrap .i64 (v + 1)=v + 1:=w64 (by omega) (by omega)
 have wn:IntKind.wrap .i64 (0 - (v + 1))=-(v + 1):=by rw [w64 (by omega) (by omega)]; omega
 refine br_dec.2 ⟨fun h => by omega,fun _ => br_dec.2 ⟨fun h => by omega,fun _ => ?_⟩⟩
 rw [wv,wn]
 refine (c66 (by unfold Len; omega) h1).mono hb ?_
 rintro _ τ ⟨rfl,eτ⟩
 obtain rfl:=eτ.symm
 refine ⟨_,.refl _,_,rfl,br_iff.2 ⟨fun h => ?_,fun _ => ?_⟩⟩
 · simp [hm1] at h
 refine (c66 (by unfold Len; omega) h2).mono hb ?_
 rintro _ τ ⟨rfl,eτ⟩
 obtain rfl:=eτ.symm
 refine ⟨_,.refl _,_,rfl,br_iff.2 ⟨fun h => ?_,fun _ => ?_⟩⟩
 · simp [hm2] at h
 unfold S48_1
 refine iloopS_for (G:=Sli) (fun k sl => (a2,n2,c2,v,sl.a,sl.n,sl.c,a1,n1,c1,(n1:Int),(k:Int))) (fun k sl υ => σ.sub υ∧Own υ 3 1 sl.a sl.n sl.c (ints ((p.take k).filter (· != v + 1)))∧∀ q,sl.a=some q→σ q.block=none) n1 ?_ (g:=⟨none,0,0⟩) ⟨.refl _,own_nil,fun q hq => by cases hq⟩
 rintro k sl υ hk ⟨hs,hO,hnew⟩ R hR
 unfold S48_2
 dsimp only at hO hnew ⊢
 have hfl:((p.take k).filter (· != v + 1)).length≤k:=Nat.le_trans (List.length_filter_le _ _) (by rw [List.length_take]; omega)
 refine br_dec.2 ⟨fun hlt => ?_,fun hge => ?_⟩
 · have hkn:k < n1:=by omega
   obtain ⟨x,hx⟩:∃ x,p[k]?=some x:=⟨_,List.getElem?_eq_getElem (by omega)⟩
   obtain ⟨pa,hpa,hcx⟩:=(h1.sub hs).2.at (i:=k) (v:=.int .i64 x) (by simp [hx])
   have wk:IntKind.wrap .i64 ((k:Int) + 1)=((k + 1:Nat):Int):=by rw [w64 (by omega) (by omega)]; omega
   have htk:(p.take (k + 1)).filter (· != v + 1)=(p.take k).filter (· != v + 1) ++ (if x=v + 1 then [] else [x]):=by
     rw [List.take_add_one,hx,List.filter_append]
     by_cases e:x=v + 1
     · simp [e]
     · simp [e]
   rw [wv]
   refine ⟨pa,hpa,by omega,by omega,_,by rw [Int.toNat_natCast,Nat.mul_one]; exact hcx,x,rfl,br_iff.2 ⟨fun hne b hbn => ?_,fun he => ?_⟩⟩
   · have hne:x ≠ v + 1:=by simpa using hne
     rw [if_neg hne] at htk
     rw [wk]
     exact growNew hs hO hnew x (by omega) hbn (R:=fun a n c τ => R (a2,n2,c2,v,a,n,c,a1,n1,c1,(n1:Int),((k + 1:Nat):Int)) τ) fun sl' τ h3 h4 h5 => hR sl' τ hkn ⟨h3,by rw [htk]; exact h4,h5⟩
   · have he:x=v + 1:=by simpa using he
     rw [if_pos he,List.append_nil] at htk
     rw [wk]
     exact hR sl υ hkn ⟨hs,by rw [htk]; exact hO,hnew⟩
 · have hkn:k=n1:=by omega
   subst hkn
   rw [List.take_of_length_le (by omega)] at hO hfl
   unfold S48_3
   refine iloopS_for (G:=Sli) (fun k2 sl => (v,sl.a,sl.n,sl.c,a2,n2,c2,(n2:Int),(k2:Int))) (fun k2 sl υ => σ.sub υ∧Own υ 3 1 sl.a sl.n sl.c (ints (p.filter (· != v + 1) ++ (q.take k2).filter (· != -(v + 1))))∧∀ q,sl.a=some q→σ q.block=none) n2 ?_ (g:=sl) ⟨hs,by simpa using hO,hnew⟩
   clear hs hO hnew hR R υ sl
   rintro k2 sl υ hk2 ⟨hs,hO,hnew⟩ R hR
   unfold S48_4
   dsimp only at hO hnew ⊢
   have hfl2:((q.take k2).filter (· != -(v + 1))).length≤k2:=Nat.le_trans (List.length_filter_le _ _) (by rw [List.length_take]; omega)
   refine br_dec.2 ⟨fun hlt => ?_,fun hge => ?_⟩
   · have hkn:k2 < n2:=by omega
     obtain ⟨x,hx⟩:∃ x,q[k2]?=some x:=⟨_,List.getElem?_eq_getElem (by omega)⟩
     obtain ⟨pa,hpa,hcx⟩:=(h2.sub hs).2.at (i:=k2) (v:=.int .i64 x) (by simp [hx])
     have wk:IntKind.wrap .i64 ((k2:Int) + 1)=((k2 + 1:Nat):Int):=by rw [w64 (by omega) (by omega)]; omega
     have htk:p.filter (· != v + 1) ++ (q.take (k2 + 1)).filter (· != -(v + 1))=(p.filter (· != v + 1) ++ (q.take k2).filter (· != -(v + 1))) ++ (if x=-(v + 1) then [] else [x]):=by
       rw [List.take_add_one,hx,List.filter_append]
       by_cases e:x=-(v + 1)
       · simp [e]
       · simp [e]
     rw [wv,wn]
     refine ⟨pa,hpa,by omega,by omega,_,by rw [Int.toNat_natCast,Nat.mul_one]; exact hcx,x,rfl,br_iff.2 ⟨fun hne b hbn => ?_,fun he => ?_⟩⟩
     · have hne:x ≠ -(v + 1):=by simpa using hne
       rw [if_neg hne] at htk
       rw [wk]
       exact growNew hs hO hnew x (by rw [List.length_append]; omega) hbn (R:=fun a n c τ => R (v,a,n,c,a2,n2,c2,(n2:Int),((k2 + 1:Nat):Int)) τ) fun sl' τ h3 h4 h5 => hR sl' τ hkn ⟨h3,by rw [htk]; exact h4,h5⟩
     · have he:x=-(v + 1):=by simpa using he
       rw [if_pos he,List.append_nil] at htk
       rw [wk]
       exact hR sl υ hkn ⟨hs,by rw [htk]; exact hO,hnew⟩
   · have hkn:k2=n2:=by omega
     subst hkn
     rw [List.take_of_length_le (by omega)] at hO hfl2
     refine c62 (own_ints hO) (fun y hy => ?_) (by rw [List.length_append]; omega) (fun τ sl' out' hs' ho hO' hnew' => ?_) fun τ _ hno => ?_
     · rcases List.mem_append.1 hy with hy | hy
       · exact hp y (List.mem_filter.1 hy).1
       · exact hq y (List.mem_filter.1 hy).1
     · rw [hr] at ho; cases ho
       exact ⟨τ,.refl _,_,_,_,_,rfl,hQ τ sl' (hs.trans hs') hO' fun p hp => new_of hs (hnew' p hp)⟩
     · rw [hr] at hno; cases hno
end Go.Proofs.Ythfnjogadngfiaa
namespace Go.Sv
theorem stepsFrom_pre {F:Fm}:∀ {l:List PStep} {acc cs:List (List Int)},stepsFrom F acc l=some cs→cs.take acc.length=acc∧cs.length=acc.length + l.length∧∀ (i:Nat) s,l[i]?=some s→∃ c,cs[acc.length + i]?=some c∧stepClause F (cs.take (acc.length + i)) s=some c
 | [],acc,cs,h => by
   simp only [stepsFrom,Option.some.injEq] at h
   subst h
   simp
 | s :: l,acc,cs,h => by
   unfold stepsFrom at h
   split at h
   · cases h
   · rename_i c hc
     obtain ⟨h1,h2,h3⟩:=stepsFrom_pre h
     have e1:(acc ++ [c]).length=acc.length + 1:=by simp
     rw [e1] at h1 h2 h3
     have ht:cs.take acc.length=acc:=by
       have:=congrArg (List.take acc.length) h1
       rw [List.take_take] at this
       simpa using this
     refine ⟨ht,by simp; omega,fun i t hi => ?_⟩
     cases i with
     | zero =>
       simp at hi; subst hi
       refine ⟨c,?_,by rw [Nat.add_zero,ht]; exact hc⟩
       have:(cs.take (acc.length + 1))[acc.length]?=some c:=by rw [h1]; simp
       rw [List.getElem?_take] at this
       simpa using this
     | succ i =>
       obtain ⟨d,q1,q2⟩:=h3 i t (by simpa using hi)
       refine ⟨d,by rw [show acc.length + (i + 1)=acc.length + 1 + i from by omega]; exact q1,by rw [show acc.length + (i + 1)=acc.length + 1 + i from by omega]; exact q2⟩
theorem stepsOf_pre {F:Fm} {l:List PStep} {cs:List (List Int)} (h:stepsOf F l=some cs):cs.length=l.length∧∀ (i:Nat) s,l[i]?=some s→∃ c,cs[i]?=some c∧stepClause F (cs.take i) s=some c:=by
 obtain ⟨_,h2,h3⟩:=stepsFrom_pre h
 refine ⟨by simpa using h2,fun i s hs => ?_⟩
 obtain ⟨c,q1,q2⟩:=h3 i s hs
 exact ⟨c,by simpa using q1,by simpa using q2⟩
theorem bound_litN {F:Fm} (hF:FOk F) {x:Int} {d:Dif} (h:bound F x=some d):LitN F.bools x:=by
 unfold bound at h
 split at h
 · cases h
 · rename_i h0
   split at h
   · cases h
   · rename_i a b c hat
     have:=(List.getElem?_eq_some_iff.1 hat).1
     have:=hF.atoms
     refine ⟨h0,?_⟩
     unfold vr at *
     omega
theorem bounds_litN {F:Fm} (hF:FOk F):∀ {lits:List Int} {l:List Dif},bounds F lits=some l→∀ x ∈ lits,LitN F.bools x
 | [],_,_,x,hx => by simp at hx
 | y :: t,l,h,x,hx => by
   unfold bounds at h
   split at h
   · cases h
   · rename_i d hd
     split at h
     · cases h
     · rename_i l' hl'
       rcases List.mem_cons.1 hx with rfl | hx
       · exact bound_litN hF hd
       · exact bounds_litN hF hl' x hx
theorem cyclic_litN {F:Fm} (hF:FOk F) {lits out:List Int} (h:cyclic F lits=some out):(∀ x ∈ lits,LitN F.bools x)∧norm (lits.map (- ·))=some out:=by
 unfold cyclic at h
 split at h
 · cases h
 · rename_i l hb
   split at h
   · exact ⟨bounds_litN hF hb,h⟩
   · cases h
theorem resolvent_some {p q out:List Int} {v:Int} (h:resolvent p q v=some out):norm (p.filter (· != v + 1) ++ q.filter (· != -(v + 1)))=some out:=by
 unfold resolvent at h
 split at h
 · exact h
 · cases h
theorem steps_lit {F:Fm} (hF:FOk F) {l:List PStep} {cs:List (List Int)} (h:stepsOf F l=some cs):∀ (i:Nat) c,cs[i]?=some c→SortedA c∧∀ x ∈ c,LitN F.bools x:=by
 obtain ⟨hlen,hat⟩:=stepsOf_pre h
 intro i
 induction i using Nat.strongRecOn with
 | ind i ih =>
   intro c hc
   have hi:=(List.getElem?_eq_some_iff.1 hc).1
   obtain ⟨s,hs⟩:∃ s,l[i]?=some s:=⟨_,List.getElem?_eq_getElem (by omega)⟩
   obtain ⟨c',q1,q2⟩:=hat i s hs
   rw [hc] at q1; cases q1
   have fin:∀ {d:List Int},norm d=some c→(∀ x ∈ d,LitN F.bools x)→SortedA c∧∀ x ∈ c,LitN F.bools x:=fun hd hl => by
     obtain ⟨h1,h2,_⟩:=norm_some hd
     exact ⟨h1,fun x hx => hl x ((h2 x).1 hx)⟩
   unfold stepClause at q2
   split at q2
   · split at q2
     · split at q2
       · rename_i d hd
         exact fin q2 (hF.cl d (List.mem_of_getElem? hd))
       · cases q2
     · cases q2
   · split at q2
     · obtain ⟨h1,h2⟩:=cyclic_litN hF q2
       refine fin h2 fun x hx => ?_
       obtain ⟨y,hy,rfl⟩:=List.mem_map.1 hx
       exact (h1 y hy).neg
     · split at q2
       · split at q2
         · split at q2
           · rename_i a b ha hb
             rw [List.getElem?_take] at ha hb
             split at ha
             · rename_i hp
               split at hb
               · rename_i hq
                 refine fin (resolvent_some q2) fun x hx => ?_
                 rcases List.mem_append.1 hx with hx | hx
                 · exact (ih _ hp a ha).2 x (List.mem_filter.1 hx).1
                 · exact (ih _ hq b hb).2 x (List.mem_filter.1 hx).1
               · cases hb
             · cases ha
           · cases q2
         · cases q2
       · cases q2
theorem sorted_len {n:Nat} {c:List Int} (h:SortedA c) (hl:∀ x ∈ c,LitN n x):c.length≤n:=by
 have hd:(c.map vr).Nodup:=by
   rw [List.nodup_iff_pairwise_ne,List.pairwise_map]
   refine List.Pairwise.imp_of_mem ?_ h
   intro a b ha hb hab
   have:=(hl a ha).1
   have:=(hl b hb).1
   unfold vr; omega
 have:=hd.length_le_of_subset (l₂:=List.range n) fun v hv => by
   obtain ⟨x,hx,rfl⟩:=List.mem_map.1 hv
   exact List.mem_range.2 (hl x hx).vr_lt
 simpa using this
end Go.Sv
