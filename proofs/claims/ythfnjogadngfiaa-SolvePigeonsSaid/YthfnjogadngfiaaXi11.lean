/- A part of the proof: see the last text, YthfnjogadngfiaaXi14. -/
import Derived.Test.YthfnjogadngfiaaXi10
set_option maxRecDepth 100000
set_option linter.unusedVariables false
set_option linter.unusedSimpArgs false
namespace Go.Proofs.Ythfnjogadngfiaa
open Go.Sl Go.Sv
theorem Rep.val {σ:PH} {T:Nat→Tag} {s:Nat} {ff:List Value} {st:St} (h:Rep σ T s ff st):∃ a c,σ.cell? ((ptr s).add 8)=some (.slice a st.value.length c)∧∀ i v,st.value[i]?=some v→∃ p,a=some p∧σ.cell? (p.add i)=some (.int .i64 v):=by
 obtain ⟨g,H,hff,A⟩:=h
 refine ⟨(g.F 8).a,(g.F 8).c,by have:=H.field (k:=8) rfl; rw [H.n8 A] at this; exact this,fun i v hv => ?_⟩
 have:=(H.fld 8 3 1 rfl).1.get (i:=i) (v:=.int .i64 v) (by rw [A.value]; simp [ints,hv])
 exact this
structure Loc (o:PH) (la:Option Addr) (ln lc:Nat) (l:List Dif) (ia:Option Addr) (im:Nat) (lits:List Int) (r N:Nat) (bd fs:Nat→Nat→Int):Prop where
 at':Atoms o la ln l
 it:Ints o ia im lits
 ps:Paths (fun _ => none) o r la ln lc N bd fs
theorem Paths.mono {σ τ ω:PH} {r:Nat} {la:Option Addr} {ln lc n:Nat} {bd fs:Nat→Nat→Int} (h:Paths σ τ r la ln lc n bd fs) (hs:τ.sub ω):Paths σ ω r la ln lc n bd fs:=by
 obtain ⟨G,sb,sf,RB,RF,P⟩:=h
 exact ⟨G,sb,sf,RB,RF,P.keep (M:=fun _ => False) hs.step fun _ _ h => h⟩
theorem Loc.mono {o o':PH} {la:Option Addr} {ln lc:Nat} {l:List Dif} {ia:Option Addr} {im:Nat} {lits:List Int} {r N:Nat} {bd fs:Nat→Nat→Int} (h:Loc o la ln lc l ia im lits r N bd fs) (hs:o.sub o'):Loc o' la ln lc l ia im lits r N bd fs :=
 ⟨h.at'.sub hs,h.it.sub hs,h.ps.mono hs⟩
theorem oth_of {σ:PH} {T:Nat→Tag} {b:Nat} (h:T b=.other):oth σ T b=σ b:=if_pos h
theorem own_oth {υ:PH} {T:Nat→Tag} {e:TypeId} {size:Nat} {a:Option Addr} {n c:Nat} {vs:List Value} (o:Own υ e size a n c vs) (h:∀ p,a=some p→T p.block=.other):Own (oth υ T) e size a n c vs:=by
 refine ⟨o.len,o.le,?_⟩
 rcases o.row with h1 | ⟨b,arr,h1,h2,h3⟩
 · exact .inl h1
 · exact .inr ⟨b,arr,h1,(oth_of (h _ h1)).trans h2,h3⟩
theorem Paths.oth {σ υ:PH} {T:Nat→Tag} {r:Nat} {la:Option Addr} {ln lc n:Nat} {bd fs:Nat→Nat→Int} (h:Paths σ υ r la ln lc n bd fs) (hT:∀ b,σ b=none→T b=.other):Paths (fun _ => none) (oth υ T) r la ln lc n bd fs:=by
 obtain ⟨G,sb,sf,RB,RF,P⟩:=h
 have tg:∀ b,G b ≠ .no→T b=.other:=fun b hb => hT b (P.new b hb)
 refine ⟨G,sb,sf,RB,RF,fun _ _ h => (by cases h),?_,own_oth P.ob fun p hp => tg _ (by rw [P.gb p hp]; simp),own_oth P.of fun p hp => tg _ (by rw [P.gf p hp]; simp),fun a ha => ?_,fun a ha => ?_,P.gr,P.gb,P.gf,P.grb,P.grf,fun _ _ => rfl⟩
 · exact (oth_of (tg _ (by rw [P.gr]; simp))).trans P.blk
 · exact (oth_of (tg _ (by rw [P.grb a ha]; simp))).trans (P.rb a ha)
 · exact (oth_of (tg _ (by rw [P.grf a ha]; simp))).trans (P.rf a ha)
def LS (F:Fm) (n s:Nat) (σ:PH) (T:Nat→Tag) (st:St) (ff:List Value) (la:Option Addr) (ln lc:Nat) (l:List Dif) (ia:Option Addr) (im:Nat) (lits:List Int) (r:Nat) (bd fs:Nat→Nat→Int) (υ:PH):Prop :=
 ∃ T1 st1,Rep υ T1 s ff st1∧Did σ T υ T1∧TSeq F n st st1∧Loc (oth υ T1) la ln lc l ia im lits r F.ints bd fs
theorem litN {n:Nat} {x:Int} (h:LitN n x) (hn:n≤1024):Lit x:=by unfold Lit; unfold LitN at h; omega
theorem add81 {F:Fm} {n s:Nat} {σ:PH} {T:Nat→Tag} {st:St} {ff:List Value} (hF:FOk F) (hn:n=F.bools) (hI:Inv F n st)
   {la:Option Addr} {ln lc:Nat} {l:List Dif} {ia:Option Addr} {im ic:Nat} {lits:List Int} {r:Nat} {bd fs:Nat→Nat→Int}
   (hbs:bounds F lits=some l) (hsub:∀ x ∈ lits,x ∈ st.trail) (hx:∃ x h M K,FW F.ints l x bd fs h M K∧∀ (j:Nat) d,l[j]?=some d→x (dX d) - x (dY d)≤d.2.2)
   {ω:PH} {T2:Nat→Tag} {st1:St} (hR:Rep ω T2 s ff st1) (D:Did σ T ω T2) (hS:TSeq F n st st1) (L:Loc (oth ω T2) la ln lc l ia im lits r F.ints bd fs)
   {f:Int} (hf:LitN n f) (h1:f ∉ st1.trail) (h2:-f ∉ st1.trail) {a b:Nat} {c:Int} (hbf:bound F (-f)=some ((b:Int),(a:Int),c)) (hc:bd a b + c < 0)
   {R:PH→Prop} (hRR:∀ τ,LS F n s σ T st ff la ln lc l ia im lits r bd fs τ→R τ) :
   C 99 #[.pointer (some (ptr r)),.int .i64 a,.int .i64 b] (fun v τ => ∃ υ:PH,υ.sub τ∧∃ (a':Option Addr) (n' c':Nat),v=.slice a' n' c'∧C 96 #[.slice ia im ic,.slice a' n' c',.int .i64 f] (fun v τ => ∃ υ:PH,υ.sub τ∧∃ (p:Option Addr),v=.pointer p∧C 54 #[.pointer (some (ptr s)),.int .i64 f,.pointer p] (fun v τ => ∃ υ:PH,υ.sub τ∧v=.tuple #[]∧R υ) υ) υ) ω:=by
 obtain ⟨x,h,M,K,hFW,hxl⟩:=hx
 have hS':=hS.same
 have hI1:=hS.inv hI
 have hN:=hF.bools
 have hN':=hF.ints
 have hl:∀ (j:Nat) d,l[j]?=some d→DOk F.ints d:=by
   intro j d hd
   obtain ⟨y,_,hy⟩:=bounds_mem hbs d (List.mem_of_getElem? hd)
   exact (hF.bound hy).1
 have hbok:=(hF.bound hbf).1
 obtain ⟨g1,g2,g3,g4,g5,g6⟩:=hbok
 dsimp only at g1 g2 g3 g4 g5 g6
 have hlits:∀ y ∈ lits,y ∈ st1.trail:=by
   intro y hy
   obtain ⟨e,he⟩:=hS'.trail
   rw [he]; exact List.mem_append_left _ (hsub y hy)
 have hll:=bounds_len hbs
 have him:=L.it.1
 refine c99 (L.ps.mono (oth_sub ω T2)) (L.at'.sub (oth_sub ω T2)) hl hxl hFW (by omega) (by omega) (by omega) (by unfold far; omega) fun τ sl js hs hO hnew hrng hch hsum hlen => ⟨τ,PH.sub.refl _,_,_,_,rfl,?_⟩
 obtain ⟨T3,R3,D3,hT3⟩:=hR.grow hs
 obtain ⟨out,o1,o2,o3,o4⟩:=theory_imp hI1.tr hbs hlits hrng (by omega) (by omega) hf h1 h2 hbf hch (by omega)
 refine (c96 (lits:=lits) (c:=js) ((L.it.sub (oth_sub ω T2)).sub hs) (own_ints hO) (fun i hi => by have:=hrng i hi; omega) (fun y hy => litN (hI1.tr.lit y (hlits y hy)) (by omega)) (by omega) (litN hf (by omega)) (out:=out) (by rw [if_neg hf.1]; exact o1)).mono hb fun v τ2 hpost => ?_
 obtain ⟨r',sl2,sc2,rfl,L2⟩:=hpost
 rw [if_neg hf.1] at L2
 refine ⟨τ2,PH.sub.refl _,_,rfl,?_⟩
 obtain ⟨T4,R4,D4,hT4⟩:=R3.grow L2.sub
 obtain ⟨hrn,T5,R5,D5,_⟩:=R4.newR D4 L2.blk L2.ol L2.oc (hT4 _ L2.r0) L2.r0 (fun p hp => ⟨hT4 _ (L2.nl p hp).1,(L2.nl p hp).2,(L2.nl p hp).1⟩) (fun p hp => ⟨hT4 _ (L2.nc p hp).1,(L2.nc p hp).2,(L2.nc p hp).1⟩) L2.ap
 have e1:=hI1.tr.vlen
 have e2:=hI1.tr.llen
 have e3:=hI1.wlen
 have hvf:=hf.vr_lt
 refine (r54 R5 (litN hf (by omega)) hf.1 (some r') (by show vr f < st1.value.length; omega) (by show st1.level.length=st1.value.length; omega) (by show st1.why.length=st1.value.length; omega) ?_).mono hb fun v τ3 hpost => ?_
 · show st1.trail.length≤1000000
   have:=hI1.tr.len_le
   omega
 · obtain ⟨rfl,T6,D6,R6⟩:=hpost
   refine ⟨τ3,PH.sub.refl _,rfl,hRR _ ⟨T6,_,R6,((D.trans D3).trans D5).trans D6,?_,((L.mono D3.oth).mono D5.oth).mono D6.oth⟩⟩
   refine hS.snoc hrn (fun cs _ => RGood.ofCyc o2 ?_) hf h1 h2 o3 o4
   intro y hy
   rcases List.mem_cons.1 hy with rfl | hy
   · exact hf.neg
   · obtain ⟨j,hj,rfl⟩:=List.mem_map.1 hy
     exact hI1.tr.lit _ (hlits _ (getD_mem hll (hrng j hj)))
theorem l81 {F:Fm} {n s:Nat} {σ:PH} {T:Nat→Tag} {st:St} {aa:Option Addr} {an ac:Nat} {ca:Option Addr} {cn cc:Nat} (hF:FOk F) (hn:n=F.bools) (hI:Inv F n st)
   (hA:Atoms (oth σ T) aa an F.atoms)
   {la:Option Addr} {ln lc:Nat} {l:List Dif} {ia:Option Addr} {im ic:Nat} {lits:List Int} {r:Nat} {bd fs:Nat→Nat→Int}
   (hbs:bounds F lits=some l) (hsub:∀ x ∈ lits,x ∈ st.trail) (hx:∃ x h M K,FW F.ints l x bd fs h M K∧∀ (j:Nat) d,l[j]?=some d→x (dX d) - x (dY d)≤d.2.2)
   {Q:Value→PH→Prop}
   (hnil:∀ τ T' st',Did σ T τ T'→Rep τ T' s [.int .i64 F.ints,.int .i64 F.bools,.slice aa an ac,.slice ca cn cc] st'→TSeq F n st st'→Q (.pointer none) τ)
   {υ:PH} {T1:Nat→Tag} (hR:Rep υ T1 s [.int .i64 F.ints,.int .i64 F.bools,.slice aa an ac,.slice ca cn cc] st) (D:Did σ T υ T1) (L:Loc (oth υ T1) la ln lc l ia im lits r F.ints bd fs) :
   S81_3 C Q (some (ptr s)) ia im ic (some (ptr r)) aa an ac (an:Int) 0 υ:=by
 unfold S81_3
 refine iloopS_for (G:=Unit) (fun k _ => (some (ptr s),ia,im,ic,some (ptr r),aa,an,ac,(an:Int),(k:Int))) (fun k _ υ => ∃ T1 st1,Rep υ T1 s [.int .i64 F.ints,.int .i64 F.bools,.slice aa an ac,.slice ca cn cc] st1∧Did σ T υ T1∧TSeq F n st st1∧Loc (oth υ T1) la ln lc l ia im lits r F.ints bd fs) an ?_ (g:=()) ⟨T1,st,hR,D,.refl _,L⟩
 clear hR D L υ T1
 rintro k _ υ hk ⟨T1,st1,hR,D,hS,L⟩ R hRR
 unfold S81_4
 dsimp only
 refine br_dec.2 ⟨fun hlt => ?_,fun hge => hnil _ _ _ D hR hS⟩
 have hkn:k < an:=by omega
 have hAυ:=(hA.sub D.oth).sub (oth_sub υ T1)
 have hat:=List.getElem?_eq_getElem (l:=F.atoms) (i:=k) (by rw [hA.1]; exact hkn)
 obtain ⟨d,hd⟩:∃ d,F.atoms[k]?=some d:=⟨_,hat⟩
 obtain ⟨p,hp,a0,a1,a2⟩:=hAυ.2 k d hd
 refine ⟨p,hp,by omega,by omega,_,by rw [Int.toNat_natCast]; exact a0,_,by rw [Int.toNat_natCast]; exact a1,_,by rw [Int.toNat_natCast]; exact a2,_,_,_,rfl,fun b hb => ?_⟩
 have sb:=PH.sub_set (o:=.cells #[.int .i64 d.1,.int .i64 d.2.1,.int .i64 d.2.2] 50) hb
 have B:Blk (υ.set b (.cells #[.int .i64 d.1,.int .i64 d.2.1,.int .i64 d.2.2] 50)) b 50 [.int .i64 d.1,.int .i64 d.2.1,.int .i64 d.2.2]:=set_self
 simp only [newSet,newSet0,newCell,newCell0,newFroz,newFroz0,List.setIfInBounds_toArray,List.set_cons_zero,List.set_cons_succ,List.getElem?_toArray,List.getElem?_cons_zero,List.getElem?_cons_succ,Option.some.injEq,exists_eq',true_and,Value.int.injEq,exists_eq_left']
 generalize υ.set b (.cells #[.int .i64 d.1,.int .i64 d.2.1,.int .i64 d.2.2] 50)=ω at *
 have hat':=hF.at' d (List.mem_of_getElem? hd)
 obtain ⟨q1,q2,q3,q4,q5,q6,q7⟩:=hat'
 obtain ⟨T2,R2,D2,hT2⟩:=hR.grow sb
 have L2:=L.mono D2.oth
 have hI1:=hS.inv hI
 have hvl:=hI1.tr.vlen
 have hal:=hF.atoms
 have hA1:=hA.1
 have hbo:=hF.bools
 obtain ⟨va,vc,c8,hval⟩:=R2.val
 have hkv:=List.getElem?_eq_getElem (l:=st1.value) (i:=k) (by omega)
 obtain ⟨v,hv⟩:∃ v,st1.value[k]?=some v:=⟨_,hkv⟩
 obtain ⟨pv,rfl,cv⟩:=hval k v hv
 have wk:IntKind.wrap .i64 ((k:Int) + 1)=((k + 1:Nat):Int):=by rw [w64 (by omega) (by omega)]; omega
 have next:LS F n s σ T st [.int .i64 F.ints,.int .i64 F.bools,.slice aa an ac,.slice ca cn cc] la ln lc l ia im lits r bd fs ω:=⟨T2,st1,R2,D.trans D2,hS,L2⟩
 refine ⟨_,c8,_,_,_,rfl,pv,rfl,by omega,by omega,_,by rw [Int.toNat_natCast,Nat.mul_one]; exact cv,v,rfl,br_iff.2 ⟨fun _ => ?_,fun hv0 => ?_⟩⟩
 · rw [wk]; exact hRR () _ hkn next
 · have hv0:v=0:=by simpa using hv0
   subst hv0
   have hf:LitN n ((k:Int) + 1):=⟨by omega,by omega⟩
   have hz:=(hI1.tr.zero hf).1 (by unfold Go.Sv.valS; rw [if_pos ⟨by omega,by omega⟩,show ((k:Int) + 1 - 1).toNat=k from by omega]; simp [hv])
   have eX:d.1=((dX d:Nat):Int):=by unfold dX; omega
   have eY:d.2.1=((dY d:Nat):Int):=by unfold dY; omega
   obtain ⟨G,sb',sf',RB,RF,P⟩:=L2.ps
   obtain ⟨bs1,Q1⟩:=quiet98 P (oth_sub ω T2) (a:=dX d) (b:=dY d) (by omega) (by omega)
   obtain ⟨bs2,Q2⟩:=quiet98 P (oth_sub ω T2) (a:=dY d) (b:=dX d) (by omega) (by omega)
   rw [eX,eY]
   refine ⟨_,_,Q1,br_dec.2 ⟨fun hle => ?_,fun hgt => ⟨_,_,Q2,br_dec.2 ⟨fun hle => ?_,fun _ => ?_⟩⟩⟩⟩
   · have:=add81 (R:=fun τ => R (some (ptr s),ia,im,ic,some (ptr r),aa,an,ac,(an:Int),((k + 1:Nat):Int)) τ) hF hn hI hbs hsub hx R2 (D.trans D2) hS L2 (ic:=ic) (f:=(k:Int) + 1) hf hz.1 hz.2 (a:=dX d) (b:=dY d) (c:=-d.2.2 - 1) (by
       rw [← eX,← eY]; exact bound_neg (a:=d.1) (b:=d.2.1) (c:=d.2.2) hd) (by omega) fun τ hτ => hRR () τ hkn hτ
     rw [w64 (n:=(k:Int) + 1) (by omega) (by omega)]
     exact this
   · have wc:IntKind.wrap .i64 (IntKind.wrap .i64 (0 - d.2.2) - 1)=-d.2.2 - 1:=by rw [w64 (n:=0 - d.2.2) (by omega) (by omega),w64 (by omega) (by omega)]; omega
     have wf:IntKind.wrap .i64 (IntKind.wrap .i64 (0 - (k:Int)) - 1)=-((k:Int) + 1):=by rw [w64 (n:=0 - (k:Int)) (by omega) (by omega),w64 (by omega) (by omega)]; omega
     rw [wc] at hle
     rw [wf,wk]
     refine add81 (R:=fun τ => R (some (ptr s),ia,im,ic,some (ptr r),aa,an,ac,(an:Int),((k + 1:Nat):Int)) τ) hF hn hI hbs hsub hx R2 (D.trans D2) hS L2 (ic:=ic) (f:=-((k:Int) + 1)) hf.neg hz.2 (by rw [Int.neg_neg]; exact hz.1) (a:=dY d) (b:=dX d) (c:=d.2.2) (by
       rw [Int.neg_neg,← eX,← eY]; exact bound_pos hd) (by omega) fun τ hτ => hRR () τ hkn hτ
   · rw [wk]; exact hRR () _ hkn next
theorem new_oth {σ υ:PH} {T:Nat→Tag} {e:TypeId} {size:Nat} {a:Option Addr} {n c:Nat} {vs:List Value} (o:Own υ e size a n c vs) (hn:∀ p,a=some p→σ p.block=none) (hT:∀ b,σ b=none→T b=.other):Own (oth υ T) e size a n c vs :=
 own_oth o fun p hp => hT _ (hn p hp)
theorem r81 {F:Fm} {n s:Nat} {σ:PH} {T:Nat→Tag} {st:St} {ff:List Value} (hF:FOk F) (hn:n=F.bools) (hI:Inv F n st)
   (hR:Rep σ T s ff st) (hf:Frm (oth σ T) ff F) {Q:Value→PH→Prop}
   (hnil:∀ τ T' st' (x:Nat→Int),Did σ T τ T'→Rep τ T' s ff st'→TSeq F n st st'→(∀ y ∈ st.trail,∀ d,bound F y=some d→x (dX d) - x (dY d)≤d.2.2)→Q (.pointer none) τ)
   (hcon:∀ τ T' r rc,Did σ T τ T'→st.R r=none→Rep τ T' s ff (st.setR r rc)→(∀ cs,stepsOf F st.steps=some cs→RGood F n cs rc)→rc.step=-1→(∀ y ∈ rc.lits,-y ∈ st.trail)→Q (.pointer (some (ptr r))) τ) :
   C 81 #[.pointer (some (ptr s))] Q σ:=by
 obtain ⟨aa,an,ac,ca,cn,cc,rfl,hA,_,_,_⟩:=hf
 refine go (E81_0 _ _ _ _) ?_
 unfold S81_0
 obtain ⟨ta,tc,t11,_,hta⟩:=hR.trail
 obtain ⟨c0,c1,c2,c3⟩:=hR.frm
 refine ⟨_,rfl,_,t11,_,_,_,rfl,?_⟩
 unfold S81_1
 have hN:=hF.bools
 have hN':=hF.ints
 have htl:=hI.tr.len_le
 have hAσ:=hA.sub (oth_sub σ T)
 refine iloopS_for (G:=Sli × Sli) (fun k g => (some (ptr s),g.1.a,g.1.n,g.1.c,g.2.a,g.2.n,g.2.c,ta,st.trail.length,tc,(st.trail.length:Int),(k:Int)))
   (fun k g υ => ∃ l lits,Col σ υ g.1 l g.2 lits∧bounds F lits=some l∧(∀ x ∈ lits,x ∈ st.trail)∧(∀ x ∈ st.trail.take k,∀ d,bound F x=some d→d ∈ l)∧lits.length≤k) st.trail.length ?_
   (g:=(⟨none,0,0⟩,⟨none,0,0⟩)) ⟨[],[],⟨PH.sub.refl _,own_nil,own_nil,(fun _ h => by cases h),(fun _ h => by cases h),fun _ _ h => by cases h⟩,rfl,by simp,by simp,by simp⟩
 rintro k ⟨sl,si⟩ υ hk ⟨l,lits,hC,hbs,hsub,hall,hlen⟩ R hRR
 unfold S81_2
 dsimp only at hC hRR ⊢
 have hll:=bounds_len hbs
 refine br_dec.2 ⟨fun hlt => ?_,fun hge => ?_⟩
 · have hkn:k < st.trail.length:=by omega
   obtain ⟨x,hx⟩:∃ x,st.trail[k]?=some x:=⟨_,List.getElem?_eq_getElem hkn⟩
   obtain ⟨p,rfl,cp⟩:=hta k x hx
   have hxm:=List.mem_of_getElem? hx
   have wk:IntKind.wrap .i64 ((k:Int) + 1)=((k + 1:Nat):Int):=by rw [w64 (by omega) (by omega)]; omega
   have htk:st.trail.take (k + 1)=st.trail.take k ++ [x]:=by rw [List.take_add_one,hx]; rfl
   refine ⟨p,rfl,by omega,by omega,_,by rw [Int.toNat_natCast,Nat.mul_one]; exact hC.sub.cell cp,x,rfl,_,rfl,_,hC.sub.cell c0,_,hC.sub.cell c1,_,hC.sub.cell c2,_,hC.sub.cell c3,_,_,_,_,_,_,_,_,rfl,?_⟩
   refine c58 (F:=F) (hAσ.sub hC.sub) (fun d hd => (hF.at' d hd).2.2.2.2.2) (litN (hI.tr.lit x hxm) (by omega)) fun τ hs => ⟨τ,PH.sub.refl _,?_⟩
   have hCτ:=hC.grow hs
   cases hbd:bound F x with
   | none =>
     refine ⟨0,0,0,false,rfl,fun b hbn => ?_⟩
     simp only [newSet,newSet0,newCell,newCell0,newFroz,newFroz0,List.setIfInBounds_toArray,List.set_cons_zero,List.set_cons_succ,List.getElem?_toArray,List.getElem?_cons_zero,List.getElem?_cons_succ,Option.some.injEq,exists_eq',true_and,Value.int.injEq,exists_eq_left']
     refine br_iff.2 ⟨fun h => (by cases h),fun _ => ?_⟩
     rw [wk]
     refine hRR (sl,si) _ hkn ⟨l,lits,hCτ.grow (PH.sub_set hbn),hbs,hsub,fun y hy d hd => ?_,by omega⟩
     rw [htk] at hy
     rcases List.mem_append.1 hy with hy | hy
     · exact hall y hy d hd
     · rw [List.mem_singleton] at hy; subst hy; rw [hbd] at hd; cases hd
   | some d =>
     refine ⟨d.1,d.2.1,d.2.2,true,rfl,fun b hbn => ?_⟩
     simp only [newSet,newSet0,newCell,newCell0,newFroz,newFroz0,List.setIfInBounds_toArray,List.set_cons_zero,List.set_cons_succ,List.getElem?_toArray,List.getElem?_cons_zero,List.getElem?_cons_succ,Option.some.injEq,exists_eq',true_and,Value.int.injEq,exists_eq_left']
     refine br_iff.2 ⟨fun _ => ?_,fun h => (by cases h)⟩
     refine ⟨_,_,_,rfl,fun b2 hb2 => ?_⟩
     have:=(hCτ.grow (PH.sub_set hbn)).push d x (by omega) (by omega) hb2 (R:=fun sl' si' τ => R (some (ptr s),sl'.a,sl'.n,sl'.c,si'.a,si'.n,si'.c,some p,st.trail.length,tc,(st.trail.length:Int),IntKind.wrap .i64 ((k:Int) + 1)) τ) fun sl' si' τ' hC' => by
       rw [wk]
       refine hRR (sl',si') _ hkn ⟨l ++ [d],lits ++ [x],hC',bounds_snoc hbs hbd,fun y hy => ?_,fun y hy d' hd' => ?_,by simp; omega⟩
       · rcases List.mem_append.1 hy with hy | hy
         · exact hsub y hy
         · rw [List.mem_singleton] at hy; subst hy; exact hxm
       · rw [htk] at hy
         rcases List.mem_append.1 hy with hy | hy
         · exact List.mem_append_left _ (hall y hy d' hd')
         · rw [List.mem_singleton] at hy; subst hy; rw [hbd] at hd'; cases hd'; simp
     exact this
 · have hkn:k=st.trail.length:=by omega
   subst hkn
   rw [List.take_length] at hall
   have hlok:∀ (j:Nat) d,l[j]?=some d→DOk F.ints d∧dX d ≠ dY d:=by
     intro j d hd
     obtain ⟨y,_,hy⟩:=bounds_mem hbs d (List.mem_of_getElem? hd)
     exact hF.bound hy
   have hAt:=own_atoms hC.ol
   have hIt:=own_ints hC.oi
   have hln:=hAt.1
   have him:=hIt.1
   refine ⟨_,rfl,_,hC.sub.cell c0,_,rfl,?_⟩
   refine c59 hAt (fun j d hd => (hlok j d hd).1) (by omega) (by omega) (fun τ X x hs _ _ hx hxb => ?_) fun τ slc c hD => ?_
   · refine ⟨τ,PH.sub.refl _,_,_,_,_,_,_,_,rfl,br_iff.2 ⟨fun h => (by cases h),fun _ => ?_⟩⟩
     have hστ:=hC.sub.trans hs
     have hxi:∀ (j:Nat) d,l[j]?=some d→x (dX d) - x (dY d)≤d.2.2:=fun j d hd => hx d (List.mem_of_getElem? hd)
     refine ⟨_,rfl,_,hστ.cell c0,_,rfl,?_⟩
     refine c97 (hAt.sub hs) (fun j d hd => (hlok j d hd).1) (by omega) (by omega) hxi (fun j d hd => (hlok j d hd).2) hxb fun τ2 r bd fs h M K hr0 hP hFW => ⟨τ2,PH.sub.refl _,_,rfl,?_⟩
     have hs2:τ.sub τ2:=by obtain ⟨G,sb,sf,RB,RF,P⟩:=hP; exact P.sub
     have hC2:=hC.grow (hs.trans hs2)
     refine ⟨_,rfl,_,hC2.sub.cell c2,_,_,_,rfl,?_⟩
     obtain ⟨T1,R1,D1,hT1⟩:=hR.grow hC2.sub
     refine l81 hF hn hI hA hbs hsub ⟨x,h,M,K,hFW,hxi⟩ (fun τ' T' st' D' R' hS => hnil τ' T' st' x D' R' hS fun y hy d hd => hx d (hall y hy d hd)) R1 D1
       (⟨own_atoms (new_oth hC2.ol hC2.nl hT1),own_ints (new_oth hC2.oi hC2.ni hT1),hP.oth fun b hb => hT1 b (new_of hστ hb)⟩:Loc _ sl.a sl.n sl.c l si.a si.n lits r F.ints bd fs)
   · refine ⟨τ,PH.sub.refl _,_,_,_,_,_,_,_,rfl,br_iff.2 ⟨fun _ => ?_,fun h => (by cases h)⟩⟩
     have hστ:=hC.sub.trans hD.sub
     have hDl:=hD.len
     obtain ⟨out,o1,o2,o3⟩:=theory_conf hI.tr hbs hsub hD.rng (by omega) (by omega) hD.ring
     refine (c96 (lits:=lits) (c:=c) (hIt.sub hD.sub) (own_ints hD.own) (fun i hi => by have:=hD.rng i hi; omega) (fun y hy => litN (hI.tr.lit y (hsub y hy)) (by omega)) (by omega) (f:=0) (by unfold Lit; omega) (out:=out) (by rw [if_pos rfl]; exact o1)).mono hb fun v τ2 hpost => ?_
     obtain ⟨r',sl2,sc2,rfl,L2⟩:=hpost
     rw [if_pos rfl] at L2
     refine ⟨τ2,PH.sub.refl _,_,rfl,?_⟩
     obtain ⟨T3,R3,D3,hT3⟩:=hR.grow hστ
     obtain ⟨T4,R4,D4,hT4⟩:=R3.grow L2.sub
     obtain ⟨hrn,T5,R5,D5,_⟩:=R4.newR D4 L2.blk L2.ol L2.oc (hT4 _ L2.r0) L2.r0 (fun p hp => ⟨hT4 _ (L2.nl p hp).1,(L2.nl p hp).2,(L2.nl p hp).1⟩) (fun p hp => ⟨hT4 _ (L2.nc p hp).1,(L2.nc p hp).2,(L2.nc p hp).1⟩) L2.ap
     refine hcon τ2 T5 r' _ (D3.trans D5) hrn R5 (fun cs _ => RGood.ofCyc o2 ?_) rfl o3
     intro y hy
     obtain ⟨j,hj,rfl⟩:=List.mem_map.1 hy
     exact hI.tr.lit _ (hsub _ (getD_mem hll (hD.rng j hj)))
end Go.Proofs.Ythfnjogadngfiaa
namespace Go.Sv
theorem idx_inj {n:Nat} {x y:Int} (hx:LitN n x) (hy:LitN n y) (h:(idx x).toNat=(idx y).toNat):x=y:=by
 obtain ⟨h1,_⟩:=hx
 obtain ⟨h2,_⟩:=hy
 unfold idx at h
 split at h <;> split at h <;> omega
theorem idx_lt' {n:Nat} {x:Int} (h:LitN n x):(idx x).toNat < 2 * n:=by
 obtain ⟨h1,h2⟩:=h
 unfold idx; split <;> omega
theorem lv_set {level:List Nat} {x y:Int} {v:Nat} (h:vr y ≠ vr x):lv (level.set (vr x) v) y=lv level y:=by
 unfold lv
 rw [List.getD_eq_getElem?_getD,List.getElem?_set_ne (Ne.symm h),← List.getD_eq_getElem?_getD]
theorem lv_set_self {level:List Nat} {x:Int} {v:Nat} (h:vr x < level.length):lv (level.set (vr x) v) x=v:=by
 unfold lv
 rw [List.getD_eq_getElem?_getD,List.getElem?_set_self h]; rfl
def wat (rc:RC) (x:Int):Prop:=rc.lits[0]?=some x ∨ rc.lits[1]?=some x
def watO (rc:RC) (w o:Int):Prop:=(rc.lits[0]?=some w∧rc.lits[1]?=some o) ∨ (rc.lits[1]?=some w∧rc.lits[0]?=some o)
structure WI (n:Nat) (st:St) (W:List (List Int)) (p:Nat):Prop where
 wl:W.length=2 * n
 nd:st.clauses.Nodup
 cl:∀ r ∈ st.clauses,∃ rc,st.R r=some rc∧2≤rc.lits.length
 back:∀ (j:Nat) l,W[j]?=some l→l.Nodup∧∀ i ∈ l,0≤i∧i < st.clauses.length
 mem:∀ x,LitN n x→∀ l,W[(idx x).toNat]?=some l→∀ (i:Nat) r rc,st.clauses[i]?=some r→st.R r=some rc→((i:Int) ∈ l ↔ wat rc x)
 ok:∀ r ∈ st.clauses,∀ rc,st.R r=some rc→∀ w o,watO rc w o→-w ∈ st.trail.take p→o ∈ st.trail∧lv st.level o≤lv st.level w
 hp:p≤st.trail.length
 lim:∀ q ∈ st.limits,q≤p
theorem WI.small {n:Nat} {st:St} {W:List (List Int)} {p:Nat} (h:WI n st W p):∀ e ∈ W,e.length≤st.clauses.length:=by
 intro e he
 obtain ⟨j,hj⟩:=List.mem_iff_getElem?.1 he
 obtain ⟨h1,h2⟩:=h.back j e hj
 have hm:(e.map Int.toNat).Nodup:=by
   refine List.Pairwise.map (R:=fun a b => a ≠ b∧0≤a∧0≤b) (S:=fun a b => a ≠ b) _ (fun a b ⟨q1,q2,q3⟩ => by omega) ?_
   refine h1.imp_of_mem fun {a b} ha hb hab => ⟨hab,(h2 a ha).1,(h2 b hb).1⟩
 have:=hm.length_le_of_subset (l₂:=List.range st.clauses.length) fun v hv => by
   obtain ⟨x,hx,rfl⟩:=List.mem_map.1 hv
   have:=h2 x hx
   exact List.mem_range.2 (by omega)
 simpa using this
theorem WI.assign {n:Nat} {st:St} {W:List (List Int)} {p:Nat} (h:WI n st W p) (hT:Tr n st.value st.level st.trail st.limits) {x:Int} (hx:LitN n x) (h1:x ∉ st.trail) (h2:-x ∉ st.trail) (r:Option Nat):WI n (st.assign x r) W p:=by
 have key:∀ y ∈ st.trail,lv (st.assign x r).level y=lv st.level y:=by
   intro y hy
   refine lv_set fun e => ?_
   rcases vr_eq hx.1 (hT.lit y hy).1 e.symm with rfl | rfl
   · exact h1 hy
   · exact h2 hy
 refine ⟨h.wl,h.nd,h.cl,h.back,h.mem,fun q hq rc hrc w o hw hm => ?_,?_,h.lim⟩
 · replace hm:-w ∈ (st.trail ++ [x]).take p:=hm
   rw [List.take_append_of_le_length h.hp] at hm
   obtain ⟨q1,q2⟩:=h.ok q hq rc hrc w o hw hm
   refine ⟨List.mem_append_left _ q1,?_⟩
   have:=key _ (List.mem_of_mem_take hm)
   rw [lv_neg,lv_neg] at this
   rw [key o q1,this]
   exact q2
 · show p≤(st.trail ++ [x]).length
   have:=h.hp
   simp; omega
theorem WI.setR {n:Nat} {st:St} {W:List (List Int)} {p:Nat} (h:WI n st W p) {r:Nat} {rc rc':RC} (hr:st.R r=some rc) (h2:2≤rc.lits.length→2≤rc'.lits.length) (hw:∀ x,wat rc' x ↔ wat rc x) (ho:∀ w o,watO rc' w o→watO rc w o):WI n (st.setR r rc') W p:=by
 have key:∀ q y,(st.setR r rc').R q=some y→(q=r∧y=rc') ∨ (q ≠ r∧st.R q=some y):=by
   intro q y hy
   replace hy:(if q=r then some rc' else st.R q)=some y:=hy
   by_cases e:q=r
   · rw [if_pos e] at hy; cases hy; exact .inl ⟨e,rfl⟩
   · rw [if_neg e] at hy; exact .inr ⟨e,hy⟩
 refine ⟨h.wl,h.nd,fun q hq => ?_,h.back,fun x hx l hl i q y hi hy => ?_,fun q hq y hy w o hw' hm => ?_,h.hp,h.lim⟩
 · by_cases e:q=r
   · subst e
     obtain ⟨y,q1,q2⟩:=h.cl q hq
     rw [hr] at q1; cases q1
     exact ⟨rc',if_pos rfl,h2 q2⟩
   · obtain ⟨y,q1,q2⟩:=h.cl q hq
     exact ⟨y,(if_neg e).trans q1,q2⟩
 · rcases key q y hy with ⟨rfl,rfl⟩ | ⟨_,hy'⟩
   · exact (h.mem x hx l hl i q rc hi hr).trans (hw x).symm
   · exact h.mem x hx l hl i q y hi hy'
 · rcases key q y hy with ⟨rfl,rfl⟩ | ⟨_,hy'⟩
   · exact h.ok q hq rc hr w o (ho w o hw') hm
   · exact h.ok q hq y hy' w o hw' hm
theorem WI.newR {n:Nat} {st:St} {W:List (List Int)} {p:Nat} (h:WI n st W p) {r:Nat} (hr:st.R r=none) (rc:RC):WI n (st.setR r rc) W p:=by
 have hne:∀ q ∈ st.clauses,q ≠ r:=by
   rintro q hq rfl
   obtain ⟨y,q1,_⟩:=h.cl q hq
   rw [hr] at q1; cases q1
 refine ⟨h.wl,h.nd,fun q hq => ?_,h.back,fun x hx l hl i q y hi hy => ?_,fun q hq y hy w o hw' hm => ?_,h.hp,h.lim⟩
 · obtain ⟨y,q1,q2⟩:=h.cl q hq
   exact ⟨y,(if_neg (hne q hq)).trans q1,q2⟩
 · exact h.mem x hx l hl i q y hi ((if_neg (hne q (List.mem_of_getElem? hi))).symm.trans hy)
 · exact h.ok q hq y ((if_neg (hne q hq)).symm.trans hy) w o hw' hm
theorem swp01_wat {rc:RC} (h:2≤rc.lits.length):(∀ x,wat { rc with lits:=swp rc.lits 0 1 } x ↔ wat rc x)∧∀ w o,watO { rc with lits:=swp rc.lits 0 1 } w o ↔ watO rc w o:=by
 have e0:=swp_left (l:=rc.lits) (i:=0) (j:=1) (by omega) (by omega)
 have e1:=swp_right (l:=rc.lits) (i:=0) (j:=1) (by omega) (by omega)
 constructor
 · intro x
   unfold wat
   dsimp only
   rw [e0,e1]
   exact ⟨Or.symm,Or.symm⟩
 · intro w o
   unfold watO
   dsimp only
   rw [e0,e1]
   exact ⟨Or.symm,Or.symm⟩
theorem WI.move {n:Nat} {st:St} {W0:List (List Int)} {p:Nat} {lit:Int} {keep rest:List Int} {i r:Nat} (hT:Tr n st.value st.level st.trail st.limits)
   (h:WI n st (W0.set (idx lit).toNat (keep ++ (i:Int) :: rest)) p) (hlit:LitN n lit) (hf:-lit ∈ st.trail) (hi:st.clauses[i]?=some r) {rc:RC} (hr:st.R r=some rc) (hl:∀ x ∈ rc.lits,LitN n x) (hd:rc.lits.Pairwise fun a b => vr a ≠ vr b)
   (h1:rc.lits[1]?=some lit) {k:Nat} (hk:2≤k) {y:Int} (hy:rc.lits[k]?=some y) (hyf:-y ∉ st.trail) :
   WI n (st.setR r { rc with lits:=swp rc.lits 1 k }) ((W0.modify (idx y).toNat (· ++ [(i:Int)])).set (idx lit).toNat (keep ++ rest)) p:=by
 have hkl:k < rc.lits.length:=(List.getElem?_eq_some_iff.1 hy).1
 have e0:(swp rc.lits 1 k)[0]?=rc.lits[0]?:=swp_ne (by omega) (by omega)
 have e1:(swp rc.lits 1 k)[1]?=rc.lits[k]?:=swp_left (by omega) hkl
 obtain ⟨a,ha⟩:∃ a,rc.lits[0]?=some a:=⟨_,List.getElem?_eq_getElem (by omega)⟩
 have ndl:∀ (i j:Nat) x,rc.lits[i]?=some x→rc.lits[j]?=some x→i=j:=by
   intro i j x q1 q2
   obtain ⟨g1,rfl⟩:=List.getElem?_eq_some_iff.1 q1
   obtain ⟨g2,g3⟩:=List.getElem?_eq_some_iff.1 q2
   rcases Nat.lt_trichotomy i j with g | g | g
   · exact absurd (by rw [g3]) (List.pairwise_iff_getElem.1 hd i j g1 g2 g)
   · exact g
   · exact absurd (by rw [g3]) (List.pairwise_iff_getElem.1 hd j i g2 g1 g)
 have hym:=List.mem_of_getElem? hy
 have hyl:y ≠ lit:=by rintro rfl; have:=ndl _ _ _ hy h1; omega
 have hay:a ≠ y:=by rintro rfl; have:=ndl _ _ _ hy ha; omega
 have hal:a ≠ lit:=by rintro rfl; have:=ndl _ _ _ h1 ha; omega
 have hW:W0.length=2 * n:=by have:=h.wl; rwa [List.length_set] at this
 have hjl:=idx_lt' hlit
 have hjy:=idx_lt' (hl y hym)
 have hjne:(idx y).toNat ≠ (idx lit).toNat:=fun e => hyl (idx_inj (hl y hym) hlit e)
 have hw':∀ x,wat { rc with lits:=swp rc.lits 1 k } x ↔ x=a ∨ x=y:=by
   intro x
   unfold wat
   dsimp only
   rw [e0,e1,ha,hy]
   simp [eq_comm]
 have hw:∀ x,wat rc x ↔ x=a ∨ x=lit:=by
   intro x
   unfold wat
   rw [ha,h1]
   simp [eq_comm]
 have key:∀ q z,(st.setR r { rc with lits:=swp rc.lits 1 k }).R q=some z→(q=r∧z={ rc with lits:=swp rc.lits 1 k }) ∨ (q ≠ r∧st.R q=some z):=by
   intro q z hz
   replace hz:(if q=r then some _ else st.R q)=some z:=hz
   by_cases e:q=r
   · rw [if_pos e] at hz; cases hz; exact .inl ⟨e,rfl⟩
   · rw [if_neg e] at hz; exact .inr ⟨e,hz⟩
 have hclen:i < st.clauses.length:=(List.getElem?_eq_some_iff.1 hi).1
 have idxOf:∀ j q,st.clauses[j]?=some q→(q=r ↔ j=i):=by
   intro j q hj
   constructor
   · rintro rfl
     have g1:=(List.getElem?_eq_some_iff.1 hj).1
     exact (List.getElem?_inj g1 h.nd).1 (by rw [hj,hi])
   · rintro rfl; rw [hi] at hj; cases hj; rfl
 have atLit:(W0.set (idx lit).toNat (keep ++ (i:Int) :: rest))[(idx lit).toNat]?=some (keep ++ (i:Int) :: rest):=List.getElem?_set_self (by omega)
 obtain ⟨nd0,rg0⟩:=h.back _ _ atLit
 obtain ⟨ly,hly⟩:∃ ly,W0[(idx y).toNat]?=some ly:=⟨_,List.getElem?_eq_getElem (by omega)⟩
 have atY:(W0.set (idx lit).toNat (keep ++ (i:Int) :: rest))[(idx y).toNat]?=some ly:=(List.getElem?_set_ne (Ne.symm hjne)).trans hly
 have nly:(i:Int) ∉ ly:=fun hm => by
   have:=(hw y).1 ((h.mem y (hl y hym) ly atY i r rc hi hr).1 hm)
   rcases this with e | e
   · exact hay e.symm
   · exact hyl e
 obtain ⟨ndy,rgy⟩:=h.back _ _ atY
 have nd1:(keep ++ rest).Nodup∧(i:Int) ∉ keep ++ rest∧∀ j:Int,j ∈ keep ++ rest ↔ j ∈ keep ++ (i:Int) :: rest∧j ≠ i:=by
   have hp:(keep ++ (i:Int) :: rest).Perm ((i:Int) :: (keep ++ rest)):=List.perm_middle
   have nd2:=hp.nodup_iff.1 nd0
   rw [List.nodup_cons] at nd2
   refine ⟨nd2.2,nd2.1,fun j => ?_⟩
   rw [hp.mem_iff,List.mem_cons]
   constructor
   · intro hj
     exact ⟨.inr hj,by rintro rfl; exact nd2.1 hj⟩
   · rintro ⟨q1 | q1,q2⟩
     · exact absurd q1 q2
     · exact q1
 have newAt:∀ j l,((W0.modify (idx y).toNat (· ++ [(i:Int)])).set (idx lit).toNat (keep ++ rest))[j]?=some l→(j=(idx lit).toNat∧l=keep ++ rest) ∨ (j=(idx y).toNat∧l=ly ++ [(i:Int)]) ∨ (j ≠ (idx lit).toNat∧j ≠ (idx y).toNat∧(W0.set (idx lit).toNat (keep ++ (i:Int) :: rest))[j]?=some l):=by
   intro j l hj
   by_cases q1:j=(idx lit).toNat
   · subst q1
     rw [List.getElem?_set_self (by rw [List.length_modify]; omega)] at hj
     cases hj
     exact .inl ⟨rfl,rfl⟩
   · rw [List.getElem?_set_ne (Ne.symm q1),List.getElem?_modify] at hj
     by_cases q2:j=(idx y).toNat
     · subst q2
       rw [hly] at hj
       simp at hj
       exact .inr (.inl ⟨rfl,hj.symm⟩)
     · refine .inr (.inr ⟨q1,q2,?_⟩)
       rw [List.getElem?_set_ne (Ne.symm q1)]
       simpa [Ne.symm q2] using hj
 refine ⟨by rw [List.length_set,List.length_modify]; exact hW,h.nd,fun q hq => ?_,fun j l hj => ?_,fun x hx l hlx j q z hj hz => ?_,fun q hq z hz w o hwo hm => ?_,h.hp,h.lim⟩
 · by_cases e:q=r
   · subst e
     exact ⟨_,if_pos rfl,by show 2≤(swp _ _ _).length; rw [swp_len]; omega⟩
   · obtain ⟨z,q1,q2⟩:=h.cl q hq
     exact ⟨z,(if_neg e).trans q1,q2⟩
 · rcases newAt j l hj with ⟨rfl,rfl⟩ | ⟨rfl,rfl⟩ | ⟨_,_,hj'⟩
   · exact ⟨nd1.1,fun z hz => rg0 z ((nd1.2.2 z).1 hz).1⟩
   · refine ⟨List.nodup_append.2 ⟨ndy,by simp,fun a ha b hb => ?_⟩,fun z hz => ?_⟩
     · rw [List.mem_singleton] at hb; subst hb
       rintro rfl; exact nly ha
     · rcases List.mem_append.1 hz with hz | hz
       · exact rgy z hz
       · rw [List.mem_singleton] at hz; subst hz
         show _∧_ < ((st.clauses.length:Nat):Int)
         omega
   · exact h.back j l hj'
 · have hji:=idxOf j q hj
   rcases newAt _ l hlx with ⟨e,rfl⟩ | ⟨e,rfl⟩ | ⟨n1,n2,hl'⟩
   · have ex:=idx_inj hx hlit e
     subst ex
     rw [nd1.2.2]
     rcases key q z hz with ⟨rfl,rfl⟩ | ⟨hqr,hz'⟩
     · have:j=i:=hji.1 rfl
       subst this
       rw [hw' x]
       simp [Ne.symm hal,Ne.symm hyl]
     · have:j ≠ i:=fun e => hqr (hji.2 e)
       rw [h.mem x hx _ atLit j q z hj hz']
       simp only [and_iff_left_iff_imp]
       intro _ e
       exact this (by omega)
   · have ex:=idx_inj hx (hl y hym) e
     subst ex
     rcases key q z hz with ⟨rfl,rfl⟩ | ⟨hqr,hz'⟩
     · have:j=i:=hji.1 rfl
       subst this
       rw [hw' x]
       simp
     · have:j ≠ i:=fun e => hqr (hji.2 e)
       rw [← h.mem x hx _ atY j q z hj hz',List.mem_append,List.mem_singleton]
       constructor
       · rintro (q1 | q1)
         · exact q1
         · exact absurd (by omega) this
       · exact .inl
   · rcases key q z hz with ⟨rfl,rfl⟩ | ⟨hqr,hz'⟩
     · rw [h.mem x hx l hl' j q rc hj hr,hw',hw]
       have:x ≠ lit:=by rintro rfl; exact n1 rfl
       have:x ≠ y:=by rintro rfl; exact n2 rfl
       simp [*]
     · exact h.mem x hx l hl' j q z hj hz'
 · rcases key q z hz with ⟨rfl,rfl⟩ | ⟨hqr,hz'⟩
   · exfalso
     unfold watO at hwo
     dsimp only at hwo
     rw [e0,e1,ha,hy] at hwo
     simp only [Option.some.injEq] at hwo
     rcases hwo with ⟨rfl,rfl⟩ | ⟨rfl,rfl⟩
     · obtain ⟨q1,_⟩:=h.ok q hq rc hr a lit (.inl ⟨ha,h1⟩) hm
       exact hT.anti q1 hf
     · exact hyf (List.mem_of_mem_take hm)
   · exact h.ok q hq z hz' w o hwo hm
theorem WI.finish {n:Nat} {st:St} {W:List (List Int)} {h:Nat} {lit:Int} {keep:List Int} (w:WI n st (W.set (idx lit).toNat keep) h) (hlit:LitN n lit) (ht:st.trail[h]?=some (-lit))
   (hk:∀ (i:Nat) r rc,(i:Int) ∈ keep→st.clauses[i]?=some r→st.R r=some rc→∀ o,watO rc lit o→o ∈ st.trail∧lv st.level o≤lv st.level lit):WI n st (W.set (idx lit).toNat keep) (h + 1):=by
 have hlt:h < st.trail.length:=(List.getElem?_eq_some_iff.1 ht).1
 refine ⟨w.wl,w.nd,w.cl,w.back,w.mem,fun r hr rc hrc a o ho hm => ?_,by omega,fun q hq => by have:=w.lim q hq; omega⟩
 rw [List.take_add_one,ht] at hm
 rcases List.mem_append.1 hm with hm | hm
 · exact w.ok r hr rc hrc a o ho hm
 · have e:a=lit:=by
     have:-a=-lit:=by simpa using hm
     omega
   subst e
   obtain ⟨i,hi⟩:=List.mem_iff_getElem?.1 hr
   have hl:=idx_lt' hlit
   have hW:=w.wl
   rw [List.length_set] at hW
   have hat:(W.set (idx a).toNat keep)[(idx a).toNat]?=some keep:=List.getElem?_set_self (by omega)
   have hwt:wat rc a:=by
     rcases ho with ⟨h1,_⟩ | ⟨h1,_⟩
     · exact .inl h1
     · exact .inr h1
   exact hk i r rc ((w.mem a hlit keep hat i r rc hi hrc).2 hwt) hi hrc o ho
theorem WI.undo {n:Nat} {st:St} {W:List (List Int)} {p:Nat} (h:WI n st W p) (hT:Tr n st.value st.level st.trail st.limits) {j:Nat} (hj:j < st.limits.length):WI n (st.undo j) W st.limits[j]:=by
 have e:st.undo j=st.undoTo j st.limits[j]:=by unfold St.undo; rw [dif_pos hj]
 have hlim:=h.lim _ (List.getElem_mem hj)
 have hp:=h.hp
 rw [e]
 refine ⟨h.wl,h.nd,h.cl,h.back,h.mem,fun r hr rc hrc w o ho hm => ?_,?_,fun q hq => ?_⟩
 · replace hm:-w ∈ (st.trail.take st.limits[j]).take st.limits[j]:=hm
   rw [List.take_take,Nat.min_self] at hm
   obtain ⟨q1,q2⟩:=h.ok r hr rc hrc w o ho ((List.take_subset_take_left _ hlim) hm)
   refine ⟨?_,q2⟩
   show o ∈ st.trail.take st.limits[j]
   rw [← hT.lv_take hj q1]
   have:=(hT.lv_take hj (List.mem_of_mem_take hm)).2 hm
   rw [lv_neg] at this
   omega
 · show st.limits[j]≤(st.trail.take st.limits[j]).length
   rw [List.length_take]; omega
 · replace hq:q ∈ st.limits.take j:=hq
   obtain ⟨i,hi⟩:=List.mem_iff_getElem?.1 hq
   rw [List.getElem?_take] at hi
   split at hi
   · rename_i hij
     obtain ⟨h1,h2⟩:=List.getElem?_eq_some_iff.1 hi
     have:=List.pairwise_iff_getElem.1 hT.srt i j h1 hj hij
     omega
   · cases hi
theorem WI.add {n:Nat} {st:St} {W:List (List Int)} {p:Nat} (h:WI n st W p) {r:Nat} {rc:RC} (hr:st.R r=some rc) (hnew:r ∉ st.clauses) (h2:2≤rc.lits.length) (hl:∀ x ∈ rc.lits,LitN n x) (hd:rc.lits.Pairwise fun a b => vr a ≠ vr b)
   (hok:∀ w o,watO rc w o→-w ∈ st.trail.take p→o ∈ st.trail∧lv st.level o≤lv st.level w):WI n { st with clauses:=st.clauses ++ [r] } (addW W (rc.lits.take 2) st.clauses.length) p:=by
 obtain ⟨lits,step,cyc⟩:=rc
 match lits,h2 with
 | a :: b :: t,_ =>
   have hab:vr a ≠ vr b:=List.rel_of_pairwise_cons hd List.mem_cons_self
   have ha:=hl a List.mem_cons_self
   have hb:=hl b (List.mem_cons_of_mem _ List.mem_cons_self)
   have hne:(idx a).toNat ≠ (idx b).toNat:=fun e => hab (by rw [idx_inj ha hb e])
   have hW:=h.wl
   have e:addW W ((a :: b :: t).take 2) st.clauses.length=(W.modify (idx a).toNat (· ++ [(st.clauses.length:Int)])).modify (idx b).toNat (· ++ [(st.clauses.length:Int)]):=rfl
   have hw:∀ x,wat ⟨a :: b :: t,step,cyc⟩ x ↔ x=a ∨ x=b:=by
     intro x; unfold wat; simp [eq_comm]
   have newAt:∀ (j:Nat) l,(addW W ((a :: b :: t).take 2) st.clauses.length)[j]?=some l→∃ l0,W[j]?=some l0∧((j=(idx a).toNat ∨ j=(idx b).toNat)∧l=l0 ++ [(st.clauses.length:Int)] ∨ (j ≠ (idx a).toNat∧j ≠ (idx b).toNat)∧l=l0):=by
     intro j l hj
     rw [e,List.getElem?_modify,List.getElem?_modify] at hj
     cases hWj:W[j]? with
     | none => rw [hWj] at hj; simp at hj
     | some l0 =>
       rw [hWj] at hj
       refine ⟨l0,rfl,?_⟩
       by_cases q1:j=(idx a).toNat
       · have q2:j ≠ (idx b).toNat:=fun e => hne (q1.symm.trans e)
         simp [q1,hne,Ne.symm hne] at hj
         exact .inl ⟨.inl q1,hj.symm⟩
       · by_cases q2:j=(idx b).toNat
         · simp [q2,hne,Ne.symm hne] at hj
           exact .inl ⟨.inr q2,hj.symm⟩
         · simp [Ne.symm q1,Ne.symm q2] at hj
           exact .inr ⟨⟨q1,q2⟩,hj.symm⟩
   have old:∀ {j:Nat} {l0:List Int},W[j]?=some l0→(st.clauses.length:Int) ∉ l0:=fun hj hm => by
     have:=((h.back _ _ hj).2 _ hm).2; omega
   refine ⟨by rw [e,List.length_modify,List.length_modify]; exact hW,?_,fun q hq => ?_,fun j l hj => ?_,fun x hx l hlx i q z hi hz => ?_,fun q hq z hz w o ho hm => ?_,h.hp,h.lim⟩
   · show (st.clauses ++ [r]).Nodup
     exact List.nodup_append.2 ⟨h.nd,by simp,fun x hx y hy => by rw [List.mem_singleton] at hy; subst hy; rintro rfl; exact hnew hx⟩
   · rcases List.mem_append.1 hq with hq | hq
     · exact h.cl q hq
     · rw [List.mem_singleton] at hq; subst hq
       exact ⟨_,hr,by simp⟩
   · obtain ⟨l0,hl0,hc⟩:=newAt j l hj
     obtain ⟨n0,r0⟩:=h.back j l0 hl0
     have hlen:(((st.clauses ++ [r]).length:Nat):Int)=st.clauses.length + 1:=by simp
     show l.Nodup∧∀ i ∈ l,0≤i∧i < (((st.clauses ++ [r]).length:Nat):Int)
     rw [hlen]
     rcases hc with ⟨_,rfl⟩ | ⟨_,rfl⟩
     · refine ⟨List.nodup_append.2 ⟨n0,by simp,fun x hx y hy => by rw [List.mem_singleton] at hy; subst hy; rintro rfl; exact old hl0 hx⟩,fun i hi => ?_⟩
       rcases List.mem_append.1 hi with hi | hi
       · have:=r0 i hi; omega
       · rw [List.mem_singleton] at hi; omega
     · exact ⟨n0,fun i hi => by have:=r0 i hi; omega⟩
   · replace hi:(st.clauses ++ [r])[i]?=some q:=hi
     obtain ⟨l0,hl0,hc⟩:=newAt _ l hlx
     by_cases hil:i < st.clauses.length
     · rw [List.getElem?_append_left hil] at hi
       rw [← h.mem x hx l0 hl0 i q z hi hz]
       rcases hc with ⟨_,rfl⟩ | ⟨_,rfl⟩
       · simp only [List.mem_append,List.mem_singleton,or_iff_left_iff_imp]
         intro e; omega
       · exact Iff.rfl
     · rw [List.getElem?_append_right (by omega)] at hi
       have hi0:i=st.clauses.length:=by
         have:=(List.getElem?_eq_some_iff.1 hi).1
         simp at this; omega
       subst hi0
       simp at hi
       subst hi
       rw [hr] at hz; cases hz
       rw [hw x]
       rcases hc with ⟨q1,rfl⟩ | ⟨q1,rfl⟩
       · refine ⟨fun _ => ?_,fun _ => by simp⟩
         rcases q1 with q1 | q1
         · exact .inl (idx_inj hx ha q1)
         · exact .inr (idx_inj hx hb q1)
       · refine ⟨fun hm => absurd hm (old hl0),?_⟩
         rintro (rfl | rfl)
         · exact absurd rfl q1.1
         · exact absurd rfl q1.2
   · rcases List.mem_append.1 hq with hq | hq
     · exact h.ok q hq z hz w o ho hm
     · rw [List.mem_singleton] at hq; subst hq
       rw [hr] at hz; cases hz
       exact hok w o ho hm
theorem WI.same {n:Nat} {st st':St} {W:List (List Int)} {p:Nat} (h:WI n st W p) (s:Same st st'):WI n st' W p:=by
 have hw:∀ {q:Nat} {y:RC},st'.R q=some y→∃ z,st.R q=some z∧z.lits=y.lits:=fun hq => by
   obtain ⟨z,h1,h2⟩:=s.R' hq
   exact ⟨z,h1,h2⟩
 refine ⟨h.wl,by rw [s.clauses]; exact h.nd,fun q hq => ?_,fun j l hj => ?_,fun x hx l hl i q y hi hy => ?_,fun q hq y hy w o ho hm => ?_,by rw [s.trail]; exact h.hp,by rw [s.limits]; exact h.lim⟩
 · rw [s.clauses] at hq
   obtain ⟨y,h1,h2⟩:=h.cl q hq
   obtain ⟨z,h3,h4⟩:=s.R h1
   exact ⟨z,h3,by rw [h4]; exact h2⟩
 · rw [s.clauses]; exact h.back j l hj
 · rw [s.clauses] at hi
   obtain ⟨z,h1,h2⟩:=hw hy
   rw [h.mem x hx l hl i q z hi h1]
   unfold wat; rw [h2]
 · rw [s.clauses] at hq
   rw [s.trail] at hm ⊢
   rw [s.level]
   obtain ⟨z,h1,h2⟩:=hw hy
   refine h.ok q hq z h1 w o ?_ hm
   unfold watO at ho ⊢; rw [h2]; exact ho
theorem Inv.perm {F:Fm} {n:Nat} {st:St} (h:Inv F n st) {r:Nat} {rc rc':RC} (hr:st.R r=some rc) (hp:rc'.lits.Perm rc.lits) (hs:rc'.step=rc.step) (hc:rc'.cyc=rc.cyc):Inv F n (st.setR r rc'):=by
 obtain ⟨cs,hcs,hR⟩:=h.stp
 have key:∀ q y,(st.setR r rc').R q=some y→∃ z,st.R q=some z∧(∀ x,x ∈ y.lits ↔ x ∈ z.lits)∧y.lits.Perm z.lits∧y.step=z.step∧y.cyc=z.cyc:=by
   intro q y hy
   replace hy:(if q=r then some rc' else st.R q)=some y:=hy
   by_cases e:q=r
   · rw [if_pos e] at hy; cases hy; subst e; exact ⟨rc,hr,fun x => hp.mem_iff,hp,hs,hc⟩
   · rw [if_neg e] at hy; exact ⟨y,hy,fun _ => Iff.rfl,.refl _,rfl,rfl⟩
 refine ⟨h.tr,h.wlen,⟨cs,hcs,fun q y hq => ?_⟩,fun pre x post e hl => ?_⟩
 · obtain ⟨z,h1,h2,h3,h4,h5⟩:=key q y hq
   obtain ⟨g1,g2,g3,g4⟩:=hR q z h1
   refine ⟨fun x hx => g1 x ((h2 x).1 hx),(h3.pairwise_iff (fun hab => Ne.symm hab)).2 g2,fun h0 => ?_,fun h0 => ?_⟩
   · obtain ⟨c,k1,k2⟩:=g3 (by omega)
     exact ⟨c,by rw [h4]; exact k1,fun x => (k2 x).trans (h2 x).symm⟩
   · obtain ⟨c,k1,k2⟩:=g4 (by omega)
     exact ⟨c,by rw [h5]; exact k1,fun x => (k2 x).trans (h2 x).symm⟩
 · obtain ⟨q,z,h1,h2,h3,h4⟩:=h.imp pre x post e hl
   by_cases e:q=r
   · subst e
     rw [hr] at h2; cases h2
     exact ⟨q,rc',h1,if_pos rfl,hp.mem_iff.2 h3,fun y hy => h4 y (hp.mem_iff.1 hy)⟩
   · exact ⟨q,z,h1,(if_neg e).trans h2,h3,h4⟩
structure PSame (a b:St):Prop where
 steps:b.steps=a.steps
 clauses:b.clauses=a.clauses
 limits:b.limits=a.limits
 empty:b.empty=a.empty
 units:b.units=a.units
 R:∀ r rc,a.R r=some rc→∃ rc',b.R r=some rc'∧rc'.lits.Perm rc.lits∧rc'.step=rc.step∧rc'.cyc=rc.cyc
 trail:∃ e,b.trail=a.trail ++ e
 lev:∀ x ∈ a.trail,lv b.level x=lv a.level x
theorem PSame.refl (a:St):PSame a a:=⟨rfl,rfl,rfl,rfl,rfl,fun _ rc h => ⟨rc,h,.refl _,rfl,rfl⟩,⟨[],by simp⟩,fun _ _ => rfl⟩
theorem PSame.trans {a b c:St} (h:PSame a b) (k:PSame b c):PSame a c:=by
 refine ⟨k.steps.trans h.steps,k.clauses.trans h.clauses,k.limits.trans h.limits,k.empty.trans h.empty,k.units.trans h.units,fun r rc hr => ?_,?_,fun x hx => ?_⟩
 · obtain ⟨rc1,h1,h2,h3,h4⟩:=h.R r rc hr
   obtain ⟨rc2,k1,k2,k3,k4⟩:=k.R r rc1 h1
   exact ⟨rc2,k1,k2.trans h2,k3.trans h3,k4.trans h4⟩
 · obtain ⟨e,he⟩:=h.trail
   obtain ⟨e',he'⟩:=k.trail
   exact ⟨e ++ e',by rw [he',he,List.append_assoc]⟩
 · obtain ⟨e,he⟩:=h.trail
   rw [k.lev x (by rw [he]; exact List.mem_append_left _ hx),h.lev x hx]
theorem PSame.setR {a:St} {r:Nat} {rc rc':RC} (hr:a.R r=some rc) (hp:rc'.lits.Perm rc.lits) (hs:rc'.step=rc.step) (hc:rc'.cyc=rc.cyc):PSame a (a.setR r rc'):=by
 refine ⟨rfl,rfl,rfl,rfl,rfl,fun q y hq => ?_,⟨[],by simp [St.setR]⟩,fun _ _ => rfl⟩
 by_cases e:q=r
 · subst e; rw [hr] at hq; cases hq; exact ⟨rc',if_pos rfl,hp,hs,hc⟩
 · exact ⟨y,(if_neg e).trans hq,.refl _,rfl,rfl⟩
theorem PSame.newR {a:St} {r:Nat} (hr:a.R r=none) (rc':RC):PSame a (a.setR r rc'):=by
 refine ⟨rfl,rfl,rfl,rfl,rfl,fun q y hq => ?_,⟨[],by simp [St.setR]⟩,fun _ _ => rfl⟩
 have e:q ≠ r:=by rintro rfl; rw [hr] at hq; cases hq
 exact ⟨y,(if_neg e).trans hq,.refl _,rfl,rfl⟩
theorem PSame.assign {n:Nat} {a:St} (hT:Tr n a.value a.level a.trail a.limits) {x:Int} (hx:LitN n x) (h1:x ∉ a.trail) (h2:-x ∉ a.trail) (r:Option Nat):PSame a (a.assign x r):=by
 refine ⟨rfl,rfl,rfl,rfl,rfl,fun _ y hq => ⟨y,hq,.refl _,rfl,rfl⟩,⟨[x],rfl⟩,fun y hy => lv_set fun e => ?_⟩
 rcases vr_eq hx.1 (hT.lit y hy).1 e.symm with rfl | rfl
 · exact h1 hy
 · exact h2 hy
theorem TSeq.psame {F:Fm} {n:Nat} {a b:St} (h:TSeq F n a b) (hI:Inv F n a):PSame a b:=by
 induction h with
 | refl => exact .refl _
 | @snoc b r rc x h q1 q2 q3 q4 q5 q6 q7 ih =>
   refine ih.trans ((PSame.newR q1 rc).trans ?_)
   exact PSame.assign (n:=n) ((h.inv hI).newR q1 q2).tr q3 (by exact q4) (by exact q5) _
theorem TSeq.wi {F:Fm} {n:Nat} {a b:St} (h:TSeq F n a b) (hI:Inv F n a) {W:List (List Int)} {p:Nat} (hw:WI n a W p):WI n b W p:=by
 induction h with
 | refl => exact hw
 | snoc h q1 q2 q3 q4 q5 q6 q7 ih => exact (ih.newR q1 _).assign ((h.inv hI).newR q1 q2).tr q3 q4 q5 _
end Go.Sv
namespace Go.Proofs.Ythfnjogadngfiaa
open Go.Sl Go.Sv
theorem Sol.setLit {σ:PH} {T:Nat→Tag} {s:Nat} {g:Low} (h:Sol σ T s g) {r:Nat} {x:RL} (hx:g.R r=some x) {i:Nat} (hi:i < x.lits.length) :
   ∃ p,x.l.a=some p∧(∃ u,σ.cell? (p.add i)=some u)∧σ.froz (p.add i)=some false∧∀ v:Int,Sol (σ.setCell (p.add i) (.int .i64 v)) T s (g.setR r { x with lits:=x.lits.set i v })∧Did σ T (σ.setCell (p.add i) (.int .i64 v)) T:=by
 have hO:=h.rl r x hx
 obtain ⟨p,hp,h1,h2,hb,h3⟩:=hO.1.set (i:=i) (by rw [ints_len]; exact hi)
 refine ⟨p,hp,h1,h2,fun v => ?_⟩
 have hst:Step (fun b => b=p.block) σ (σ.setCell (p.add i) (.int .i64 v)):=setCell_step.weaken fun b hb' => hb'.trans hb
 have htp:T p.block=.lits r:=hO.2 p hp
 have ne:∀ b t,T b=t→t ≠ .lits r→¬ b=p.block:=by
   rintro b t h1 h2 rfl
   exact h2 (h1.symm.trans htp)
 have key:∀ q y,(g.setR r { x with lits:=x.lits.set i v }).R q=some y→(q=r∧y={ x with lits:=x.lits.set i v }) ∨ (q ≠ r∧g.R q=some y):=by
   intro q y hy
   replace hy:(if q=r then some _ else g.R q)=some y:=hy
   by_cases e:q=r
   · rw [if_pos e] at hy; cases hy; exact .inl ⟨e,rfl⟩
   · rw [if_neg e] at hy; exact .inr ⟨e,hy⟩
 refine ⟨⟨h.ff,h.blk.keep hst (ne s _ h.tag (by simp)),h.tag,fun j e' size' hj => (h.fld j e' size' hj).keep hst fun b hb => ne b _ hb (by simp),hst.same _ _ h.map (ne _ _ h.mtag (by simp)),h.mtag,h.keys,h.wv,fun j sl l hj => (h.wat j sl l hj).keep hst fun b hb => ne b _ hb (by simp),
   fun q y hq => ?_,fun q y hq => ?_,fun q y hq => ?_,fun q y hq => ?_⟩,hst.weaken ?_,fun _ _ => rfl⟩
 · rcases key q y hq with ⟨rfl,rfl⟩ | ⟨_,hq'⟩
   · exact (h.rblk q x hx).keep hst (ne q _ (h.rtag q x hx) (by simp))
   · exact (h.rblk q y hq').keep hst (ne q _ (h.rtag q y hq') (by simp))
 · rcases key q y hq with ⟨rfl,rfl⟩ | ⟨_,hq'⟩
   · exact h.rtag q x hx
   · exact h.rtag q y hq'
 · rcases key q y hq with ⟨rfl,rfl⟩ | ⟨e,hq'⟩
   · refine ⟨?_,hO.2⟩
     show Own _ 3 1 x.l.a x.l.n x.l.c (ints (x.lits.set i v))
     rw [ints_set]
     exact h3 _
   · exact (h.rl q y hq').keep hst fun b hb => ne b _ hb (by simp [e])
 · rcases key q y hq with ⟨rfl,rfl⟩ | ⟨_,hq'⟩
   · exact (h.rc q x hx).keep hst fun b hb => ne b _ hb (by simp)
   · exact (h.rc q y hq').keep hst fun b hb => ne b _ hb (by simp)
 · rintro b rfl
   rw [htp]; simp
theorem Sol.putW {σ:PH} {T:Nat→Tag} {s:Nat} {g:Low} (h:Sol σ T s g) {j:Nat} (hj:j < g.W.length) {sl:Sli} {l:List Int} (ho:OwnT σ T (.watch j) 3 1 sl (ints l)) :
   ∃ p,(g.F 7).a=some p∧(∃ u,σ.cell? (p.add j)=some u)∧σ.froz (p.add j)=some false∧Sol (σ.setCell (p.add j) sl.v) T s (g.setW j sl l)∧Did σ T (σ.setCell (p.add j) sl.v) T:=by
 have hO:=h.fld 7 33 1 rfl
 obtain ⟨p,hp,h1,h2,hb,h3⟩:=hO.1.set (i:=j) (by rw [h.wv,List.length_map]; exact hj)
 refine ⟨p,hp,h1,h2,?_⟩
 have hst:Step (fun b => b=p.block) σ (σ.setCell (p.add j) sl.v):=setCell_step.weaken fun b hb' => hb'.trans hb
 have htp:T p.block=.fld 7:=hO.2 p hp
 have ne:∀ b t,T b=t→t ≠ .fld 7→¬ b=p.block:=by
   rintro b t h1 h2 rfl
   exact h2 (h1.symm.trans htp)
 refine ⟨⟨h.ff,h.blk.keep hst (ne s _ h.tag (by simp)),h.tag,fun k e size hk => ?_,hst.same _ _ h.map (ne _ _ h.mtag (by simp)),h.mtag,h.keys,?_,fun i sl' l' hi => ?_,
   fun r x hr => (h.rblk r x hr).keep hst (ne r _ (h.rtag r x hr) (by simp)),h.rtag,fun r x hr => (h.rl r x hr).keep hst fun b hb => ne b _ hb (by simp),fun r x hr => (h.rc r x hr).keep hst fun b hb => ne b _ hb (by simp)⟩,hst.weaken ?_,fun _ _ => rfl⟩
 · by_cases e1:k=7
   · subst e1
     cases hk
     refine ⟨?_,hO.2⟩
     show Own _ 33 1 (g.F 7).a (g.F 7).n (g.F 7).c (if 7=7 then (g.V 7).set j _ else g.V 7)
     rw [if_pos rfl]
     exact h3 _
   · have:=(h.fld k e size hk).keep hst fun b hb => ne b _ hb (by simpa using e1)
     show OwnT _ _ _ _ _ (g.F k) (if k=7 then (g.V 7).set j _ else g.V k)
     rw [if_neg e1]
     exact this
 · show (if 7=7 then (g.V 7).set j _ else g.V 7)=(g.W.set j _).map _
   rw [if_pos rfl,h.wv,List.map_set]
 · replace hi:(g.W.set j (sl,l))[i]?=some (sl',l'):=hi
   rw [List.getElem?_set] at hi
   split at hi
   · rename_i e1
     subst e1
     cases hi
     exact ho.keep hst fun b hb => ne b _ hb (by simp)
   · exact (h.wat i sl' l' hi).keep hst fun b hb => ne b _ hb (by simp)
 · rintro b rfl
   rw [htp]; simp
theorem r54h {σ:PH} {T:Nat→Tag} {s:Nat} {g:Low} (H:Sol σ T s g) {st:St} (A:Abs g st) {x:Int} (hl:Lit x) (h0:x ≠ 0) (r:Option Nat) (hv:vr x < st.value.length) (hlv:st.level.length=st.value.length) (hw:st.why.length=st.value.length)
   (ht:st.trail.length≤1000000) :
   C 54 #[.pointer (some (ptr s)),.int .i64 x,.pointer (r.map ptr)] (fun v τ => v=.tuple #[]∧∃ T' g',Did σ T τ T'∧Sol τ T' s g'∧g'.ff=g.ff∧Abs g' (st.assign x r)∧g'.W=g.W∧g'.F 17=g.F 17) σ:=by
 have n8:=H.n8 A; have n9:=H.n9 A; have n10:=H.n10 A; have n11:=H.n11 A; have n12:=H.n12 A
 have l8:=H.len (k:=8) rfl
 have l9:=H.len (k:=9) rfl
 have l10:=H.len (k:=10) rfl
 refine (c54 H hl h0 (r.map ptr) (by rw [vr_idx h0]; omega) (by rw [vr_idx h0]; omega) (by rw [vr_idx h0]; omega) (by omega)).mono hb ?_
 rintro _ τ ⟨rfl,T',sl,D,hn,H'⟩
 refine ⟨rfl,T',_,D,H',rfl,?_,rfl,rfl⟩
 rw [vr_idx h0]
 refine ⟨A.steps,A.clauses,A.W,?_,?_,?_,?_,A.limits,A.head,?_,A.empty,A.units,A.R⟩
 · show (g.V 8).set _ _=_
   rw [A.value,← ints_set]; rfl
 · show (g.V 9).set _ _=_
   rw [A.level,n12,← nats_set]; rfl
 · show (g.V 10).set _ _=_
   rw [A.why,← optrs_set]; rfl
 · show g.V 11 ++ _=_
   rw [A.trail]; simp [ints,St.assign]
 · obtain ⟨fl,h1,h2⟩:=A.act
   exact ⟨fl,h1,by show _=(st.value.set _ _).length; rw [List.length_set]; exact h2⟩
theorem r54g {σ:PH} {T:Nat→Tag} {s:Nat} {g:Low} (H:Sol σ T s g) {st:St} (A:Abs g st) {x:Int} (hl:Lit x) (h0:x ≠ 0) (r:Option Nat) (hv:vr x < st.value.length) (hlv:st.level.length=st.value.length) (hw:st.why.length=st.value.length)
   (ht:st.trail.length≤1000000) :
   C 54 #[.pointer (some (ptr s)),.int .i64 x,.pointer (r.map ptr)] (fun v τ => v=.tuple #[]∧∃ T' g',Did σ T τ T'∧Sol τ T' s g'∧g'.ff=g.ff∧Abs g' (st.assign x r)∧g'.W=g.W) σ:=by
 refine (r54h H A hl h0 r hv hlv hw ht).mono hb ?_
 rintro v τ ⟨h1,T',g',h2,h3,h4,h5,h6,_⟩
 exact ⟨h1,T',g',h2,h3,h4,h5,h6⟩
theorem Abs.setLit {g:Low} {st:St} (a:Abs g st) {r:Nat} {x:RL} (hx:g.R r=some x) {rc:RC} (hr:st.R r=some rc) (ls:List Int):Abs (g.setR r { x with lits:=ls }) (st.setR r { rc with lits:=ls }):=by
 have e:rc=x.rc:=by have:=a.R r; rw [hx,hr] at this; simpa using this.symm
 subst e
 refine ⟨?_,a.clauses,a.W,a.value,a.level,a.why,a.trail,a.limits,a.head,a.act,a.empty,a.units,fun q => ?_⟩
 · obtain ⟨xs,q1,q2⟩:=a.steps
   refine ⟨xs,q1,q2.cyc fun q z hq => ?_⟩
   by_cases e:q=r
   · subst e; rw [hx] at hq; cases hq; exact ⟨_,if_pos rfl,rfl,rfl⟩
   · exact ⟨z,(if_neg e).trans hq,rfl,rfl⟩
 · show (if q=r then some _ else g.R q).map RL.rc=if q=r then some _ else st.R q
   by_cases e:q=r
   · rw [if_pos e,if_pos e]; rfl
   · rw [if_neg e,if_neg e]; exact a.R q
theorem Abs.setW {g:Low} {st:St} (a:Abs g st) (j:Nat) (sl:Sli) (l:List Int):Abs (g.setW j sl l) { st with W:=st.W.set j l }:=by
 have k:∀ k,k ≠ 7→(g.setW j sl l).V k=g.V k:=fun k hk => if_neg hk
 refine ⟨?_,(k 6 (by decide)).trans a.clauses,?_,(k 8 (by decide)).trans a.value,(k 9 (by decide)).trans a.level,(k 10 (by decide)).trans a.why,(k 11 (by decide)).trans a.trail,(k 12 (by decide)).trans a.limits,a.head,?_,a.empty,(k 17 (by decide)).trans a.units,a.R⟩
 · obtain ⟨xs,q1,q2⟩:=a.steps
   exact ⟨xs,(k 4 (by decide)).trans q1,q2⟩
 · show (g.W.set j (sl,l)).map (·.2)=st.W.set j l
   rw [List.map_set,a.W]
 · obtain ⟨fl,h1,h2⟩:=a.act
   exact ⟨fl,(k 14 (by decide)).trans h1,h2⟩
def St.setW (st:St) (W:List (List Int)):St:={ st with W:=W }
theorem Sol.watAt {σ:PH} {T:Nat→Tag} {s:Nat} {g:Low} (H:Sol σ T s g) {j:Nat} {sl:Sli} {l:List Int} (hj:g.W[j]?=some (sl,l)) :
   ∃ q,(g.F 7).a=some q∧σ.cell? (q.add j)=some sl.v∧j < (g.F 7).n∧sl.n=l.length∧Own σ 3 1 sl.a sl.n sl.c (ints l)∧(∀ p,sl.a=some p→p.block ≠ s):=by
 have hjl:=(List.getElem?_eq_some_iff.1 hj).1
 obtain ⟨q7,hq7,hc7⟩:=(H.fld 7 33 1 rfl).1.get (i:=j) (v:=sl.v) (by rw [H.wv,List.getElem?_map,hj]; rfl)
 have h7n:g.W.length=(g.F 7).n:=by have:=H.len (k:=7) rfl; rw [H.wv,List.length_map] at this; exact this
 have hO:=H.wat j sl l hj
 refine ⟨q7,hq7,hc7,by omega,own_len hO.1,hO.1,fun p hp e => ?_⟩
 have t1:=hO.2 p hp
 rw [e] at t1
 have:=H.tag
 rw [t1] at this
 cases this
theorem r53g {σ:PH} {T:Nat→Tag} {s:Nat} {g:Low} (H:Sol σ T s g) {st:St} (A:Abs g st) {x:Int} (hl:Lit x) (hv:∀ y ∈ st.value,Lit y) :
   C 53 #[.pointer (some (ptr s)),.int .i64 x] (fun v τ => v=.int .i64 (Go.Sv.valS st.value x)∧τ=σ) σ:=r53 (ff:=g.ff) ⟨g,H,rfl,A⟩ hl hv
theorem c95 {σ:PH} {T:Nat→Tag} {s:Nat} {g:Low} (H:Sol σ T s g) {st:St} (A:Abs g st) {n:Nat} (hn:n≤1024) (hvl:∀ y ∈ st.value,Lit y) (hW:st.W.length=2 * n) (hWn:∀ e ∈ st.W,e.length≤5000000000000)
   {r:Nat} {x:RL} (hx:g.R r=some x) (h2:2≤x.lits.length) (hln:x.lits.length≤1000000) (hl:∀ y ∈ x.lits,LitN n y) (ci:Int) {Q:Value→PH→Prop}
   (hno:(∀ (k:Nat) y,2≤k→x.lits[k]?=some y→Go.Sv.valS st.value y < 0)→Q (.bool false) σ)
   (hyes:∀ τ T' g' (k:Nat) y,2≤k→x.lits[k]?=some y→0≤Go.Sv.valS st.value y→Did σ T τ T'→Sol τ T' s g'→g'.ff=g.ff→Abs g' (St.setW (st.setR r { x.rc with lits:=swp x.lits 1 k }) (st.W.modify (idx y).toNat (· ++ [ci])))→(∀ j,j ≠ (idx y).toNat→g'.W[j]?=g.W[j]?)→Q (.bool true) τ) :
   C 95 #[.pointer (some (ptr s)),.int .i64 ci,.slice x.l.a x.l.n x.l.c] Q σ:=by
 refine go (E95_0 _ _ _ _ _ _ _ _) ?_
 unfold S95_0 S95_1
 have hO:=H.rl r x hx
 have hxn:=own_len hO.1
 have hr:st.R r=some x.rc:=by rw [← A.R r,hx]; rfl
 refine iloopS_for (G:=Unit) (fun k _ => (some (ptr s),ci,x.l.a,x.l.n,x.l.c,((k + 2:Nat):Int))) (fun k _ υ => σ=υ∧∀ (i:Nat) y,2≤i→i < k + 2→x.lits[i]?=some y→Go.Sv.valS st.value y < 0) (x.lits.length - 2) ?_ (g:=()) ⟨rfl,fun i y h1 h3 => by omega⟩
 rintro k _ _ hk ⟨rfl,hall⟩ R hR
 unfold S95_2
 dsimp only
 refine br_dec.2 ⟨fun hlt => ?_,fun hge => ?_⟩
 · have hkl:k + 2 < x.lits.length:=by omega
   obtain ⟨y,hy⟩:∃ y,x.lits[k + 2]?=some y:=⟨_,List.getElem?_eq_getElem hkl⟩
   obtain ⟨b,hb1⟩:∃ b,x.lits[1]?=some b:=⟨_,List.getElem?_eq_getElem (by omega)⟩
   have hylit:=hl y (List.mem_of_getElem? hy)
   obtain ⟨p,hp,hcy⟩:=hO.1.get (i:=k + 2) (v:=.int .i64 y) (by simp [ints,hy])
   obtain ⟨p',hp',hcb⟩:=hO.1.get (i:=1) (v:=.int .i64 b) (by simp [ints,hb1])
   obtain rfl:p=p':=Option.some.inj (hp.symm.trans hp')
   have ek:Int.toNat ((k + 2:Nat):Int) * 1=k + 2:=by omega
   have e1:Int.toNat (1:Int) * 1=1:=rfl
   simp only [ek,e1]
   refine ⟨p,hp,by omega,by omega,_,hcy,y,rfl,(r53g H A (litN hylit hn) hvl).mono hb ?_⟩
   rintro _ τ ⟨rfl,eτ⟩
   obtain rfl:=eτ.symm
   refine ⟨_,PH.sub.refl _,_,rfl,br_dec.2 ⟨fun hv => ?_,fun hv => ?_⟩⟩
   ·
     obtain ⟨p1,hp1,u1,f1,s1⟩:=H.setLit hx (i:=1) (by omega)
     obtain rfl:p=p1:=Option.some.inj (hp.symm.trans hp1)
     obtain ⟨H1,D1⟩:=s1 y
     have A1:=A.setLit hx hr (x.lits.set 1 y)
     obtain ⟨p2,hp2,u2,f2,s2⟩:=H1.setLit (r:=r) (x:={ x with lits:=x.lits.set 1 y }) (if_pos rfl) (i:=k + 2) (by simpa using hkl)
     obtain rfl:p=p2:=Option.some.inj (hp.symm.trans hp2)
     obtain ⟨H2,D2⟩:=s2 b
     have A2:=A1.setLit (r:=r) (x:={ x with lits:=x.lits.set 1 y }) (rc:={ x.rc with lits:=x.lits.set 1 y }) (if_pos rfl) (if_pos rfl) ((x.lits.set 1 y).set (k + 2) b)
     have eg:((g.setR r { x with lits:=x.lits.set 1 y }).setR r { x with lits:=(x.lits.set 1 y).set (k + 2) b })=g.setR r { x with lits:=swp x.lits 1 (k + 2) }:=by
       unfold Low.setR swp
       congr 1
       · funext q
         by_cases e:q=r
         · simp [e,List.getD_eq_getElem?_getD,hy,hb1]
         · simp [e]
     have es:((st.setR r { x.rc with lits:=x.lits.set 1 y }).setR r { x.rc with lits:=(x.lits.set 1 y).set (k + 2) b })=st.setR r { x.rc with lits:=swp x.lits 1 (k + 2) }:=by
       unfold St.setR swp
       congr 1
       · funext q
         by_cases e:q=r
         · simp [e,List.getD_eq_getElem?_getD,hy,hb1]
         · simp [e]
     replace H2:Sol ((σ.setCell (p.add 1) (.int .i64 y)).setCell (p.add (k + 2)) (.int .i64 b)) T s (g.setR r { x with lits:=swp x.lits 1 (k + 2) }):=eg ▸ H2
     replace A2:Abs (g.setR r { x with lits:=swp x.lits 1 (k + 2) }) (st.setR r { x.rc with lits:=swp x.lits 1 (k + 2) }):=by
       have:=A2
       rw [← eg,← es]; exact this
     have hO2:=H2.rl r { x with lits:=swp x.lits 1 (k + 2) } (if_pos rfl)
     obtain ⟨p3,hp3,hc3⟩:=hO2.1.get (i:=1) (v:=.int .i64 y) (by
       show (ints (swp x.lits 1 (k + 2)))[1]?=_
       have:=swp_left (l:=x.lits) (i:=1) (j:=k + 2) (by omega) hkl
       simp [ints,this,hy])
     obtain rfl:p=p3:=Option.some.inj (hp.symm.trans hp3)
     have hjl:(idx y).toNat < g.W.length:=by rw [A.nW,hW]; exact idx_lt hylit
     obtain ⟨⟨sl,l⟩,hj⟩:∃ e,g.W[(idx y).toNat]?=some e:=⟨_,List.getElem?_eq_getElem hjl⟩
     obtain ⟨q7,hq7,hc7,hn7,hsn,hOw,hne⟩:=H2.watAt (j:=(idx y).toNat) (sl:=sl) (l:=l) hj
     have hlW:l.length≤5000000000000:=hWn l (by rw [← A.W]; exact List.mem_map.2 ⟨_,List.mem_of_getElem? hj,rfl⟩)
     have hi0:0≤idx y:=by unfold idx; obtain ⟨g1,g2⟩:=hylit; split <;> omega
     have q73:=quiet73 (litN hylit hn)
     simp only [Nat.mul_one]
     refine ⟨p,hp,by omega,by omega,_,hcy,y,rfl,p,hp,by omega,by omega,_,hcb,b,rfl,p,hp,by omega,by omega,u1,f1,p,hp,by omega,by omega,u2,f2,_,[],_,[],_,rfl,_,H2.field (k:=7) rfl,_,_,_,rfl,p,hp,by omega,by omega,_,hc3,y,rfl,q73 _,
       _,rfl,_,H2.field (k:=7) rfl,_,_,_,rfl,p,hp,by omega,by omega,_,hc3,y,rfl,q73 _,q7,hq7,hi0,?_,_,hc7,_,_,_,rfl,fun b60 h60 => ⟨?_,?_⟩⟩
     · show idx y < ((((g.setR r _).F 7).n:Nat):Int)
       omega
     · intro q hq e1
       rw [add_block] at e1
       exact hne q hq e1
     · obtain ⟨T4,H4,D4,_⟩:=H2.fresh h60 (.cells #[.int .i64 ci] 3)
       refine H4.appendW (j:=(idx y).toNat) (sl:=sl) (l:=l) hj (m:=1) (news:=[ci]) ?_ rfl (by omega) hq7 ?_
       · exact rowAt_of (b:=b60) (arr:=#[.int .i64 ci]) (e:=3) (f:=(0,0)) (by unfold PH.set; rw [if_pos rfl]) _ 0 0 (fun j v hv => by simpa [ints] using hv)
       · rintro a'' c'' υ' q1 q2 ⟨T5,H5,D5⟩
         refine ⟨_,_,_,rfl,q7,hq7,hi0,?_,q1,q2,?_⟩
         · show idx y < ((((g.setR r _).F 7).n:Nat):Int)
           omega
         · refine hyes _ T5 _ (k + 2) y (by omega) hy hv (D1.trans (D2.trans (D4.trans D5))) H5 rfl ?_ fun j hj' => ?_
           · have A5:=A2.setW (idx y).toNat ⟨a'',sl.n + 1,c''⟩ (l ++ [ci])
             have eW:st.W.modify (idx y).toNat (· ++ [ci])=st.W.set (idx y).toNat (l ++ [ci]):=by
               rw [List.modify_eq_set,← A.W,List.getElem?_map,hj]
               rfl
             rw [eW]
             exact A5
           · exact List.getElem?_set_ne (Ne.symm hj')
   · have wk:IntKind.wrap .i64 (((k + 2:Nat):Int) + 1)=((k + 1 + 2:Nat):Int):=by rw [w64 (by omega) (by omega)]; omega
     rw [wk]
     refine hR () _ (by omega) ⟨rfl,fun i z h1 h3 hz => ?_⟩
     by_cases e:i=k + 2
     · subst e
       rw [hy] at hz; cases hz; omega
     · exact hall i z h1 (by omega) hz
 · refine hno fun i y h1 hy => ?_
   have:=(List.getElem?_eq_some_iff.1 hy).1
   exact hall i y h1 (by omega) hy
theorem Sol.stepO {M:Nat→Prop} {υ τ:PH} {T:Nat→Tag} {s:Nat} {g:Low} (H:Sol υ T s g) (hs:Step M υ τ) (hm:∀ b,M b→T b=.other):∃ T2,Sol τ T2 s g∧DidX M υ T τ T2∧∀ b,υ b=none→T2 b=.other:=by
 have hT:∀ b,υ b ≠ none→(if υ b=none then Tag.other else T b)=T b:=fun b hb => if_neg hb
 refine ⟨fun b => if υ b=none then .other else T b,(H.retag hT).keep hs fun b hb h => ?_,⟨hs.weaken fun _ h => .inr h,hT⟩,fun b hb => if_pos hb⟩
 by_cases e:υ b=none
 · exact hb (if_pos e)
 · rw [if_neg e] at hb; exact hb (hm b h)
structure Ext (σ υ:PH) (T:Nat→Tag) (sl:Sli) (l:List Int):Prop where
 own:Own υ 3 1 sl.a sl.n sl.c (ints l)
 tag:∀ p,sl.a=some p→T p.block=.other∧σ p.block=none
theorem Ext.did {σ υ τ:PH} {T T':Nat→Tag} {sl:Sli} {l:List Int} (h:Ext σ υ T sl l) (D:Did υ T τ T'):Ext σ τ T' sl l :=
 ⟨h.own.keep D.step fun p hp hn => hn (h.tag p hp).1,fun p hp => ⟨(D.tags _ (h.own.known hp)).trans (h.tag p hp).1,(h.tag p hp).2⟩⟩
theorem Ext.app {σ υ:PH} {T0 T:Nat→Tag} {s:Nat} {g:Low} {sl:Sli} {l news:List Int} (h:Ext σ υ T sl l) (H:Sol υ T s g) (D:Did σ T0 υ T) {xb:Option Addr} {m mc:Nat} (hr:readsRow υ xb (ints news)) (hm:news.length=m) (hl:l.length + m≤10000000000000) {Q:Value→PH→Prop}
   (hQ:∀ sl' τ T',Ext σ τ T' sl' (l ++ news)→Sol τ T' s g→Did σ T0 τ T'→(∀ p,sl'.a=some p→p.block ≠ s)→(∀ b,υ b ≠ none→T' b=T b)→Q sl'.v τ):iappend prog 3 (.slice sl.a sl.n sl.c) (.slice xb m mc) Q υ:=by
 have hn:=own_len h.own
 refine Own.append t3.1 t3.2.1 t3.2.2 rfl (by decide) h.own hr (by simp [ints,hm]) (by intro v hv; obtain ⟨y,_,rfl⟩:=List.mem_map.1 hv; trivial) (by omega) fun a' c' τ hO hst hnew => ?_
 obtain ⟨T2,H2,D2,hT2⟩:=H.stepO hst (by rintro b ⟨p,h1,rfl⟩; exact (h.tag p h1).1)
 have D3:=D.of_x D2 (by rintro b ⟨p,h1,rfl⟩; exact (h.tag p h1).2)
 have ht:∀ p,a'=some p→T2 p.block=.other∧σ p.block=none:=by
   intro p hp
   rcases hnew with rfl | ⟨b,h1,h2⟩
   · exact ⟨(D2.tags _ (h.own.known hp)).trans (h.tag p hp).1,(h.tag p hp).2⟩
   · rw [h2] at hp; cases hp
     exact ⟨hT2 b h1,D.none h1⟩
 refine hQ ⟨a',sl.n + m,c'⟩ τ T2 ⟨by simpa [ints] using hO,ht⟩ H2 D3 (fun p hp e => ?_) D2.tags
 have:=(ht p hp).1
 rw [e,H2.tag] at this
 cases this
theorem Ext.put {σ υ:PH} {T0 T:Nat→Tag} {s:Nat} {g:Low} {sl:Sli} {l:List Int} (h:Ext σ υ T sl l) (H:Sol υ T s g) (D:Did σ T0 υ T) {j:Nat} (hj:j < g.W.length) :
   ∃ p T',(g.F 7).a=some p∧(∃ u,υ.cell? (p.add j)=some u)∧υ.froz (p.add j)=some false∧Sol (υ.setCell (p.add j) sl.v) T' s (g.setW j sl l)∧Did σ T0 (υ.setCell (p.add j) sl.v) T':=by
 have hT:∀ b,T b ≠ .other→tagAt T sl.a (.watch j) b=T b:=by
   intro b hb
   refine tagAt_other fun p hp e => ?_
   subst e
   exact absurd (h.tag p hp).1 hb
 have H2:=H.retag' hT
 have hO:OwnT υ (tagAt T sl.a (.watch j)) (.watch j) 3 1 sl (ints l):=⟨h.own,fun p hp => by rw [hp]; exact tagAt_self⟩
 obtain ⟨p,h1,h2,h3,h4,h5⟩:=H2.putW hj hO
 have ht:∀ b,σ b ≠ none→tagAt T sl.a (.watch j) b=T0 b:=by
   intro b hb
   rw [← D.tags b hb]
   refine tagAt_other fun q hq e => ?_
   subst e
   exact absurd (h.tag q hq).2 hb
 refine ⟨p,_,h1,h2,h3,h4,⟨⟨fun b o hb hm => ?_,fun b hb => h5.step.dom b (D.step.dom b hb)⟩,ht⟩⟩
 refine h5.step.same b o (D.step.same b o hb hm) ?_
 rw [ht b (by rw [hb]; simp)]
 exact hm
structure WL (F:Fm) (n:Nat) (ff:List Value) (s:Nat) (σ:PH) (T:Nat→Tag) (st:St) (lit:Int) (h:Nat) (sl0:Sli) (list:List Int) (k:Nat) (keep:Sli) (υ:PH) (T1:Nat→Tag) (g1:Low) (st1:St) (kl:List Int):Prop where
 sol:Sol υ T1 s g1
 eff:g1.ff=ff
 abs:Abs g1 st1
 did:Did σ T υ T1
 ps:PSame st st1
 inv:Inv F n st1
 at0:g1.W[(idx lit).toNat]?=some (sl0,list)
 ext:Ext σ υ T1 keep kl
 wi:WI n st1 (st1.W.set (idx lit).toNat (kl ++ list.drop k)) h
 ok:∀ (i:Nat) r rc,(i:Int) ∈ kl→st1.clauses[i]?=some r→st1.R r=some rc→∀ o,watO rc lit o→o ∈ st1.trail∧lv st1.level o≤lv st1.level lit
 len:kl.length≤k
 hd:st1.head=st.head
 at':st1.trail[h]?=some (-lit)
def LI (F:Fm) (n:Nat) (ff:List Value) (s:Nat) (σ:PH) (T:Nat→Tag) (st:St) (lit:Int) (h:Nat) (sl0:Sli) (list:List Int) (k:Nat) (keep:Sli) (υ:PH):Prop :=
 ∃ T1 g1 st1 kl,WL F n ff s σ T st lit h sl0 list k keep υ T1 g1 st1 kl
theorem Abs.setW_eq {g:Low} {st:St} (a:Abs g st) {j:Nat} {sl:Sli} {l:List Int}:Abs (g.setW j sl l) (St.setW st (st.W.set j l)):=a.setW j sl l
theorem _root_.Go.Sv.WI.setW {n:Nat} {st:St} {W W':List (List Int)} {p:Nat} (h:WI n st W p):WI n (St.setW st W') W p:=⟨h.wl,h.nd,h.cl,h.back,h.mem,h.ok,h.hp,h.lim⟩
theorem _root_.Go.Sv.Inv.setW {F:Fm} {n:Nat} {st:St} {W':List (List Int)} (h:Inv F n st):Inv F n (St.setW st W'):=⟨h.tr,h.wlen,h.stp,h.imp⟩
theorem _root_.Go.Sv.PSame.setW {a:St} {W':List (List Int)}:PSame a (St.setW a W'):=⟨rfl,rfl,rfl,rfl,rfl,fun _ rc h => ⟨rc,h,.refl _,rfl,rfl⟩,⟨[],by simp [St.setW]⟩,fun _ _ => rfl⟩
theorem Tr.lits_small {n:Nat} {value:List Int} {level:List Nat} {trail:List Int} {limits:List Nat} (h:Tr n value level trail limits):∀ y ∈ value,Lit y:=by
 intro y hy
 obtain ⟨i,hi⟩:=List.mem_iff_getElem?.1 hy
 have hil:=(List.getElem?_eq_some_iff.1 hi).1
 have:=h.val i (by have:=h.vlen; omega)
 rw [hi] at this
 cases this
 unfold Lit Go.Sv.sg
 split
 · omega
 · split <;> omega
theorem lv_top {n:Nat} {value:List Int} {level:List Nat} {trail:List Int} {limits:List Nat} (h:Tr n value level trail limits) {p:Nat} {x:Int} (hx:trail[p]?=some x) (hl:∀ q ∈ limits,q≤p):lv level x=limits.length:=by
 obtain ⟨h1,h2⟩:=List.getElem?_eq_some_iff.1 hx
 have e:trail=trail.take p ++ x :: trail.drop (p + 1):=by
   rw [← h2,List.getElem_cons_drop,List.take_append_drop]
 rw [h.lv_at e,List.length_take,Nat.min_eq_left (by omega)]
 congr 1
 exact List.filter_eq_self.2 fun q hq => by simpa using hl q hq
theorem cut_reads {σ:PH} {e:TypeId} {a:Option Addr} {n c:Nat} {vs:List Value} (o:Own σ e 1 a n c vs) {m:Nat} (hm:m≤n):readsRow σ (cutAt a c m 1) (vs.drop m):=by
 refine row_reads ?_
 cases hd:vs.drop m with
 | nil => exact .inl rfl
 | cons v t =>
   right
   have h0:vs[m + 0]?=some v:=by
     have:(vs.drop m)[0]?=some v:=by rw [hd]; rfl
     rwa [List.getElem?_drop] at this
   obtain ⟨p,hp,_⟩:=Go.Sl.cut_get o hm h0
   refine ⟨p,hp,fun i u hu => ?_⟩
   rw [← hd,List.getElem?_drop] at hu
   obtain ⟨p',hp',hc⟩:=Go.Sl.cut_get o hm hu
   rw [hp] at hp'; cases hp'
   exact hc
theorem RGood.len_le {F:Fm} {n:Nat} {cs:List (List Int)} {rc:RC} (h:RGood F n cs rc):rc.lits.length≤n:=by
 have hd:(rc.lits.map vr).Nodup:=List.pairwise_map.2 h.dis
 have:=hd.length_le_of_subset (l₂:=List.range n) fun v hv => by
   obtain ⟨x,hx,rfl⟩:=List.mem_map.1 hv
   exact List.mem_range.2 (h.lit x hx).vr_lt
 simpa using this
theorem WL.ok_mono {F:Fm} {n:Nat} {ff:List Value} {s:Nat} {σ:PH} {T:Nat→Tag} {st:St} {lit:Int} {h:Nat} {sl0:Sli} {list:List Int} {k:Nat} {keep:Sli} {υ:PH} {T1:Nat→Tag} {g1:Low} {st1:St} {kl:List Int} (L:WL F n ff s σ T st lit h sl0 list k keep υ T1 g1 st1 kl) {ci r:Nat} {rc:RC} (hci:st1.clauses[ci]?=some r) (hr:st1.R r=some rc)
   (hnew:∀ o,watO rc lit o→o ∈ st1.trail∧lv st1.level o≤lv st1.level lit):∀ (i:Nat) r rc,(i:Int) ∈ kl ++ [(ci:Int)]→st1.clauses[i]?=some r→st1.R r=some rc→∀ o,watO rc lit o→o ∈ st1.trail∧lv st1.level o≤lv st1.level lit:=by
 intro i r' rc' hi hr' hrc' o ho
 rcases List.mem_append.1 hi with hi | hi
 · exact L.ok i r' rc' hi hr' hrc' o ho
 · rw [List.mem_singleton] at hi
   have:i=ci:=by omega
   subst this
   rw [hci] at hr'; cases hr'
   rw [hr] at hrc'; cases hrc'
   exact hnew o ho
theorem in80 {F:Fm} {n:Nat} {ff:List Value} {s:Nat} {σ:PH} {T:Nat→Tag} {st:St} {lit:Int} {h:Nat} {sl0:Sli} {list:List Int} (hn:n≤1024) (hlit:LitN n lit) (hcn:st.clauses.length≤5000000000000)
   {k:Nat} {keep:Sli} {υ:PH} {T1:Nat→Tag} {g1:Low} {st1:St} {kl:List Int} (L:WL F n ff s σ T st lit h sl0 list k keep υ T1 g1 st1 kl) (hll:list.length≤5000000000000) (hWn:∀ e ∈ st1.W,e.length≤5000000000000) {ci r:Nat} (hk:list[k]?=some (ci:Int)) (hci:st1.clauses[ci]?=some r) {x:RL} (hx:g1.R r=some x) (h1:x.lits[1]?=some lit)
   {Q:Value→PH→Prop} {R1:Option Addr × Int × Option Addr × Nat × Nat × Option Addr × Nat × Nat × Option Addr × Nat × Nat × Int × Int→PH→Prop}
   (hR:∀ keep' υ',LI F n ff s σ T st lit h sl0 list (k + 1) keep' υ'→R1 (some (ptr s),lit,sl0.a,sl0.n,sl0.c,keep'.a,keep'.n,keep'.c,sl0.a,sl0.n,sl0.c,(sl0.n:Int),((k + 1:Nat):Int)) υ')
   (hcon:∀ τ T' st' r rc,Did σ T τ T'→Rep τ T' s ff st'→PSame st st'→Inv F n st'→WI n st' st'.W h→st'.R r=some rc→(∀ y ∈ rc.lits,-y ∈ st'.trail)→Q (.pointer (some (ptr r))) τ) :
   S80_3 C Q R1 (some (ptr s)) lit sl0.a sl0.n sl0.c keep.a keep.n keep.c (k:Int) (ci:Int) (some (ptr r)) sl0.a sl0.n sl0.c (sl0.n:Int) (k:Int) υ:=by
 have hr:st1.R r=some x.rc:=by rw [← L.abs.R r,hx]; rfl
 obtain ⟨cs,hcs,hG⟩:=L.inv.stp
 have G:=hG r x.rc hr
 have hrm:=List.mem_of_getElem? hci
 have h2:2≤x.lits.length:=by
   obtain ⟨rc,q1,q2⟩:=L.wi.cl r hrm
   rw [hr] at q1; cases q1; exact q2
 have hlen:x.lits.length≤n:=RGood.len_le G
 obtain ⟨a,ha⟩:∃ a,x.lits[0]?=some a:=⟨_,List.getElem?_eq_getElem (by omega)⟩
 have hal:=G.lit a (List.mem_of_getElem? ha)
 have hne:a ≠ lit:=by
   rintro rfl
   obtain ⟨g1,e1⟩:=List.getElem?_eq_some_iff.1 ha
   obtain ⟨g2,e2⟩:=List.getElem?_eq_some_iff.1 h1
   exact (List.pairwise_iff_getElem.1 G.dis 0 1 g1 g2 (by omega)) (by show vr x.lits[0]=vr x.lits[1]; rw [e1,e2])
 have hwo:∀ o,watO x.rc lit o→o=a:=by
   rintro o (⟨q1,_⟩ | ⟨_,q2⟩)
   · exact absurd (Option.some.inj (ha.symm.trans q1)) hne
   · exact (Option.some.inj (ha.symm.trans q2)).symm
 have hT:=L.inv.tr
 have hsm:=Tr.lits_small hT
 have hvl:=hT.vlen
 have hlvl:=lv_top hT L.at' L.wi.lim
 rw [lv_neg] at hlvl
 have hfl:-lit ∈ st1.trail:=List.mem_of_getElem? L.at'
 obtain ⟨_,_,_,_,hsn,_,_⟩:=L.sol.watAt L.at0
 have hkl:=(List.getElem?_eq_some_iff.1 hk).1
 have hdk:list.drop k=(ci:Int) :: list.drop (k + 1):=by
   rw [List.drop_eq_getElem_cons hkl]
   congr 1
   exact (List.getElem?_eq_some_iff.1 hk).2
 have wk:IntKind.wrap .i64 ((k:Int) + 1)=((k + 1:Nat):Int):=by rw [w64 (by omega) (by omega)]; omega
 have hkk:=L.len
 have hO:=L.sol.rl r x hx
 have hxn:=own_len hO.1
 obtain ⟨p,hp,hca⟩:=hO.1.get (i:=0) (v:=.int .i64 a) (by simp [ints,ha])
 have e0:(Addr.mk r 0 none).add 0=⟨r,0,none⟩:=rfl
 have z0:Int.toNat (0:Int) * 1=0:=rfl
 have cr:∀ {υ:PH} {T:Nat→Tag} {g:Low} {x:RL},Sol υ T s g→g.R r=some x→υ.cell? (ptr r)=some (.slice x.l.a x.l.n x.l.c):=fun H hx => by
   have:=(H.rblk r _ hx).get (i:=0) rfl
   rw [e0] at this; exact this
 unfold S80_3
 simp only [z0]
 refine ⟨_,rfl,_,cr L.sol hx,_,_,_,rfl,p,hp,by omega,by omega,_,hca,a,rfl,(r53g L.sol L.abs (litN hal hn) hsm).mono hb ?_⟩
 rintro _ υ' ⟨rfl,eυ⟩
 obtain rfl:=eυ.symm
 have happW:(kl ++ [(ci:Int)]) ++ list.drop (k + 1)=kl ++ list.drop k:=by rw [hdk]; simp
 have push:∀ {Q':Value→PH→Prop} (b:Nat),υ b=none→(∀ sl' τ T',Ext σ τ T' sl' (kl ++ [(ci:Int)])→Sol τ T' s g1→Did σ T τ T'→(∀ p,sl'.a=some p→p.block ≠ s)→Q' sl'.v τ)→iappend prog 3 (.slice keep.a keep.n keep.c) (.slice (some ⟨b,0,none⟩) 1 1) Q' (υ.set b (.cells #[.int .i64 ci] 3)):=by
   intro Q' b hbn hQ'
   obtain ⟨T2,H2,D2,_⟩:=L.sol.fresh hbn (.cells #[.int .i64 ci] 3)
   refine (L.ext.did D2).app H2 (L.did.trans D2) (news:=[(ci:Int)]) (m:=1) ?_ rfl (by omega) fun sl' τ T' q1 q2 q3 q4 _ => hQ' sl' τ T' q1 q2 q3 q4
   exact rowAt_of (b:=b) (arr:=#[.int .i64 ci]) (e:=3) (f:=(0,0)) (by unfold PH.set; rw [if_pos rfl]) _ 0 0 (fun j v hv => by simpa [ints] using hv)
 refine ⟨_,PH.sub.refl _,_,rfl,br_dec.2 ⟨fun hv => ?_,fun hv => ?_⟩⟩
 · refine ⟨_,rfl,_,cr L.sol hx,_,_,_,rfl,?_⟩
   refine c95 L.sol L.abs hn hsm (by have:=L.wi.wl; rwa [List.length_set] at this) hWn hx h2 (by omega) G.lit (ci:Int) (fun hall => ?_) fun τ T' g' i y hi hy hvy D' H' hff' A' hW' => ?_
   · refine ⟨_,PH.sub.refl _,false,rfl,br_iff.2 ⟨fun h => (by cases h),fun _ b hbn => push b hbn fun sl' τ T' E3 H3 D3 hns => ?_⟩⟩
     have hfalse:∀ y ∈ x.lits,y ≠ a→-y ∈ st1.trail:=by
       intro y hy hya
       obtain ⟨i,hi⟩:=List.mem_iff_getElem?.1 hy
       match i,hi with
       | 0,hi => rw [ha] at hi; cases hi; exact absurd rfl hya
       | 1,hi => rw [h1] at hi; cases hi; exact hfl
       | i + 2,hi => exact (hT.neg (G.lit y hy)).1 (hall (i + 2) y (by omega) hi)
     refine ⟨_,_,_,rfl,br_dec.2 ⟨fun hneg => ?_,fun hnn => br_iff.2 ⟨fun hz => ?_,fun hz => ?_⟩⟩⟩
     ·
       have hjl:(idx lit).toNat < g1.W.length:=(List.getElem?_eq_some_iff.1 L.at0).1
       obtain ⟨_,_,_,_,_,hOw3,_⟩:=H3.watAt L.at0
       have hi0:0≤idx lit:=by unfold idx; obtain ⟨g1,g2⟩:=hlit; split <;> omega
       rw [wk]
       refine ⟨_,[],_,rfl,_,H3.field (k:=7) rfl,_,_,_,rfl,quiet73 (litN hlit hn) _,by omega,by omega,fun q hq e1 => hns q hq (by rwa [add_block] at e1),?_⟩
       rw [Int.toNat_natCast]
       refine E3.app H3 D3 (news:=list.drop (k + 1)) (m:=sl0.n - (k + 1)) ?_ (by rw [List.length_drop]; omega) (by simp; omega) fun sl4 τ4 T4 E4 H4 D4 hns4 _ => ?_
       · have:=cut_reads hOw3 (m:=k + 1) (by omega)
         unfold ints at this ⊢
         rwa [← List.map_drop] at this
       · obtain ⟨p7,T5,hp7,u7,f7,H5,D5⟩:=E4.put H4 D4 hjl
         obtain ⟨q7,hq7,_,hn7,_⟩:=H4.watAt L.at0
         simp only [Nat.mul_one]
         refine ⟨_,_,_,rfl,p7,hp7,hi0,by omega,u7,f7,?_⟩
         refine hcon _ T5 (St.setW st1 (st1.W.set (idx lit).toNat ((kl ++ [(ci:Int)]) ++ list.drop (k + 1)))) r x.rc D5 ⟨_,H5,L.eff,L.abs.setW_eq⟩ (L.ps.trans Go.Sv.PSame.setW) L.inv.setW ?_ hr fun y hy => ?_
         · rw [happW]; exact L.wi.setW
         · by_cases e:y=a
           · subst e; exact (hT.neg hal).1 hneg
           · exact hfalse y hy e
     ·
       have hz:Go.Sv.valS st1.value a=0:=by simpa using hz
       obtain ⟨n1,n2⟩:=(hT.zero hal).1 hz
       obtain ⟨p',hp',hca'⟩:=(H3.rl r x hx).1.get (i:=0) (v:=.int .i64 a) (by simp [ints,ha])
       obtain rfl:p=p':=Option.some.inj (hp.symm.trans hp')
       have e2:=hT.llen
       have e3:=L.inv.wlen
       have hvf:=hal.vr_lt
       have htl:=hT.len_le
       refine ⟨_,rfl,_,cr H3 hx,_,_,_,rfl,p,hp,by omega,by omega,_,hca',a,rfl,(r54g H3 L.abs (litN hal hn) hal.1 (some r) (by omega) (by omega) (by omega) (by omega)).mono hb ?_⟩
       rintro _ τ4 ⟨rfl,T4,g4,D4,H4,hff4,A4,hW4⟩
       rw [wk]
       refine ⟨_,PH.sub.refl _,rfl,hR sl' _ ⟨T4,g4,st1.assign a (some r),kl ++ [(ci:Int)],H4,hff4.trans L.eff,A4,D3.trans D4,L.ps.trans (PSame.assign hT hal n1 n2 _),L.inv.assign hal n1 n2 hr (List.mem_of_getElem? ha) hfalse,by rw [hW4]; exact L.at0,E3.did D4,?_,?_,by simp; omega,L.hd,?_⟩⟩
       · show WI n _ (st1.W.set _ _) h
         rw [happW]
         exact L.wi.assign hT hal n1 n2 _
       · have PS:=PSame.assign hT hal n1 n2 (some r)
         intro i r' rc' hi hr' hrc' o ho
         have lev:lv (st1.assign a (some r)).level lit=lv st1.level lit:=by
           have:=PS.lev _ hfl
           rwa [lv_neg,lv_neg] at this
         rcases List.mem_append.1 hi with hi | hi
         · obtain ⟨q1,q2⟩:=L.ok i r' rc' hi hr' hrc' o ho
           exact ⟨List.mem_append_left _ q1,by rw [PS.lev o q1,lev]; exact q2⟩
         · rw [List.mem_singleton] at hi
           have:i=ci:=by omega
           subst this
           have hr'':st1.clauses[i]?=some r':=hr'
           rw [hci] at hr''; cases hr''
           have hrc'':st1.R r=some rc':=hrc'
           rw [hr] at hrc''; cases hrc''
           rw [hwo o ho]
           refine ⟨List.mem_append_right _ (by simp),?_⟩
           rw [lev,hlvl]
           exact Nat.le_of_eq (lv_set_self (by omega))
       · show (st1.trail ++ [a])[h]?=_
         rw [List.getElem?_append_left (List.getElem?_eq_some_iff.1 L.at').1]
         exact L.at'
     · have hz:Go.Sv.valS st1.value a ≠ 0:=by simpa using hz
       omega
   ·
     refine ⟨_,PH.sub.refl _,true,rfl,br_iff.2 ⟨fun _ => ?_,fun h => (by cases h)⟩⟩
     rw [wk]
     have hyl:=G.lit y (List.mem_of_getElem? hy)
     have hyf:-y ∉ st1.trail:=fun hm => by have:=(hT.neg hyl).2 hm; omega
     have hylit:y ≠ lit:=by rintro rfl; exact hyf hfl
     have hji:(idx lit).toNat ≠ (idx y).toNat:=fun e => hylit (idx_inj hlit hyl e).symm
     have hil:=(List.getElem?_eq_some_iff.1 hy).1
     have hperm:=swp_perm (l:=x.lits) (i:=1) (j:=i) (by omega) hil
     have hwi:=L.wi
     rw [hdk] at hwi
     have M:=hwi.move hT hlit hfl hci hr G.lit G.dis h1 hi hy hyf
     refine hR keep _ ⟨T',g',_,kl,H',hff'.trans L.eff,A',L.did.trans D',L.ps.trans ((PSame.setR hr (rc':={ x.rc with lits:=swp x.lits 1 i }) hperm rfl rfl).trans Go.Sv.PSame.setW),(L.inv.perm hr (rc':={ x.rc with lits:=swp x.lits 1 i }) hperm rfl rfl).setW,by rw [hW' _ hji]; exact L.at0,L.ext.did D',M.setW,?_,by omega,L.hd,L.at'⟩
     intro i' r' rc' hi' hr' hrc' o ho
     have hi'':i' ≠ ci:=by
       rintro rfl
       have hjW:(idx lit).toNat < st1.W.length:=by have:=L.wi.wl; rw [List.length_set] at this; have:=idx_lt' hlit; omega
       obtain ⟨nd,_⟩:=hwi.back (idx lit).toNat _ (List.getElem?_set_self hjW)
       exact (List.nodup_append.1 nd).2.2 _ hi' _ List.mem_cons_self rfl
     have hrr:r' ≠ r:=by
       rintro rfl
       have g1:=(List.getElem?_eq_some_iff.1 hci).1
       exact hi'' ((List.getElem?_inj g1 L.wi.nd).1 (by rw [hci]; exact hr'.symm)).symm
     exact L.ok i' r' rc' hi' hr' ((if_neg hrr).symm.trans hrc') o ho
 · refine fun b hbn => push b hbn fun sl' τ T' E3 H3 D3 hns => ⟨_,_,_,rfl,br_dec.2 ⟨fun hneg => by omega,fun _ => br_iff.2 ⟨fun hz => ?_,fun _ => ?_⟩⟩⟩
   · have hz:Go.Sv.valS st1.value a=0:=by simpa using hz
     omega
   · rw [wk]
     refine hR sl' _ ⟨T',g1,st1,kl ++ [(ci:Int)],H3,L.eff,L.abs,D3,L.ps,L.inv,L.at0,E3,by rw [happW]; exact L.wi,L.ok_mono hci hr fun o ho => ?_,by simp; omega,L.hd,L.at'⟩
     rw [hwo o ho]
     have ham:=(hT.pos hal).1 (by omega)
     exact ⟨ham,by rw [hlvl]; exact hT.lv_le ham⟩
theorem r80 {F:Fm} {n:Nat} {ff:List Value} {s:Nat} {σ:PH} {T:Nat→Tag} {st:St} {lit:Int} {h:Nat} (hn:n≤1024) (hlit:LitN n lit) (hcn:st.clauses.length≤5000000000000)
   (hRep:Rep σ T s ff st) (hI:Inv F n st) (hWI:WI n st st.W h) (hat:st.trail[h]?=some (-lit)) {Q:Value→PH→Prop}
   (hnil:∀ τ T' st',Did σ T τ T'→Rep τ T' s ff st'→PSame st st'→Inv F n st'→WI n st' st'.W (h + 1)→st'.head=st.head→Q (.pointer none) τ)
   (hcon:∀ τ T' st' r rc,Did σ T τ T'→Rep τ T' s ff st'→PSame st st'→Inv F n st'→WI n st' st'.W h→st'.R r=some rc→(∀ y ∈ rc.lits,-y ∈ st'.trail)→Q (.pointer (some (ptr r))) τ) :
   C 80 #[.pointer (some (ptr s)),.int .i64 lit] Q σ:=by
 refine go (E80_0 _ _ _ _ _) ?_
 obtain ⟨g,H,hff,A⟩:=hRep
 have hjl:(idx lit).toNat < g.W.length:=by rw [A.nW,hWI.wl]; exact idx_lt hlit
 obtain ⟨⟨sl0,list⟩,hj⟩:∃ e,g.W[(idx lit).toNat]?=some e:=⟨_,List.getElem?_eq_getElem hjl⟩
 obtain ⟨q7,hq7,hc7,hn7,hsn,hOw,_⟩:=H.watAt hj
 have hi0:0≤idx lit:=by unfold idx; obtain ⟨g1,g2⟩:=hlit; split <;> omega
 have hjW:st.W[(idx lit).toNat]?=some list:=by rw [← A.W,List.getElem?_map,hj]; rfl
 have hsmall:=hWI.small
 have hlistlen:list.length≤5000000000000:=by have:=hsmall list (List.mem_of_getElem? hjW); omega
 unfold S80_0
 simp only [Nat.mul_one]
 refine ⟨_,[],_,rfl,_,H.field (k:=7) rfl,_,_,_,rfl,quiet73 (litN hlit hn) _,q7,hq7,hi0,by omega,_,hc7,_,_,_,rfl,?_⟩
 unfold S80_1
 have z0:Int.toNat (0:Int) * 1=0:=rfl
 have z1:Int.toNat (1:Int) * 1=1:=rfl
 refine iloopS_for (G:=Sli) (fun k keep => (some (ptr s),lit,sl0.a,sl0.n,sl0.c,keep.a,keep.n,keep.c,sl0.a,sl0.n,sl0.c,(sl0.n:Int),(k:Int))) (fun k keep υ => LI F n ff s σ T st lit h sl0 list k keep υ) sl0.n ?_
   (g:=⟨none,0,0⟩) ⟨T,g,st,[],H,hff,A,.refl _ _,.refl _,hI,hj,⟨own_nil,fun p hp => by cases hp⟩,?_,fun i r rc hi => by simp at hi,by simp,rfl,hat⟩
 · rintro k keep υ hk ⟨T1,g1,st1,kl,L⟩ R hR
   unfold S80_2
   dsimp only
   have hcl:st1.clauses=st.clauses:=L.ps.clauses
   refine br_dec.2 ⟨fun hlt => ?_,fun hge => ?_⟩
   · have hkl:k < list.length:=by omega
     obtain ⟨ci',hci'⟩:∃ c,list[k]?=some c:=⟨_,List.getElem?_eq_getElem hkl⟩
     have hjW1:(idx lit).toNat < st1.W.length:=by have:=L.wi.wl; rw [List.length_set] at this; have:=idx_lt' hlit; omega
     have hcim:ci' ∈ kl ++ list.drop k:=List.mem_append_right _ (by
       rw [List.mem_iff_getElem?]; exact ⟨0,by rw [List.getElem?_drop]; exact hci'⟩)
     obtain ⟨b1,b2⟩:=(L.wi.back (idx lit).toNat _ (List.getElem?_set_self hjW1)).2 ci' hcim
     obtain ⟨ci,rfl⟩:∃ c:Nat,ci'=(c:Int):=⟨ci'.toNat,by omega⟩
     obtain ⟨r,hci⟩:∃ r,st1.clauses[ci]?=some r:=⟨_,List.getElem?_eq_getElem (by omega)⟩
     obtain ⟨rc,hr,h2⟩:=L.wi.cl r (List.mem_of_getElem? hci)
     obtain ⟨x,hx,ex1,_,_⟩:=L.abs.R_of hr
     have hrx:st1.R r=some x.rc:=by rw [← L.abs.R r,hx]; rfl
     rw [← ex1] at h2
     have hw:wat x.rc lit:=(L.wi.mem lit hlit _ (List.getElem?_set_self hjW1) ci r x.rc hci hrx).1 hcim
     obtain ⟨_,_,_,_,_,hOw1,_⟩:=L.sol.watAt L.at0
     obtain ⟨pl,hpl,hcl'⟩:=hOw1.get (i:=k) (v:=.int .i64 (ci:Int)) (by simp [ints,hci'])
     obtain ⟨p6,hp6,hc6⟩:=(L.sol.fld 6 84 1 rfl).1.get (i:=ci) (v:=.pointer (some (ptr r))) (by rw [L.abs.clauses]; simp [ptrs,hci])
     have n6:=L.sol.n6 L.abs
     have hci6:=(List.getElem?_eq_some_iff.1 hci).1
     have e0:(Addr.mk r 0 none).add 0=⟨r,0,none⟩:=rfl
     have cr:υ.cell? (ptr r)=some (.slice x.l.a x.l.n x.l.c):=by
       have:=(L.sol.rblk r x hx).get (i:=0) rfl
       rw [e0] at this; exact this
     have hO:=L.sol.rl r x hx
     have hxn:=own_len hO.1
     obtain ⟨a,ha⟩:∃ a,x.lits[0]?=some a:=⟨_,List.getElem?_eq_getElem (by omega)⟩
     obtain ⟨b,hb1⟩:∃ b,x.lits[1]?=some b:=⟨_,List.getElem?_eq_getElem (by omega)⟩
     obtain ⟨p,hp,hca⟩:=hO.1.get (i:=0) (v:=.int .i64 a) (by simp [ints,ha])
     obtain ⟨p',hp',hcb⟩:=hO.1.get (i:=1) (v:=.int .i64 b) (by simp [ints,hb1])
     obtain rfl:p=p':=Option.some.inj (hp.symm.trans hp')
     have hWn:∀ e ∈ st1.W,e.length≤5000000000000:=by
       intro e he
       obtain ⟨i,hi⟩:=List.mem_iff_getElem?.1 he
       by_cases ei:i=(idx lit).toNat
       · subst ei
         have:st1.W[(idx lit).toNat]?=some list:=by rw [← L.abs.W,List.getElem?_map,L.at0]; rfl
         rw [this] at hi; cases hi; exact hlistlen
       · have hm:(st1.W.set (idx lit).toNat (kl ++ list.drop k))[i]?=some e:=(List.getElem?_set_ne (Ne.symm ei)).trans hi
         have:=L.wi.small e (List.mem_of_getElem? hm)
         rw [hcl] at this; omega
     have next:∀ keep' υ',LI F n ff s σ T st lit h sl0 list (k + 1) keep' υ'→R (some (ptr s),lit,sl0.a,sl0.n,sl0.c,keep'.a,keep'.n,keep'.c,sl0.a,sl0.n,sl0.c,(sl0.n:Int),((k + 1:Nat):Int)) υ':=fun keep' υ' hL => hR keep' υ' (by omega) hL
     simp only [z0,z1,Nat.mul_one,Int.toNat_natCast]
     refine ⟨pl,hpl,by omega,by omega,_,hcl',_,rfl,_,rfl,_,L.sol.field (k:=6) rfl,_,_,_,rfl,p6,hp6,by omega,by omega,_,by rw [Int.toNat_natCast]; exact hc6,_,rfl,_,rfl,_,cr,_,_,_,rfl,p,hp,by omega,by omega,_,hca,a,rfl,br_iff.2 ⟨fun he => ?_,fun he => ?_⟩⟩
     · have hal:a=lit:=by simpa using he
       subst hal
       obtain ⟨p1,hp1,u1,f1,s1⟩:=L.sol.setLit hx (i:=0) (by omega)
       obtain rfl:p=p1:=Option.some.inj (hp.symm.trans hp1)
       obtain ⟨H1,D1⟩:=s1 b
       have A1:=L.abs.setLit hx hrx (x.lits.set 0 b)
       obtain ⟨p2,hp2,u2,f2,s2⟩:=H1.setLit (r:=r) (x:={ x with lits:=x.lits.set 0 b }) (if_pos rfl) (i:=1) (by simp; omega)
       obtain rfl:p=p2:=Option.some.inj (hp.symm.trans hp2)
       obtain ⟨H2,D2⟩:=s2 a
       have eg:((g1.setR r { x with lits:=x.lits.set 0 b }).setR r { x with lits:=(x.lits.set 0 b).set 1 a })=g1.setR r { x with lits:=swp x.lits 0 1 }:=by
         unfold Low.setR swp
         congr 1
         · funext q
           by_cases e:q=r
           · simp [e,List.getD_eq_getElem?_getD,ha,hb1]
           · simp [e]
       have A2:=L.abs.setLit hx hrx (swp x.lits 0 1)
       have hperm:=swp_perm (l:=x.lits) (i:=0) (j:=1) (by omega) (by omega)
       obtain ⟨w1,w2⟩:=swp01_wat (rc:=x.rc) h2
       refine ⟨_,rfl,_,cr,_,_,_,rfl,_,rfl,_,cr,_,_,_,rfl,_,rfl,_,cr,_,_,_,rfl,p,hp,by omega,by omega,_,hcb,b,rfl,_,rfl,_,cr,_,_,_,rfl,p,hp,by omega,by omega,_,hca,a,rfl,p,hp,by omega,by omega,u1,f1,p,hp,by omega,by omega,u2,f2,?_⟩
       refine in80 hn hlit hcn (T1:=T1) (g1:=g1.setR r { x with lits:=swp x.lits 0 1 }) (st1:=st1.setR r { x.rc with lits:=swp x.lits 0 1 }) (kl:=kl) ⟨eg ▸ H2,L.eff,A2,(L.did.trans D1).trans D2,L.ps.trans (PSame.setR hrx (rc':={ x.rc with lits:=swp x.lits 0 1 }) hperm rfl rfl),L.inv.perm hrx (rc':={ x.rc with lits:=swp x.lits 0 1 }) hperm rfl rfl,L.at0,(L.ext.did D1).did D2,L.wi.setR hrx (rc':={ x.rc with lits:=swp x.lits 0 1 }) (fun _ => by show 2≤(swp _ _ _).length; rw [swp_len]; exact h2) w1 (fun w o => (w2 w o).1),?_,L.len,L.hd,L.at'⟩ hlistlen hWn hci' hci (x:={ x with lits:=swp x.lits 0 1 }) (if_pos rfl) ?_ next hcon
       · intro i' r' rc' hi' hr' hrc' o ho
         by_cases e:r'=r
         · subst e
           have:rc'={ x.rc with lits:=swp x.lits 0 1 }:=by
             have h3:(if r'=r' then some ({ x.rc with lits:=swp x.lits 0 1 }:RC) else st1.R r')=some rc':=hrc'
             rw [if_pos rfl] at h3; exact (Option.some.inj h3).symm
           subst this
           exact L.ok i' r' x.rc hi' hr' hrx o ((w2 a o).1 ho)
         · exact L.ok i' r' rc' hi' hr' ((if_neg e).symm.trans hrc') o ho
       · exact (swp_right (l:=x.lits) (i:=0) (j:=1) (by omega) (by omega)).trans ha
     · have hal:a ≠ lit:=by simpa using he
       have h1:x.lits[1]?=some lit:=by
         rcases hw with q | q
         · exact absurd (Option.some.inj (ha.symm.trans q)) hal
         · exact q
       exact in80 hn hlit hcn L hlistlen hWn hci' hci hx h1 next hcon
   · have hkn:k=list.length:=by omega
     subst hkn
     have hjl1:(idx lit).toNat < g1.W.length:=(List.getElem?_eq_some_iff.1 L.at0).1
     obtain ⟨p7,T5,hp7,u7,f7,H5,D5⟩:=L.ext.put L.sol L.did hjl1
     obtain ⟨q7',hq7',_,hn7',_⟩:=L.sol.watAt L.at0
     simp only [Nat.mul_one]
     refine ⟨_,[],_,rfl,_,L.sol.field (k:=7) rfl,_,_,_,rfl,quiet73 (litN hlit hn) _,p7,hp7,hi0,by omega,u7,f7,?_⟩
     have hwi:=L.wi
     rw [List.drop_length,List.append_nil] at hwi
     exact hnil _ T5 (St.setW st1 (st1.W.set (idx lit).toNat kl)) D5 ⟨_,H5,L.eff,L.abs.setW_eq⟩ (L.ps.trans Go.Sv.PSame.setW) L.inv.setW (hwi.finish hlit L.at' L.ok).setW L.hd
 · have:st.W.set (idx lit).toNat ([] ++ list.drop 0)=st.W:=by
     rw [List.nil_append,List.drop_zero]
     apply List.ext_getElem?
     intro i
     rw [List.getElem?_set]
     split
     · rename_i e; subst e
       have:=(List.getElem?_eq_some_iff.1 hjW).1
       rw [if_pos this,hjW]
     · rfl
   rw [this]; exact hWI
def St.setHead (st:St) (h:Int):St:={ st with head:=h }
theorem Rep.head {σ:PH} {T:Nat→Tag} {s:Nat} {ff:List Value} {st:St} (h:Rep σ T s ff st):σ.cell? ((ptr s).add 13)=some (.int .i64 st.head)∧σ.froz ((ptr s).add 13)=some false∧∀ k:Int,Rep (σ.setCell ((ptr s).add 13) (.int .i64 k)) T s ff (St.setHead st k)∧Did σ T (σ.setCell ((ptr s).add 13) (.int .i64 k)) T:=by
 obtain ⟨g,H,hff,A⟩:=h
 refine ⟨by rw [← A.head]; exact H.blk.get (cellsOf_13 H.ff),H.blk.froz 13,fun k => ?_⟩
 obtain ⟨H2,D2⟩:=H.setHead k
 exact ⟨⟨_,H2,hff,⟨A.steps,A.clauses,A.W,A.value,A.level,A.why,A.trail,A.limits,rfl,A.act,A.empty,A.units,A.R⟩⟩,D2⟩
theorem _root_.Go.Sv.WI.setHead {n:Nat} {st:St} {W:List (List Int)} {p:Nat} (h:WI n st W p) (k:Int):WI n (St.setHead st k) W p:=⟨h.wl,h.nd,h.cl,h.back,h.mem,h.ok,h.hp,h.lim⟩
theorem _root_.Go.Sv.Inv.setHead {F:Fm} {n:Nat} {st:St} (h:Inv F n st) (k:Int):Inv F n (St.setHead st k):=⟨h.tr,h.wlen,h.stp,h.imp⟩
theorem _root_.Go.Sv.PSame.setHead {a:St} (k:Int):PSame a (St.setHead a k):=⟨rfl,rfl,rfl,rfl,rfl,fun _ rc h => ⟨rc,h,.refl _,rfl,rfl⟩,⟨[],by simp [St.setHead]⟩,fun _ _ => rfl⟩
def PLoop (F:Fm) (n:Nat) (ff:List Value) (s:Nat) (σ:PH) (T:Nat→Tag) (st:St) (υ:PH) (T1:Nat→Tag) (st1:St) (p:Nat):Prop :=
 Did σ T υ T1∧Rep υ T1 s ff st1∧PSame st st1∧Inv F n st1∧st1.head=p∧WI n st1 st1.W p
theorem r57 {F:Fm} {n s:Nat} {σ:PH} {T:Nat→Tag} {st:St} {ff:List Value} (hF:FOk F) (hn:n=F.bools) (hI:Inv F n st) (hcn:st.clauses.length≤5000000000000)
   (hRep:Rep σ T s ff st) (hf:Frm (oth σ T) ff F) {p0:Nat} (hh:st.head=p0) (hWI:WI n st st.W p0) {Q:Value→PH→Prop}
   (hnil:∀ τ T' st' (x:Nat→Int),Did σ T τ T'→Rep τ T' s ff st'→PSame st st'→Inv F n st'→WI n st' st'.W st'.trail.length→st'.head=st'.trail.length→(∀ y ∈ st'.trail,∀ d,bound F y=some d→x (dX d) - x (dY d)≤d.2.2)→Q (.pointer none) τ)
   (hcon:∀ τ T' st' r rc p,Did σ T τ T'→Rep τ T' s ff st'→PSame st st'→Inv F n st'→WI n st' st'.W p→st'.R r=some rc→(∀ y ∈ rc.lits,-y ∈ st'.trail)→Q (.pointer (some (ptr r))) τ) :
   C 57 #[.pointer (some (ptr s))] Q σ:=by
 refine go (E57_0 _ _ _ _) ?_
 unfold S57_0 S57_1
 have hnb:=hF.bools
 refine iloopS_ind (fun m x υ => x=some (ptr s)∧∃ T1 st1 p,PLoop F n ff s σ T st υ T1 st1 p∧m=n - st1.trail.length) ?_ (n:=n - st.trail.length) ⟨rfl,T,st,p0,⟨.refl _ _,hRep,.refl _,hI,hh,hWI⟩,rfl⟩
 rintro m _ υ ⟨rfl,T1,st1,p,P1,rfl⟩ R1 hR1
 unfold S57_2 S57_3
 refine iloopS_ind (fun m x υ => x=some (ptr s)∧∃ T2 st2 p,PLoop F n ff s σ T st υ T2 st2 p∧m=n - p∧st1.trail.length≤st2.trail.length) ?_ (n:=n - p) ⟨rfl,T1,st1,p,P1,rfl,Nat.le_refl _⟩
 clear P1 υ T1
 rintro m _ υ ⟨rfl,T2,st2,p,⟨D2,R2,S2,I2,h2,W2⟩,rfl,hle⟩ R3 hR3
 unfold S57_4
 obtain ⟨ch,fh,sh⟩:=R2.head
 obtain ⟨ta,tc,t11,_,hta⟩:=R2.trail
 have htl:=I2.tr.len_le
 have hcl:st2.clauses=st.clauses:=S2.clauses
 rw [h2] at ch
 refine ⟨_,rfl,_,ch,_,rfl,_,rfl,_,t11,_,_,_,rfl,br_dec.2 ⟨fun hlt => ?_,fun hge => ?_⟩⟩
 · have hlt:p < st2.trail.length:=by omega
   obtain ⟨x,hx⟩:∃ x,st2.trail[p]?=some x:=⟨_,List.getElem?_eq_getElem hlt⟩
   obtain ⟨pa,rfl,cp⟩:=hta p x hx
   have hxl:=I2.tr.lit x (List.mem_of_getElem? hx)
   have wx:IntKind.wrap .i64 (0 - x)=-x:=by obtain ⟨g1,g2⟩:=hxl; rw [w64 (by omega) (by omega)]; omega
   have wp:IntKind.wrap .i64 ((p:Int) + 1)=((p + 1:Nat):Int):=by rw [w64 (by omega) (by omega)]; omega
   obtain ⟨R2',D2'⟩:=sh ((p + 1:Nat):Int)
   refine ⟨_,rfl,_,t11,_,_,_,rfl,_,rfl,_,ch,_,rfl,pa,rfl,by omega,by omega,_,by rw [Int.toNat_natCast,Nat.mul_one]; exact cp,x,rfl,_,rfl,_,ch,_,rfl,_,rfl,⟨_,ch⟩,fh,?_⟩
   rw [wx,wp]
   refine r80 (F:=F) (h:=p) (by omega) hxl.neg (by show st2.clauses.length≤_; rw [hcl]; exact hcn) R2' (I2.setHead _) (W2.setHead _) (by rw [Int.neg_neg]; exact hx) (fun τ T' st' D' R' S' I' W' h' => ?_) fun τ T' st' r rc D' R' S' I' W' hr hfl => ?_
   · refine ⟨τ,PH.sub.refl _,_,rfl,br_iff.2 ⟨fun h => (by cases h),fun _ => ?_⟩⟩
     refine hR3 (n - (p + 1)) _ _ (by omega) ⟨rfl,T',st',p + 1,⟨(D2.trans D2').trans D',R',(S2.trans (.setHead _)).trans S',I',h',W'⟩,rfl,?_⟩
     obtain ⟨e,he⟩:=S'.trail
     have:st'.trail.length=(St.setHead st2 ((p + 1:Nat):Int)).trail.length + e.length:=by rw [he,List.length_append]
     have e2:(St.setHead st2 ((p + 1:Nat):Int)).trail.length=st2.trail.length:=rfl
     omega
   · refine ⟨τ,PH.sub.refl _,_,rfl,br_iff.2 ⟨fun _ => ?_,fun h => (by cases h)⟩⟩
     exact hcon τ T' st' r rc p ((D2.trans D2').trans D') R' ((S2.trans (.setHead _)).trans S') I' W' hr hfl
 · have hp:p=st2.trail.length:=by have:=W2.hp; omega
   refine ⟨_,rfl,_,t11,_,_,_,rfl,?_⟩
   refine r81 hF hn I2 R2 (hf.sub D2.oth) (fun τ T' st' x D' R' hS hx => ?_) fun τ T' r rc D' hrn R' hg _ hfl => ?_
   · have TS:=hS.same
     have PS:=hS.psame I2
     obtain ⟨e,he⟩:=TS.trail
     have hel:st'.trail.length=st2.trail.length + e.length:=by rw [he,List.length_append]
     obtain ⟨ta',tc',t11',_,_⟩:=R'.trail
     have I':=hS.inv I2
     have W':=hS.wi I2 W2
     have htl':=I'.tr.len_le
     refine ⟨τ,PH.sub.refl _,_,rfl,br_iff.2 ⟨fun h => (by cases h),fun _ => ⟨_,rfl,_,t11',_,_,_,rfl,br_iff.2 ⟨fun heq => ?_,fun hne => ?_⟩⟩⟩⟩
     · have heq:st'.trail.length=st2.trail.length:=by have:=(beq_iff_eq.1 heq); omega
       have e0:e=[]:=List.length_eq_zero_iff.1 (by omega)
       refine hnil τ T' st' x (D2.trans D') R' (S2.trans PS) I' ?_ ?_ ?_
       · rw [TS.W,heq,← hp]; exact W'
       · rw [TS.head,h2,heq,hp]
       · rw [he,e0,List.append_nil]; exact hx
     · have hne:st'.trail.length ≠ st2.trail.length:=by
         intro h
         rw [h] at hne; simp at hne
       refine hR1 (n - st'.trail.length) _ _ (by omega) ⟨rfl,T',st',p,⟨D2.trans D',R',S2.trans PS,I',by rw [TS.head,h2],by rw [TS.W]; exact W'⟩,rfl⟩
   · refine ⟨τ,PH.sub.refl _,_,rfl,br_iff.2 ⟨fun _ => ?_,fun h => (by cases h)⟩⟩
     exact hcon τ T' _ r rc p (D2.trans D') R' (S2.trans (PSame.newR hrn rc)) (I2.newR hrn hg) (W2.newR hrn rc) (if_pos rfl) hfl
end Go.Proofs.Ythfnjogadngfiaa
