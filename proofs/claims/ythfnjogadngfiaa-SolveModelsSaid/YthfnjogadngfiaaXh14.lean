/- A part of the proof: see the last text, YthfnjogadngfiaaXh15. -/
import Derived.Test.YthfnjogadngfiaaXh13
set_option maxRecDepth 100000
set_option linter.unusedVariables false
set_option linter.unusedSimpArgs false
namespace Go.Proofs.Ythfnjogadngfiaa
open Go.Sl Go.Sv
def CS (σ υ:PH) (sl:Sli) (cs:List (List Int)):Prop :=
 ∃ (σ':PH) (vs:List Value),σ.sub σ'∧σ'.sub υ∧Own υ 33 1 sl.a sl.n sl.c vs∧(∀ p,sl.a=some p→σ' p.block=none)∧vs.length=cs.length∧∀ (i:Nat) c,cs[i]?=some c→∃ x m k,vs[i]?=some (.slice x m k)∧Ints σ' x m c∧m≤k
theorem CS.grow {σ υ τ:PH} {sl:Sli} {cs:List (List Int)} (h:CS σ υ sl cs) (hs:υ.sub τ):CS σ τ sl cs:=by
 obtain ⟨σ',vs,h1,h2,h3,h4,h5,h6⟩:=h
 exact ⟨σ',vs,h1,h2.trans hs,h3.keep (M:=fun _ => False) hs.step fun _ _ h => h,h4,h5,h6⟩
theorem CS.sub {σ υ:PH} {sl:Sli} {cs:List (List Int)} (h:CS σ υ sl cs):σ.sub υ:=by
 obtain ⟨σ',vs,h1,h2,_⟩:=h
 exact h1.trans h2
theorem CS.get {σ υ:PH} {sl:Sli} {cs:List (List Int)} (h:CS σ υ sl cs) {i:Nat} {c:List Int} (hc:cs[i]?=some c):∃ p x m k,sl.a=some p∧υ.cell? (p.add i)=some (.slice x m k)∧Ints υ x m c∧sl.n=cs.length:=by
 obtain ⟨σ',vs,h1,h2,h3,h4,h5,h6⟩:=h
 obtain ⟨x,m,k,q1,q2,q3⟩:=h6 i c hc
 obtain ⟨p,hp,hcell⟩:=h3.get q1
 refine ⟨p,x,m,k,hp,hcell,q2.sub h2,?_⟩
 have:=h3.len
 omega
theorem CS.len {σ υ:PH} {sl:Sli} {cs:List (List Int)} (h:CS σ υ sl cs):sl.n=cs.length:=by
 obtain ⟨σ',vs,h1,h2,h3,h4,h5,h6⟩:=h
 have:=h3.len
 omega
open Classical in
theorem CS.push {σ υ:PH} {sl:Sli} {cs:List (List Int)} (h:CS σ υ sl cs) {x:Option Addr} {m k:Nat} {c:List Int} (hI:Own υ 3 1 x m k (ints c)) (hx:∀ p,x=some p→∀ q,sl.a=some q→p.block ≠ q.block) (hn:cs.length≤4000000000000) {b:Nat} (hb:υ b=none) {R:Option Addr→Nat→Nat→PH→Prop}
   (hR:∀ (sl':Sli) τ,CS σ τ sl' (cs ++ [c])→R sl'.a sl'.n sl'.c τ) :
   iappend prog 33 (.slice sl.a sl.n sl.c) (.slice (some ⟨b,0,none⟩) 1 1) (fun v τ => ∃ (a:Option Addr) (n c:Nat),v=(.slice a n c)∧R a n c τ) (PH.set υ b (.cells #[(.slice x m k)] 33)):=by
 have hln:=h.len
 obtain ⟨σ',vs,h1,h2,h3,h4,h5,h6⟩:=h
 refine pushRow t33.1 t33.2.1 t33.2.2 rfl (by decide) h3 hb (news:=[.slice x m k]) rfl ?_ (by omega) ?_
 · intro v hv; simp at hv; subst hv; trivial
 · intro a' c' τ hO hst hnew
   obtain ⟨σ'',hσ''⟩:∃ σ'':PH,σ''=fun b => if ∃ q,sl.a=some q∧b=q.block then none else υ b:=⟨_,rfl⟩
   have in':∀ b,(∀ q,sl.a=some q→b ≠ q.block)→σ'' b=υ b:=fun b hb => by rw [hσ'']; exact if_neg (by rintro ⟨q,g1,g2⟩; exact hb q g1 g2)
   have out':∀ q,sl.a=some q→σ'' q.block=none:=fun q hq => by rw [hσ'']; exact if_pos ⟨q,hq,rfl⟩
   have s1:σ'.sub σ'':=by
     intro b0 o ho
     rw [in' b0 (by rintro q hq rfl; rw [h4 q hq] at ho; cases ho)]
     exact h2 b0 o ho
   have s2:σ''.sub υ:=by
     intro b0 o ho
     by_cases hq:∃ q,sl.a=some q∧b0=q.block
     · obtain ⟨q,g1,rfl⟩:=hq
       rw [out' q g1] at ho; cases ho
     · rw [in' b0 (fun q g1 g2 => hq ⟨q,g1,g2⟩)] at ho; exact ho
   have sτ:σ''.sub τ:=by
     intro b0 o ho
     refine hst.same b0 o (s2 b0 o ho) ?_
     rintro ⟨q,g1,rfl⟩
     rw [out' q g1] at ho; cases ho
   have hOx:Own σ'' 3 1 x m k (ints c):=by
     refine ⟨hI.len,hI.le,?_⟩
     rcases hI.row with g | ⟨b0,arr,g1,g2,g3⟩
     · exact .inl g
     · exact .inr ⟨b0,arr,g1,(in' b0 (fun q hq => hx _ g1 q hq)).trans g2,g3⟩
   refine ⟨_,_,_,rfl,hR ⟨a',sl.n + 1,c'⟩ τ ⟨σ'',vs ++ [.slice x m k],h1.trans s1,sτ,hO,fun p hp => ?_,by simp [h5],fun i c0 hc0 => ?_⟩⟩
   · rcases hnew p hp with ⟨p',g1,g2⟩ | g1
     · rw [g2]; exact out' p' g1
     · exact new_of s2 g1
   · by_cases hi:i < cs.length
     · rw [List.getElem?_append_left hi] at hc0
       obtain ⟨y,m',k',g1,g2,g3⟩:=h6 i c0 hc0
       exact ⟨y,m',k',by rw [List.getElem?_append_left (by omega)]; exact g1,g2.sub s1,g3⟩
     · rw [List.getElem?_append_right (by omega)] at hc0
       have hi0:i=cs.length:=by have:=(List.getElem?_eq_some_iff.1 hc0).1; simp at this; omega
       subst hi0
       simp at hc0
       subst hc0
       exact ⟨x,m,k,by rw [List.getElem?_append_right (by omega)]; simp [h5],own_ints hOx,hI.le⟩
theorem c60 {σ:PH} {F:Fm} (hF:FOk F) (hlen:∀ c ∈ F.clauses,c.length≤1000000) {aa ca:Option Addr} {an ac cn cc:Nat} (hA:Atoms σ aa an F.atoms) (hL:Lists σ ca cn F.clauses) {a:Option Addr} {n c:Nat} {ps:List PStep} (hS:StepsM σ a n ps) {cs:List (List Int)} (hcs:stepsOf F ps=some cs) (hn:n≤3500000000000) {Q:Value→PH→Prop}
   (hQ:∀ τ (sl:Sli),CS σ τ sl cs→Q (.tuple #[sl.v,.int .i64 (-1)]) τ) :
   C 60 #[.agg #[.int .i64 F.ints,.int .i64 F.bools,.slice aa an ac,.slice ca cn cc],.slice a n c] Q σ:=by
 refine go (E60_0 _ _ _ _ _ _ _ _ _ _ _ _ _ _) ?_
 unfold S60_0
 have e0:∀ b:Nat,(Addr.mk b 0 none).add 0=⟨b,0,none⟩:=fun b => rfl
 obtain ⟨hcl,hat⟩:=stepsOf_pre hcs
 have hlit:=steps_lit hF hcs
 have hnb:=hF.bools
 have hpl:=hS.1
 have hAn:=hA.1
 have hal:=hF.atoms
 have hC:∀ d ∈ F.atoms,-1048576≤d.2.2∧d.2.2≤1048576:=fun d hd => (hF.at' d hd).2.2.2.2.2
 intro b12 h12
 have s12:=PH.sub_set (o:=.cells #[.int .i64 F.ints,.int .i64 F.bools,.slice aa an ac,.slice ca cn cc] 29) h12
 have B12:Blk (σ.set b12 (.cells #[.int .i64 F.ints,.int .i64 F.bools,.slice aa an ac,.slice ca cn cc] 29)) b12 29 [.int .i64 F.ints,.int .i64 F.bools,.slice aa an ac,.slice ca cn cc]:=set_self
 generalize σ.set b12 (.cells #[.int .i64 F.ints,.int .i64 F.bools,.slice aa an ac,.slice ca cn cc] 29)=ω at *
 unfold S60_1
 refine iloopS_for (G:=Sli) (fun k sl => (ptr b12,sl.a,sl.n,sl.c,a,n,c,(n:Int),(k:Int))) (fun k sl υ => CS ω υ sl (cs.take k)) n ?_ (g:=⟨none,0,0⟩)
   ⟨ω,[],.refl _,.refl _,own_nil,fun p hp => (by cases hp),by simp,fun i c hc => by simp at hc⟩
 rintro k sl υ hk hCS R hR
 unfold S60_2
 dsimp only at hCS ⊢
 have hsω:=hCS.sub
 have hσ:=s12.trans hsω
 refine br_dec.2 ⟨fun hlt => ?_,fun hge => ?_⟩
 · have hkn:k < n:=by omega
   obtain ⟨p,hp⟩:∃ p,ps[k]?=some p:=⟨_,List.getElem?_eq_getElem (by omega)⟩
   obtain ⟨c0,hc0,hstep⟩:=hat k p hp
   obtain ⟨hsort,hclit⟩:=hlit k c0 hc0
   obtain ⟨q,x,m,kk,hq,r0,r1,r2,rI,rmk,r3,r4,r5⟩:=(hS.sub hσ).2 k p hp
   have wk:IntKind.wrap .i64 ((k:Int) + 1)=((k + 1:Nat):Int):=by rw [w64 (by omega) (by omega)]; omega
   refine ⟨q,hq,by omega,by omega,_,by rw [Int.toNat_natCast]; exact r0,_,by rw [Int.toNat_natCast]; exact r1,_,by rw [Int.toNat_natCast]; exact r2,_,by rw [Int.toNat_natCast]; exact r3,_,by rw [Int.toNat_natCast]; exact r4,_,by rw [Int.toNat_natCast]; exact r5,_,_,_,_,_,_,_,_,rfl,fun b46 h46 => ?_⟩
   simp only [newSet,newSet0,newCell,newCell0,newFroz,newFroz0,List.setIfInBounds_toArray,List.set_cons_zero,List.set_cons_succ,List.getElem?_toArray,List.getElem?_cons_zero,List.getElem?_cons_succ,Option.some.injEq,exists_eq',true_and,Value.int.injEq,exists_eq_left']
   have sb:=PH.sub_set (o:=.cells #[.int .i64 p.kind,.int .i64 p.index,.slice x m kk,.int .i64 p.p,.int .i64 p.q,.int .i64 p.v] 95) h46
   generalize υ.set b46 (.cells #[.int .i64 p.kind,.int .i64 p.index,.slice x m kk,.int .i64 p.p,.int .i64 p.q,.int .i64 p.v] 95)=ω2 at *
   have hC2:=hCS.grow sb
   have hσ2:=hσ.trans sb
   have Bu:Blk ω2 b12 29 [.int .i64 F.ints,.int .i64 F.bools,.slice aa an ac,.slice ca cn cc]:=(hsω.trans sb) _ _ B12
   have g0:=Bu.get (i:=0) rfl
   rw [e0] at g0
   have htk:(cs.take k) ++ [c0]=cs.take (k + 1):=by rw [List.take_add_one,hc0]; rfl
   have hctl:(cs.take k).length=k:=by rw [List.length_take]; omega
   have hc0l:=sorted_len hsort hclit
   have keep:∀ (τ:PH) (sx:Sli),ω2.sub τ→Own τ 3 1 sx.a sx.n sx.c (ints c0)→(∀ p,sx.a=some p→ω2 p.block=none)→S60_3 C Q R (ptr b12) sl.a sl.n sl.c (k:Int) sx.a sx.n sx.c true a n c (n:Int) (k:Int) τ:=by
     intro τ sx hs hO hnew
     unfold S60_3
     refine br_iff.2 ⟨fun h => (by cases h),fun _ b hb => ?_⟩
     have hCt:=hC2.grow hs
     rw [wk]
     refine hCt.push hO (fun p1 hp1 q1 hq1 e => ?_) (by omega) hb (R:=fun a' n' c' τ => R (ptr b12,a',n',c',a,n,c,(n:Int),((k + 1:Nat):Int)) τ) fun sl' τ' hC' => ?_
     · have:=hnew p1 hp1
       obtain ⟨_,_,_,_,g3,_⟩:=hC2
       rw [e] at this
       exact g3.known hq1 this
     · rw [htk] at hC'
       exact hR sl' τ' hkn hC'
   unfold stepClause at hstep
   by_cases k1:p.kind=1
   · rw [if_pos k1] at hstep
     split at hstep
     rotate_left
     · cases hstep
     rename_i hi0
     split at hstep
     rotate_left
     · cases hstep
     rename_i d hd
     have hdl:=(List.getElem?_eq_some_iff.1 hd).1
     have hLn:=hL.1
     obtain ⟨pc,y,my,ky,hpc,hcell,hIy,hmy⟩:=(hL.sub hσ2).2 _ d hd
     refine br_iff.2 ⟨fun _ => br_dec.2 ⟨fun _ => ⟨_,Bu.get (i:=3) rfl,_,_,_,rfl,br_dec.2 ⟨fun _ => ?_,fun h => absurd (by omega) h⟩⟩,fun h => absurd hi0 h⟩,fun h => by simp [k1] at h⟩
     refine ⟨_,Bu.get (i:=3) rfl,_,_,_,rfl,pc,hpc,hi0,by omega,_,by rw [Nat.mul_one]; exact hcell,_,_,_,rfl,?_⟩
     refine c62 hIy (fun z hz => litN (hF.cl d (List.mem_of_getElem? hd) z hz) hnb) (hlen d (List.mem_of_getElem? hd)) (fun τ sx out hs ho hO hnew => ?_) fun τ _ hno => ?_
     · rw [hstep] at ho; cases ho
       exact ⟨τ,.refl _,_,_,_,_,rfl,keep τ sx hs hO hnew⟩
     · rw [hstep] at hno; cases hno
   · rw [if_neg k1] at hstep
     refine br_iff.2 ⟨fun h => absurd (by simpa using h) k1,fun _ => ?_⟩
     by_cases k2:p.kind=2
     · rw [if_pos k2] at hstep
       refine br_iff.2 ⟨fun _ => ?_,fun h => by simp [k2] at h⟩
       obtain ⟨hll,_⟩:=cyclic_litN hF hstep
       refine ⟨_,g0,_,Bu.get (i:=1) rfl,_,Bu.get (i:=2) rfl,_,Bu.get (i:=3) rfl,_,_,_,_,_,_,_,_,rfl,_,_,_,rfl,?_⟩
       refine c65 (hA.sub hσ2) hC (by omega) (rI.sub sb) (fun z hz => litN (hll z hz) hnb) hstep fun τ sx hs hO hnew => ?_
       exact ⟨τ,.refl _,_,_,_,_,rfl,keep τ sx hs hO hnew⟩
     · rw [if_neg k2] at hstep
       refine br_iff.2 ⟨fun h => absurd (by simpa using h) k2,fun _ => ?_⟩
       by_cases k3:p.kind=3
       · rw [if_pos k3] at hstep
         refine br_iff.2 ⟨fun _ => ?_,fun h => by simp [k3] at h⟩
         split at hstep
         rotate_left
         · cases hstep
         rename_i hpq
         obtain ⟨hp0,hq0⟩:=hpq
         split at hstep
         rotate_left
         · cases hstep
         rename_i c1 c2 hc1 hc2
         have hc1l:=(List.getElem?_eq_some_iff.1 hc1).1
         have hc2l:=(List.getElem?_eq_some_iff.1 hc2).1
         obtain ⟨p1,x1,m1,kk1,hp1,hcell1,hI1,hn1⟩:=hC2.get hc1
         obtain ⟨p2,x2,m2,kk2,hp2,hcell2,hI2,hn2⟩:=hC2.get hc2
         have hc1':cs[p.p.toNat]?=some c1:=by rw [List.getElem?_take] at hc1; split at hc1; exact hc1; cases hc1
         have hc2':cs[p.q.toNat]?=some c2:=by rw [List.getElem?_take] at hc2; split at hc2; exact hc2; cases hc2
         obtain ⟨so1,li1⟩:=hlit _ _ hc1'
         obtain ⟨so2,li2⟩:=hlit _ _ hc2'
         have l1:=sorted_len so1 li1
         have l2:=sorted_len so2 li2
         refine br_dec.2 ⟨fun _ => br_dec.2 ⟨fun _ => br_dec.2 ⟨fun _ => br_dec.2 ⟨fun _ => ?_,fun h => absurd (by omega) h⟩,fun h => absurd hq0 h⟩,fun h => absurd (by omega) h⟩,fun h => absurd hp0 h⟩
         simp only [Nat.mul_one]
         refine ⟨p1,hp1,hp0,by omega,_,hcell1,_,_,_,rfl,p2,hp2,hq0,by omega,_,hcell2,_,_,_,rfl,?_⟩
         refine c48 hI1 hI2 (fun z hz => litN (li1 z hz) hnb) (fun z hz => litN (li2 z hz) hnb) (by omega) (by omega) hstep fun τ sx hs hO hnew => ?_
         exact ⟨τ,.refl _,_,_,_,_,rfl,keep τ sx hs hO hnew⟩
       · rw [if_neg k3] at hstep; cases hstep
 · have hkn:k=n:=by omega
   subst hkn
   rw [List.take_of_length_le (by omega)] at hCS
   refine hQ υ sl ?_
   obtain ⟨σ',vs,h1,h2⟩:=hCS
   exact ⟨σ',vs,s12.trans h1,h2⟩
theorem c40 {σ:PH} {F:Fm} (hF:FOk F) (hlen:∀ c ∈ F.clauses,c.length≤1000000) {aa ca:Option Addr} {an ac cn cc:Nat} (hA:Atoms σ aa an F.atoms) (hL:Lists σ ca cn F.clauses) {a:Option Addr} {n c:Nat} {ps:List PStep} (hS:StepsM σ a n ps) {cs:List (List Int)} (hcs:stepsOf F ps=some cs) (hlast:cs.getLast?=some []) (hn:n≤3500000000000) {Q:Value→PH→Prop}
   (hQ:∀ τ,σ.sub τ→Q (.tuple #[.int .i64 0,.int .i64 0]) τ) :
   C 40 #[.agg #[.int .i64 F.ints,.int .i64 F.bools,.slice aa an ac,.slice ca cn cc],.slice a n c] Q σ:=by
 refine go (E40_0 _ _ _ _ _ _ _ _ _ _ _ _ _ _) ?_
 unfold S40_0
 have e0:∀ b:Nat,(Addr.mk b 0 none).add 0=⟨b,0,none⟩:=fun b => rfl
 intro b12 h12
 have s12:=PH.sub_set (o:=.cells #[.int .i64 F.ints,.int .i64 F.bools,.slice aa an ac,.slice ca cn cc] 29) h12
 have B12:Blk (σ.set b12 (.cells #[.int .i64 F.ints,.int .i64 F.bools,.slice aa an ac,.slice ca cn cc] 29)) b12 29 [.int .i64 F.ints,.int .i64 F.bools,.slice aa an ac,.slice ca cn cc]:=set_self
 generalize σ.set b12 (.cells #[.int .i64 F.ints,.int .i64 F.bools,.slice aa an ac,.slice ca cn cc] 29)=ω at *
 have g0:=B12.get (i:=0) rfl
 rw [e0] at g0
 have hcl:=stepsOf_len hcs
 have hpl:=hS.1
 refine ⟨_,g0,_,B12.get (i:=1) rfl,_,B12.get (i:=2) rfl,_,B12.get (i:=3) rfl,_,_,_,_,_,_,_,_,rfl,?_⟩
 refine c60 hF hlen (hA.sub s12) (hL.sub s12) (hS.sub s12) hcs hn fun τ sl hC => ⟨τ,.refl _,_,_,_,_,rfl,br_dec.2 ⟨fun h => absurd h (by decide),fun _ => br_iff.2 ⟨fun h => ?_,fun h => ?_⟩⟩⟩
 · have h:n=0:=by simpa using h
   have:cs=[]:=List.length_eq_zero_iff.1 (by omega)
   rw [this] at hlast; cases hlast
 · have h:n ≠ 0:=by
     intro h0; rw [h0] at h; simp at h
   have hlst:cs[n - 1]?=some []:=by
     rw [List.getLast?_eq_getElem?] at hlast
     rw [show n - 1=cs.length - 1 from by omega]; exact hlast
   obtain ⟨p,x,m,k,hp,hcell,hI,hsn⟩:=hC.get hlst
   have hm:=hI.1
   have w:IntKind.wrap .i64 ((n:Int) - 1)=((n - 1:Nat):Int):=by rw [w64 (by omega) (by omega)]; omega
   rw [w]
   refine ⟨p,hp,by omega,by omega,_,by rw [Int.toNat_natCast,Nat.mul_one]; exact hcell,_,_,_,rfl,br_dec.2 ⟨fun h => ?_,fun _ => hQ τ (s12.trans hC.sub)⟩⟩
   simp at hm
   omega
def Bools (σ:PH) (a:Option Addr) (n:Nat) (l:List Bool):Prop:=l.length=n∧Row σ a (boolsV l)
theorem Bools.sub {σ τ:PH} (h:σ.sub τ) {a:Option Addr} {n:Nat} {l:List Bool} (hr:Bools σ a n l):Bools τ a n l:=⟨hr.1,hr.2.sub h⟩
def holdsB (bl:List Bool) (x:Int):Bool:=if x=0 ∨ x > bl.length ∨ x < -(bl.length:Int) then false else if 0 < x then bl.getD (x - 1).toNat false else !bl.getD (-x - 1).toNat false
theorem c29 {σ:PH} {a:Option Addr} {n c:Nat} {bl:List Bool} (hB:Bools σ a n bl) (hn:n≤1000000) {a2:Option Addr} {n2 c2:Nat} {x:Int} (hl:Lit x) {Q:Value→PH→Prop} (hQ:∀ τ,σ.sub τ→Q (.bool (holdsB bl x)) τ) :
   C 29 #[.int .i64 x,.agg #[.slice a n c,.slice a2 n2 c2]] Q σ:=by
 refine go (E29_0 _ _ _ _ _ _ _ _ _ _) ?_
 unfold S29_0
 have e0:∀ b:Nat,(Addr.mk b 0 none).add 0=⟨b,0,none⟩:=fun b => rfl
 obtain ⟨h1,h2⟩:=hl
 have hbl:=hB.1
 intro b8 h8
 have s8:=PH.sub_set (o:=.cells #[.slice a n c,.slice a2 n2 c2] 35) h8
 have B8:Blk (σ.set b8 (.cells #[.slice a n c,.slice a2 n2 c2] 35)) b8 35 [.slice a n c,.slice a2 n2 c2]:=set_self
 generalize σ.set b8 (.cells #[.slice a n c,.slice a2 n2 c2] 35)=ω at *
 have g0:=B8.get (i:=0) rfl
 rw [e0] at g0
 have wn:IntKind.wrap .i64 (0 - (n:Int))=-(n:Int):=by rw [w64 (by omega) (by omega)]; omega
 have no:(x=0 ∨ x > bl.length ∨ x < -(bl.length:Int))→Q (.bool false) ω:=fun h => by
   have:=hQ ω s8
   unfold holdsB at this
   rwa [if_pos h] at this
 refine br_iff.2 ⟨fun h => no (.inl (by simpa using h)),fun h0 => ⟨_,g0,_,_,_,rfl,br_dec.2 ⟨fun h => no (by omega),fun hle => ⟨_,g0,_,_,_,rfl,?_⟩⟩⟩⟩
 have hx0:x ≠ 0:=by simpa using h0
 rw [wn]
 refine br_dec.2 ⟨fun h => no (by omega),fun hge => ?_⟩
 have yes:=hQ ω s8
 unfold holdsB at yes
 rw [if_neg (by omega)] at yes
 refine br_dec.2 ⟨fun hpos => ⟨_,g0,_,_,_,rfl,?_⟩,fun hneg => ⟨_,g0,_,_,_,rfl,?_⟩⟩
 · rw [if_pos (by omega)] at yes
   have w1:IntKind.wrap .i64 (x - 1)=(((x - 1).toNat:Nat):Int):=by rw [w64 (by omega) (by omega)]; omega
   have hi:(x - 1).toNat < bl.length:=by omega
   obtain ⟨p,hp,hc⟩:=(hB.sub s8).2.at (i:=(x - 1).toNat) (v:=.bool (bl.getD (x - 1).toNat false)) (by rw [boolsV,List.getElem?_map,List.getElem?_eq_getElem hi,List.getD_eq_getElem?_getD,List.getElem?_eq_getElem hi]; rfl)
   refine ⟨p,hp,?_⟩
   rw [w1]
   exact ⟨by omega,by omega,_,by rw [Int.toNat_natCast,Nat.mul_one]; exact hc,_,rfl,yes⟩
 · rw [if_neg (by omega)] at yes
   have w1:IntKind.wrap .i64 (IntKind.wrap .i64 (0 - x) - 1)=(((-x - 1).toNat:Nat):Int):=by rw [w64 (n:=0 - x) (by omega) (by omega),w64 (by omega) (by omega)]; omega
   have hi:(-x - 1).toNat < bl.length:=by omega
   obtain ⟨p,hp,hc⟩:=(hB.sub s8).2.at (i:=(-x - 1).toNat) (v:=.bool (bl.getD (-x - 1).toNat false)) (by rw [boolsV,List.getElem?_map,List.getElem?_eq_getElem hi,List.getD_eq_getElem?_getD,List.getElem?_eq_getElem hi]; rfl)
   refine ⟨p,hp,?_⟩
   rw [w1]
   exact ⟨by omega,by omega,_,by rw [Int.toNat_natCast,Nat.mul_one]; exact hc,_,rfl,yes⟩
theorem c23 {σ:PH} {a:Option Addr} {n c:Nat} {bl:List Bool} (hB:Bools σ a n bl) (hn:n≤1000000) {a2:Option Addr} {n2 c2:Nat} {a3:Option Addr} {n3 c3:Nat} {l:List Int} (hI:Ints σ a3 n3 l) (hl:∀ x ∈ l,Lit x) (hll:l.length≤1000000) {Q:Value→PH→Prop} (hQ:∀ τ,σ.sub τ→Q (.bool (l.any (holdsB bl))) τ) :
   C 23 #[.slice a3 n3 c3,.agg #[.slice a n c,.slice a2 n2 c2]] Q σ:=by
 refine go (E23_0 _ _ _ _ _ _ _ _ _ _ _ _) ?_
 unfold S23_0
 have e0:∀ b:Nat,(Addr.mk b 0 none).add 0=⟨b,0,none⟩:=fun b => rfl
 have hln:=hI.1
 intro b8 h8
 have s8:=PH.sub_set (o:=.cells #[.slice a n c,.slice a2 n2 c2] 35) h8
 have B8:Blk (σ.set b8 (.cells #[.slice a n c,.slice a2 n2 c2] 35)) b8 35 [.slice a n c,.slice a2 n2 c2]:=set_self
 generalize σ.set b8 (.cells #[.slice a n c,.slice a2 n2 c2] 35)=ω at *
 unfold S23_1
 refine iloopS_for (G:=Unit) (fun k _ => (ptr b8,a3,n3,c3,(n3:Int),(k:Int))) (fun k _ υ => ω.sub υ∧l.any (holdsB bl)=(l.drop k).any (holdsB bl)) n3 ?_ (g:=()) ⟨.refl _,rfl⟩
 rintro k _ υ hk ⟨hs,he⟩ R hR
 unfold S23_2
 dsimp only
 refine br_dec.2 ⟨fun hlt => ?_,fun hge => ?_⟩
 · have hkn:k < n3:=by omega
   obtain ⟨x,hx⟩:∃ x,l[k]?=some x:=⟨_,List.getElem?_eq_getElem (by omega)⟩
   have hdk:l.drop k=x :: l.drop (k + 1):=by
     rw [List.drop_eq_getElem_cons (by omega)]
     congr 1
     exact (List.getElem?_eq_some_iff.1 hx).2
   rw [hdk,List.any_cons] at he
   obtain ⟨p,hp,hc⟩:=(hI.sub (s8.trans hs)).2.at (i:=k) (v:=.int .i64 x) (by simp [hx])
   have wk:IntKind.wrap .i64 ((k:Int) + 1)=((k + 1:Nat):Int):=by rw [w64 (by omega) (by omega)]; omega
   have Bu:Blk υ b8 35 _:=hs _ _ B8
   have g0:=Bu.get (i:=0) rfl
   rw [e0] at g0
   refine ⟨p,hp,by omega,by omega,_,by rw [Int.toNat_natCast,Nat.mul_one]; exact hc,x,rfl,_,g0,_,Bu.get (i:=1) rfl,_,_,_,_,_,_,rfl,?_⟩
   refine c29 (hB.sub (s8.trans hs)) hn (hl x (List.mem_of_getElem? hx)) fun τ hsτ => ⟨τ,.refl _,_,rfl,br_iff.2 ⟨fun h => ?_,fun h => ?_⟩⟩
   · have:=hQ τ ((s8.trans hs).trans hsτ)
     rw [he,h,Bool.true_or] at this
     exact this
   · rw [wk]
     refine hR () _ hkn ⟨hs.trans hsτ,?_⟩
     rw [he,h,Bool.false_or]
 · have hkn:k=n3:=by omega
   subst hkn
   rw [List.drop_eq_nil_of_le (by omega)] at he
   have:=hQ υ (s8.trans hs)
   rw [he] at this
   exact this
theorem litT_holds {n:Nat} {bl:List Bool} (hb:bl.length=n) {y:Int} (hy:LitN n y) (h:litT bl y):holdsB bl y=true:=by
 obtain ⟨h1,h2⟩:=hy
 unfold holdsB
 rw [if_neg (by omega)]
 unfold litT at h
 split at h
 · rename_i hp; rw [if_pos hp]; exact h
 · rename_i hp; rw [if_neg hp,h]; rfl
theorem c39 {σ:PH} {F:Fm} (hF:FOk F) (hlen:∀ c ∈ F.clauses,c.length≤1000000) {aa ca:Option Addr} {an ac cn cc:Nat} (hA:Atoms σ aa an F.atoms) (hL:Lists σ ca cn F.clauses) {ba xa:Option Addr} {bc xc:Nat} {bl:List Bool} {x:Nat→Int} (hB:Bools σ ba F.bools bl) (hX:Ints σ xa F.ints (tab F.ints x)) (hM:SatM F bl x) {Q:Value→PH→Prop} (hQ:∀ τ,σ.sub τ→Q (.bool true) τ) :
   C 39 #[.agg #[.int .i64 F.ints,.int .i64 F.bools,.slice aa an ac,.slice ca cn cc],.agg #[.slice ba F.bools bc,.slice xa F.ints xc]] Q σ:=by
 refine go (E39_0 _ _ _ _ _ _ _ _ _ _ _ _ _ _ _ _ _) ?_
 unfold S39_0
 have e0:∀ b:Nat,(Addr.mk b 0 none).add 0=⟨b,0,none⟩:=fun b => rfl
 have hnb:=hF.bools
 have hal:=hF.atoms
 have hAn:=hA.1
 have hLn:=hL.1
 have hcl:=hF.cn
 intro b15 h15
 have s15:=PH.sub_set (o:=.cells #[.int .i64 F.ints,.int .i64 F.bools,.slice aa an ac,.slice ca cn cc] 29) h15
 have B15:Blk (σ.set b15 (.cells #[.int .i64 F.ints,.int .i64 F.bools,.slice aa an ac,.slice ca cn cc] 29)) b15 29 [.int .i64 F.ints,.int .i64 F.bools,.slice aa an ac,.slice ca cn cc]:=set_self
 generalize σ.set b15 (.cells #[.int .i64 F.ints,.int .i64 F.bools,.slice aa an ac,.slice ca cn cc] 29)=ω0 at *
 intro b16 h16
 have s16:=PH.sub_set (o:=.cells #[.slice ba F.bools bc,.slice xa F.ints xc] 35) h16
 have B16:Blk (ω0.set b16 (.cells #[.slice ba F.bools bc,.slice xa F.ints xc] 35)) b16 35 [.slice ba F.bools bc,.slice xa F.ints xc]:=set_self
 have B15:=s16 _ _ B15
 have sω:=s15.trans s16
 generalize ω0.set b16 (.cells #[.slice ba F.bools bc,.slice xa F.ints xc] 35)=ω at *
 replace B15:Blk ω b15 29 [.int .i64 F.ints,.int .i64 F.bools,.slice aa an ac,.slice ca cn cc]:=B15
 have g15:=B15.get (i:=0) rfl
 have g16:=B16.get (i:=0) rfl
 rw [e0] at g15 g16
 refine ⟨_,g16,_,_,_,rfl,_,B15.get (i:=1) rfl,_,rfl,br_iff.2 ⟨fun h => by simp at h,fun _ => ⟨_,B16.get (i:=1) rfl,_,_,_,rfl,_,g15,_,rfl,br_iff.2 ⟨fun h => by simp at h,fun _ => ?_⟩⟩⟩⟩
 refine ⟨_,B15.get (i:=2) rfl,_,_,_,rfl,?_⟩
 unfold S39_1
 refine iloopS_for (G:=Unit) (fun k _ => (ptr b15,ptr b16,aa,an,ac,(an:Int),(k:Int))) (fun k _ υ => ω.sub υ) an ?_ (g:=()) (.refl _)
 rintro k _ υ hk hs R hR
 unfold S39_2
 dsimp only
 have hσ:=sω.trans hs
 refine br_dec.2 ⟨fun hlt => ?_,fun hge => ?_⟩
 · have hkn:k < an:=by omega
   obtain ⟨d,hd⟩:∃ d,F.atoms[k]?=some d:=⟨_,List.getElem?_eq_getElem (by omega)⟩
   obtain ⟨q1,q2,q3,q4,q5,q6,q7⟩:=hF.at' d (List.mem_of_getElem? hd)
   obtain ⟨p,hp,a0,a1,a2⟩:=(hA.sub hσ).2 k d hd
   have hAt:=hM.at' k d hd
   have wk:IntKind.wrap .i64 ((k:Int) + 1)=((k + 1:Nat):Int):=by rw [w64 (by omega) (by omega)]; omega
   refine ⟨p,hp,by omega,by omega,_,by rw [Int.toNat_natCast]; exact a0,_,by rw [Int.toNat_natCast]; exact a1,_,by rw [Int.toNat_natCast]; exact a2,_,_,_,rfl,fun b54 h54 => ?_⟩
   have sb:=PH.sub_set (o:=.cells #[.int .i64 d.1,.int .i64 d.2.1,.int .i64 d.2.2] 50) h54
   simp only [newSet,newSet0,newCell,newCell0,newFroz,newFroz0,List.setIfInBounds_toArray,List.set_cons_zero,List.set_cons_succ,List.getElem?_toArray,List.getElem?_cons_zero,List.getElem?_cons_succ,Option.some.injEq,exists_eq',true_and,Value.int.injEq,exists_eq_left']
   generalize υ.set b54 (.cells #[.int .i64 d.1,.int .i64 d.2.1,.int .i64 d.2.2] 50)=ω2 at *
   have Bu:Blk ω2 b16 35 [.slice ba F.bools bc,.slice xa F.ints xc]:=(hs.trans sb) _ _ B16
   have gu:=Bu.get (i:=0) rfl
   rw [e0] at gu
   have hσ2:=hσ.trans sb
   have hkb:k < bl.length:=by rw [hM.len]; omega
   have hdX:dX d < F.ints:=by unfold dX; omega
   have hdY:dY d < F.ints:=by unfold dY; omega
   obtain ⟨pb,hpb,hcb⟩:=(hB.sub hσ2).2.at (i:=k) (v:=.bool (bl.getD k false)) (by rw [boolsV,List.getElem?_map,List.getElem?_eq_getElem hkb,List.getD_eq_getElem?_getD,List.getElem?_eq_getElem hkb]; rfl)
   obtain ⟨px,hpx,hcx⟩:=(hX.sub hσ2).2.at (i:=dX d) (v:=.int .i64 (x (dX d))) (by rw [List.getElem?_map,tab_get hdX]; rfl)
   obtain ⟨py,hpy,hcy⟩:=(hX.sub hσ2).2.at (i:=dY d) (v:=.int .i64 (x (dY d))) (by rw [List.getElem?_map,tab_get hdY]; rfl)
   have r1:=hM.rng _ hdX
   have r2:=hM.rng _ hdY
   have tX:d.1.toNat=dX d:=rfl
   have tY:d.2.1.toNat=dY d:=rfl
   refine ⟨_,gu,_,_,_,rfl,pb,hpb,by omega,by omega,_,by rw [Int.toNat_natCast,Nat.mul_one]; exact hcb,_,rfl,_,Bu.get (i:=1) rfl,_,_,_,rfl,px,hpx,q1,q2,_,by rw [tX,Nat.mul_one]; exact hcx,_,rfl,_,Bu.get (i:=1) rfl,_,_,_,rfl,py,hpy,q3,q4,_,by rw [tY,Nat.mul_one]; exact hcy,_,rfl,?_⟩
   rw [w64 (n:=x (dX d) - x (dY d)) (by omega) (by omega)]
   have hbe:bl.getD k false=decide (x (dX d) - x (dY d)≤d.2.2):=by
     by_cases h:x (dX d) - x (dY d)≤d.2.2
     · rw [decide_eq_true h]; exact hAt.2 h
     · rw [decide_eq_false h]
       cases hb:bl.getD k false with
       | false => rfl
       | true => exact absurd (hAt.1 hb) h
   rw [hbe]
   refine br_iff.2 ⟨fun h => by simp at h,fun _ => ?_⟩
   rw [wk]
   exact hR () _ hkn (hs.trans sb)
 · refine ⟨_,hs.cell (B15.get (i:=3) rfl),_,_,_,rfl,?_⟩
   unfold S39_3
   refine iloopS_for (G:=Unit) (fun k _ => (ptr b16,ca,cn,cc,(cn:Int),(k:Int))) (fun k _ υ => ω.sub υ) cn ?_ (g:=()) hs
   clear hs hσ hR R hge hk υ k
   rintro k _ υ hk hs R hR
   unfold S39_4
   dsimp only
   have hσ:=sω.trans hs
   refine br_dec.2 ⟨fun hlt => ?_,fun hge => hQ υ hσ⟩
   have hkn:k < cn:=by omega
   obtain ⟨c,hc⟩:∃ c,F.clauses[k]?=some c:=⟨_,List.getElem?_eq_getElem (by omega)⟩
   have hcm:=List.mem_of_getElem? hc
   obtain ⟨p,y,m,kk,hp,hcell,hI,hmk⟩:=(hL.sub hσ).2 k c hc
   have wk:IntKind.wrap .i64 ((k:Int) + 1)=((k + 1:Nat):Int):=by rw [w64 (by omega) (by omega)]; omega
   have Bu:Blk υ b16 35 [.slice ba F.bools bc,.slice xa F.ints xc]:=hs _ _ B16
   have gu:=Bu.get (i:=0) rfl
   rw [e0] at gu
   refine ⟨p,hp,by omega,by omega,_,by rw [Int.toNat_natCast,Nat.mul_one]; exact hcell,_,_,_,rfl,_,gu,_,Bu.get (i:=1) rfl,_,_,_,_,_,_,rfl,?_⟩
   refine c23 (hB.sub hσ) (by omega) hI (fun z hz => litN (hF.cl c hcm z hz) hnb) (hlen c hcm) fun τ hsτ => ⟨τ,.refl _,_,rfl,br_iff.2 ⟨fun h => ?_,fun _ => ?_⟩⟩
   · obtain ⟨z,hz,hzt⟩:=hM.cl c hcm
     have:c.any (holdsB bl)=true:=List.any_eq_true.2 ⟨z,hz,litT_holds hM.len (hF.cl c hcm z hz) hzt⟩
     rw [this] at h; cases h
   · rw [wk]
     exact hR () _ hkn (hs.trans hsτ)
end Go.Proofs.Ythfnjogadngfiaa
namespace Go.Sv
def setV (val:List Int) (x:Int):Option (List Int) :=
 if x=0 ∨ x > val.length ∨ x < -(val.length:Int) then none else if val.getD (vr x) 0=-sgn x then none else some (val.set (vr x) (sgn x))
theorem setV_len {val val':List Int} {x:Int} (h:setV val x=some val'):val'.length=val.length:=by
 unfold setV at h
 split at h
 · cases h
 · split at h
   · cases h
   · cases h; simp
def setAll:List Int→List Int→Option (List Int)
 | val,[] => some val
 | val,x :: l => match setV val x with | none => none | some v => setAll v l
def scan1 (val:List Int) (x:Int) (s:Int × Nat × Bool):Int × Nat × Bool :=
 if valS val x > 0 then (s.1,s.2.1,true) else if valS val x=0∧x ≠ s.1 then (x,s.2.1 + 1,s.2.2) else s
def scanC (val:List Int):List Int→Int × Nat × Bool→Int × Nat × Bool
 | [],s => s
 | x :: l,s => scanC val l (scan1 val x s)
def roundP:List (List Int)→List Int→Bool→Option (List Int × Bool)
 | [],val,ch => some (val,ch)
 | c :: cs,val,ch =>
   let s:=scanC val c (0,0,false)
   if s.2.2=true ∨ 1 < s.2.1 then roundP cs val ch else if s.2.1=0 then none else roundP cs ((setV val s.1).getD val) true
inductive PropR (cs:List (List Int)):List Int→Option (List Int)→Prop
 | stop {val:List Int}:roundP cs val false=none→PropR cs val none
 | done {val val':List Int}:roundP cs val false=some (val',false)→PropR cs val (some val')
 | go {val val':List Int} {r:Option (List Int)}:roundP cs val false=some (val',true)→PropR cs val' r→PropR cs val r
def litsTo (val:List Int) (k:Nat):List Int:=((List.range k).filter fun i => val.getD i 0 != 0).map fun i => val.getD i 0 * ((i:Int) + 1)
theorem litsTo_succ (val:List Int) (k:Nat):litsTo val (k + 1)=litsTo val k ++ (if val.getD k 0=0 then [] else [val.getD k 0 * ((k:Int) + 1)]):=by
 unfold litsTo
 rw [List.range_succ,List.filter_append,List.map_append]
 congr 1
 by_cases h:val.getD k 0=0
 · rw [if_pos h,List.filter_cons_of_neg (by rw [h]; simp)]; rfl
 · rw [if_neg h,List.filter_cons_of_pos (by simpa using h)]; rfl
theorem litsTo_len (val:List Int) (k:Nat):(litsTo val k).length≤k:=by
 unfold litsTo
 rw [List.length_map]
 exact Nat.le_trans (List.length_filter_le _ _) (by simp)
theorem setV_small {val val':List Int} {x:Int} (h:setV val x=some val') (hs:∀ y ∈ val,-1≤y∧y≤1):∀ y ∈ val',-1≤y∧y≤1:=by
 unfold setV at h
 split at h
 · cases h
 · split at h
   · cases h
   · cases h
     intro y hy
     rcases List.mem_or_eq_of_mem_set hy with hy | rfl
     · exact hs y hy
     · unfold sgn; split <;> omega
end Go.Sv
namespace Go.Proofs.Ythfnjogadngfiaa
open Go.Sl Go.Sv
theorem c42 {σ:PH} {b15 b16 n:Nat} {val:List Int} (h16:Blk σ b16 33 [.slice (some (ptr b15)) n n]) (h15:Blk σ b15 3 (ints val)) (hn:val.length=n) (hn1:n≤1000000) {x:Int} {Q:Value→PH→Prop}
   (hno:setV val x=none→Q (.bool false) σ) (hok:∀ val' τ,setV val x=some val'→Blk τ b15 3 (ints val')→Step (·=b15) σ τ→Q (.bool true) τ) :
   C 42 #[.int .i64 x,.pointer (some (ptr b16))] Q σ:=by
 refine go (E42_0 _ _ _ _ _) ?_
 unfold S42_0
 have e0:∀ b:Nat,(Addr.mk b 0 none).add 0=⟨b,0,none⟩:=fun b => rfl
 have g:=h16.get (i:=0) rfl
 rw [e0] at g
 have wn:IntKind.wrap .i64 (0 - (n:Int))=-(n:Int):=by rw [w64 (by omega) (by omega)]; omega
 have no:(x=0 ∨ x > val.length ∨ x < -(val.length:Int))→Q (.bool false) σ:=fun h => hno (by unfold setV; rw [if_pos h])
 refine br_iff.2 ⟨fun h => no (.inl (by simpa using h)),fun h0 => ⟨_,g,_,_,_,rfl,br_dec.2 ⟨fun h => no (by omega),fun hle => ⟨_,g,_,_,_,rfl,?_⟩⟩⟩⟩
 have hx0:x ≠ 0:=by simpa using h0
 rw [wn]
 refine br_dec.2 ⟨fun h => no (by omega),fun hge => ?_⟩
 have hv:vr x < val.length:=by unfold vr; omega
 have hc:σ.cell? ((ptr b15).add (vr x))=some (.int .i64 (val.getD (vr x) 0)):=h15.get (i:=vr x) (by rw [ints,List.getElem?_map,List.getElem?_eq_getElem hv,List.getD_eq_getElem?_getD,List.getElem?_eq_getElem hv]; rfl)
 have hf:=h15.froz (vr x)
 have hset:∀ w:Int,Blk (σ.setCell ((ptr b15).add (vr x)) (.int .i64 w)) b15 3 (ints (val.set (vr x) w))∧Step (·=b15) σ (σ.setCell ((ptr b15).add (vr x)) (.int .i64 w)):=fun w => by
   refine ⟨?_,setCell_step.weaken fun b hb => hb.trans (add_block _ _)⟩
   have:=h15.set (vr x) (.int .i64 w)
   unfold ints at this ⊢
   rwa [List.map_set]
 have hsv:setV val x=if val.getD (vr x) 0=-sgn x then none else some (val.set (vr x) (sgn x)):=by
   unfold setV
   rw [if_neg (by omega)]
 refine br_dec.2 ⟨fun hneg => ?_,fun hpos => ?_⟩
 · have w1:IntKind.wrap .i64 (IntKind.wrap .i64 (0 - x) - 1)=((vr x:Nat):Int):=by unfold vr; rw [w64 (n:=0 - x) (by omega) (by omega),w64 (by omega) (by omega)]; omega
   have w2:IntKind.wrap .i64 (0 - (-1:Int))=1:=by rw [w64 (by omega) (by omega)]; rfl
   have hs:sgn x=-1:=if_pos hneg
   rw [hs] at hsv
   rw [w1,w2]
   simp only [Int.toNat_natCast,Nat.mul_one]
   refine ⟨_,g,_,_,_,rfl,_,rfl,by omega,by omega,_,hc,_,rfl,br_iff.2 ⟨fun h => ?_,fun h => ⟨_,g,_,_,_,rfl,_,rfl,by omega,by omega,⟨_,hc⟩,hf,?_⟩⟩⟩
   · have h:val.getD (vr x) 0=1:=by simpa using h
     exact hno (by rw [hsv,if_pos (by omega)])
   · have h:val.getD (vr x) 0 ≠ 1:=by simpa using h
     obtain ⟨k1,k2⟩:=hset (-1)
     exact hok _ _ (by rw [hsv,if_neg (by omega)]) k1 k2
 · have w1:IntKind.wrap .i64 (x - 1)=((vr x:Nat):Int):=by unfold vr; rw [w64 (by omega) (by omega)]; omega
   have w2:IntKind.wrap .i64 (0 - (1:Int))=-1:=by rw [w64 (by omega) (by omega)]; rfl
   have hs:sgn x=1:=if_neg hpos
   rw [hs] at hsv
   rw [w1,w2]
   simp only [Int.toNat_natCast,Nat.mul_one]
   refine ⟨_,g,_,_,_,rfl,_,rfl,by omega,by omega,_,hc,_,rfl,br_iff.2 ⟨fun h => ?_,fun h => ⟨_,g,_,_,_,rfl,_,rfl,by omega,by omega,⟨_,hc⟩,hf,?_⟩⟩⟩
   · have h:val.getD (vr x) 0=-1:=by simpa using h
     exact hno (by rw [hsv,if_pos (by omega)])
   · have h:val.getD (vr x) 0 ≠ -1:=by simpa using h
     obtain ⟨k1,k2⟩:=hset 1
     exact hok _ _ (by rw [hsv,if_neg (by omega)]) k1 k2
structure PV (σ υ:PH) (ff:List Value) (b12 b15 b16 n:Nat) (val:List Int):Prop where
 sub:σ.sub υ
 k12:Blk υ b12 29 ff
 k16:Blk υ b16 33 [.slice (some (ptr b15)) n n]
 k15:Blk υ b15 3 (ints val)
 n15:σ b15=none
 d1:b12 ≠ b15
 d2:b16 ≠ b15
 len:val.length=n
 sm:∀ y ∈ val,-1≤y∧y≤1
theorem PV.set {σ υ τ:PH} {ff:List Value} {b12 b15 b16 n:Nat} {val val':List Int} (h:PV σ υ ff b12 b15 b16 n val) {x:Int} (hv:setV val x=some val') (k:Blk τ b15 3 (ints val')) (st:Step (·=b15) υ τ):PV σ τ ff b12 b15 b16 n val' :=
 ⟨sub_step_new h.sub st (by rintro b rfl; exact h.n15),h.k12.keep st h.d1,h.k16.keep st h.d2,k,h.n15,h.d1,h.d2,(setV_len hv).trans h.len,setV_small hv h.sm⟩
theorem PV.lits {σ υ:PH} {ff:List Value} {b12 b15 b16 n:Nat} {val:List Int} (h:PV σ υ ff b12 b15 b16 n val):∀ y ∈ val,Lit y:=fun y hy => by have:=h.sm y hy; unfold Lit; omega
theorem scan_lit {val:List Int} {N:Nat}:∀ {c:List Int} {s:Int × Nat × Bool},(∀ x ∈ c,LitN N x)→(s.1=0 ∨ LitN N s.1)→(s.2.1=0 ∨ LitN N s.1)→((scanC val c s).1=0 ∨ LitN N (scanC val c s).1)∧((scanC val c s).2.1=0 ∨ LitN N (scanC val c s).1)
 | [],s,_,h1,h2 => ⟨h1,h2⟩
 | x :: c,s,hc,h1,h2 => by
   unfold scanC
   refine scan_lit (fun y hy => hc y (List.mem_cons_of_mem _ hy)) ?_ ?_
   · unfold scan1
     split
     · exact h1
     · split
       · exact .inr (hc x List.mem_cons_self)
       · exact h1
   · unfold scan1
     split
     · exact h2
     · split
       · exact .inr (hc x List.mem_cons_self)
       · exact h2
theorem c25 {σ:PH} {F:Fm} (hF:FOk F) (hlen:∀ c ∈ F.clauses,c.length≤1000000) {aa ca:Option Addr} {an ac cn cc:Nat} (hL:Lists σ ca cn F.clauses) {a:Option Addr} {n c:Nat} {l:List Int} (hI:Ints σ a n l) (hll:l.length≤1000000)
   {Q:Value→PH→Prop} (hno:(setAll (List.replicate F.bools 0) l=none ∨ ∃ v,setAll (List.replicate F.bools 0) l=some v∧PropR F.clauses v none)→∀ τ,σ.sub τ→Q (.tuple #[.slice none 0 0,.bool false]) τ)
   (hok:∀ v val τ (sl:Sli),setAll (List.replicate F.bools 0) l=some v→PropR F.clauses v (some val)→σ.sub τ→Own τ 3 1 sl.a sl.n sl.c (ints (litsTo val F.bools))→(∀ p,sl.a=some p→σ p.block=none)→Q (.tuple #[sl.v,.bool true]) τ)
   (hdec:∀ v,setAll (List.replicate F.bools 0) l=some v→∃ r,PropR F.clauses v r) :
   C 25 #[.agg #[.int .i64 F.ints,.int .i64 F.bools,.slice aa an ac,.slice ca cn cc],.slice a n c] Q σ:=by
 refine go (E25_0 _ _ _ _ _ _ _ _ _ _ _ _ _ _) ?_
 unfold S25_0
 have e0:∀ b:Nat,(Addr.mk b 0 none).add 0=⟨b,0,none⟩:=fun b => rfl
 have hnb:=hF.bools
 have hln:=hI.1
 have hLn:=hL.1
 have hcl:=hF.cn
 intro b12 h12
 have s12:=PH.sub_set (o:=.cells #[.int .i64 F.ints,.int .i64 F.bools,.slice aa an ac,.slice ca cn cc] 29) h12
 have B12:Blk (σ.set b12 (.cells #[.int .i64 F.ints,.int .i64 F.bools,.slice aa an ac,.slice ca cn cc] 29)) b12 29 [.int .i64 F.ints,.int .i64 F.bools,.slice aa an ac,.slice ca cn cc]:=set_self
 generalize σ.set b12 (.cells #[.int .i64 F.ints,.int .i64 F.bools,.slice aa an ac,.slice ca cn cc] 29)=ω at *
 refine ⟨_,B12.get (i:=1) rfl,_,rfl,?_⟩
 have wif:(if (F.bools:Int) < (0:Int) then (0:Int) else (F.bools:Int))=(F.bools:Int):=if_neg (by omega)
 rw [wif]
 refine ⟨by omega,by omega,by omega,by omega,fun b15 h15 b16 => ?_⟩
 simp only [Int.toNat_natCast]
 have s15:=PH.sub_set (o:=.cells (zeros (.int .i64 0) F.bools) 3) h15
 have B15:Blk (ω.set b15 (.cells (zeros (.int .i64 0) F.bools) 3)) b15 3 (ints (List.replicate F.bools 0)):=by
   have:zeros (.int .i64 0) F.bools=(ints (List.replicate F.bools 0)).toArray:=by rw [zeros_one rfl,ints,List.map_replicate]
   rw [this]; exact set_self
 generalize ω.set b15 (.cells (zeros (.int .i64 0) F.bools) 3)=ω1 at *
 intro h16
 simp only [newSet,newSet0,newCell,newCell0,newFroz,newFroz0,List.setIfInBounds_toArray,List.set_cons_zero,List.set_cons_succ,List.getElem?_toArray,List.getElem?_cons_zero,List.getElem?_cons_succ,Option.some.injEq,exists_eq',true_and,exists_eq_left']
 have s16:=PH.sub_set (o:=.cells #[.slice (some ⟨b15,0,none⟩) F.bools F.bools] 33) h16
 have B16:Blk (ω1.set b16 (.cells #[.slice (some ⟨b15,0,none⟩) F.bools F.bools] 33)) b16 33 [.slice (some (ptr b15)) F.bools F.bools]:=set_self
 generalize ω1.set b16 (.cells #[.slice (some ⟨b15,0,none⟩) F.bools F.bools] 33)=ω2 at *
 have P0:PV σ ω2 [.int .i64 F.ints,.int .i64 F.bools,.slice aa an ac,.slice ca cn cc] b12 b15 b16 F.bools (List.replicate F.bools 0) :=
   ⟨(s12.trans s15).trans s16,s16 _ _ (s15 _ _ B12),B16,s16 _ _ B15,new_of s12 h15,(ne_new B12 h15).symm,ne_new B15 h16,by simp,fun y hy => by rw [List.mem_replicate] at hy; omega⟩
 unfold S25_1
 refine iloopS_for (G:=List Int) (fun k val => (ptr b12,ptr b16,ptr b16,a,n,c,(n:Int),(k:Int))) (fun k val υ => PV σ υ [.int .i64 F.ints,.int .i64 F.bools,.slice aa an ac,.slice ca cn cc] b12 b15 b16 F.bools val∧setAll val (l.drop k)=setAll (List.replicate F.bools 0) l) n ?_ (g:=List.replicate F.bools 0) ⟨P0,rfl⟩
 rintro k val υ hk ⟨P,hs⟩ R hR
 unfold S25_2
 dsimp only
 refine br_dec.2 ⟨fun hlt => ?_,fun hge => ?_⟩
 · have hkn:k < n:=by omega
   obtain ⟨x,hx⟩:∃ x,l[k]?=some x:=⟨_,List.getElem?_eq_getElem (by omega)⟩
   obtain ⟨p,hp,hc⟩:=(hI.sub P.sub).2.at (i:=k) (v:=.int .i64 x) (by simp [hx])
   have wk:IntKind.wrap .i64 ((k:Int) + 1)=((k + 1:Nat):Int):=by rw [w64 (by omega) (by omega)]; omega
   have hdk:l.drop k=x :: l.drop (k + 1):=by
     rw [List.drop_eq_getElem_cons (by omega)]
     congr 1
     exact (List.getElem?_eq_some_iff.1 hx).2
   rw [hdk,setAll] at hs
   refine ⟨p,hp,by omega,by omega,_,by rw [Int.toNat_natCast,Nat.mul_one]; exact hc,x,rfl,?_⟩
   refine c42 P.k16 P.k15 P.len (by omega) (fun h => ⟨υ,.refl _,_,rfl,br_iff.2 ⟨fun _ => ?_,fun h => (by cases h)⟩⟩) fun val' τ h hB hst => ⟨τ,.refl _,_,rfl,br_iff.2 ⟨fun h => (by cases h),fun _ => ?_⟩⟩
   · rw [h] at hs
     exact hno (.inl hs.symm) υ P.sub
   · rw [h] at hs
     rw [wk]
     exact hR val' τ hkn ⟨P.set h hB hst,hs⟩
 · have hkn:k=n:=by omega
   subst hkn
   rw [List.drop_eq_nil_of_le (by omega),setAll] at hs
   obtain ⟨r,hr⟩:=hdec val hs.symm
   have key:∀ (v0:List Int),setAll (List.replicate F.bools 0) l=some v0→∀ (w:List Int) (r:Option (List Int)),PropR F.clauses w r→(∀ r',PropR F.clauses w r'→PropR F.clauses v0 r')→∀ υ,PV σ υ [.int .i64 F.ints,.int .i64 F.bools,.slice aa an ac,.slice ca cn cc] b12 b15 b16 F.bools w→S25_3 C Q (ptr b12) (ptr b16) (ptr b16) true υ:=by
     intro v0 hv0 w r hwr
     have step:∀ (w:List Int) (hpr:∀ r',PropR F.clauses w r'→PropR F.clauses v0 r'),∀ υ,PV σ υ [.int .i64 F.ints,.int .i64 F.bools,.slice aa an ac,.slice ca cn cc] b12 b15 b16 F.bools w→∀ R3:Addr × Addr × Addr × Bool→PH→Prop,
         (roundP F.clauses w false=none→∀ τ,σ.sub τ→Q (.tuple #[.slice none 0 0,.bool false]) τ)→(∀ w' ch τ,roundP F.clauses w false=some (w',ch)→PV σ τ [.int .i64 F.ints,.int .i64 F.bools,.slice aa an ac,.slice ca cn cc] b12 b15 b16 F.bools w'→R3 (ptr b12,ptr b16,ptr b16,ch) τ)→S25_4 C Q R3 (ptr b12) (ptr b16) (ptr b16) true υ:=by
       intro w hpr υ P R3 h1 h2
       unfold S25_4
       refine br_iff.2 ⟨fun _ => ⟨_,P.k12.get (i:=3) rfl,_,_,_,rfl,?_⟩,fun h => (by cases h)⟩
       unfold S25_5
       refine iloopS_for (G:=List Int × Bool) (fun k g => (ptr b12,ptr b16,ptr b16,g.2,ca,cn,cc,(cn:Int),(k:Int))) (fun k g τ => PV σ τ [.int .i64 F.ints,.int .i64 F.bools,.slice aa an ac,.slice ca cn cc] b12 b15 b16 F.bools g.1∧roundP (F.clauses.drop k) g.1 g.2=roundP F.clauses w false) cn ?_ (g:=(w,false)) ⟨P,rfl⟩
       clear P υ
       rintro k ⟨wv,ch⟩ υ hk ⟨P,hrd⟩ R5 hR5
       dsimp only at P hrd
       unfold S25_6
       dsimp only
       refine br_dec.2 ⟨fun hlt => ?_,fun hge => ?_⟩
       · have hkn:k < cn:=by omega
         obtain ⟨cl,hc⟩:∃ c,F.clauses[k]?=some c:=⟨_,List.getElem?_eq_getElem (by omega)⟩
         have hcm:=List.mem_of_getElem? hc
         have hclit:=hF.cl cl hcm
         have hdk:F.clauses.drop k=cl :: F.clauses.drop (k + 1):=by
           rw [List.drop_eq_getElem_cons (by omega)]
           congr 1
           exact (List.getElem?_eq_some_iff.1 hc).2
         rw [hdk,roundP] at hrd
         obtain ⟨p,x,m,kk,hp,hcell,hIc,hmk⟩:=(hL.sub P.sub).2 k cl hc
         have hcm':=hIc.1
         have hclen:=hlen cl hcm
         have wk:IntKind.wrap .i64 ((k:Int) + 1)=((k + 1:Nat):Int):=by rw [w64 (by omega) (by omega)]; omega
         have g16:=P.k16.get (i:=0) rfl
         rw [e0] at g16
         have hIv:Ints υ (some (ptr b15)) F.bools wv:=⟨P.len,.inr ⟨_,rfl,fun i v hv => P.k15.get hv⟩⟩
         refine ⟨p,hp,by omega,by omega,_,by rw [Int.toNat_natCast,Nat.mul_one]; exact hcell,_,_,_,rfl,?_⟩
         unfold S25_7
         refine iloopS_for (G:=Int × Nat × Bool) (fun j s => (ptr b12,ptr b16,ptr b16,ch,s.1,(s.2.1:Int),s.2.2,ca,cn,cc,(cn:Int),(k:Int),x,m,kk,(m:Int),(j:Int))) (fun j s τ => υ=τ∧scanC wv (cl.drop j) s=scanC wv cl (0,0,false)∧s.2.1≤j) m ?_ (g:=(0,0,false)) ⟨rfl,rfl,Nat.le_refl _⟩
         rintro j s _ hj ⟨rfl,hsc,hsj⟩ R7 hR7
         unfold S25_8
         dsimp only
         refine br_dec.2 ⟨fun hjlt => ?_,fun hjge => ?_⟩
         · have hjn:j < m:=by omega
           obtain ⟨y,hy⟩:∃ y,cl[j]?=some y:=⟨_,List.getElem?_eq_getElem (by omega)⟩
           have hyl:=hclit y (List.mem_of_getElem? hy)
           have hdj:cl.drop j=y :: cl.drop (j + 1):=by
             rw [List.drop_eq_getElem_cons (by omega)]
             congr 1
             exact (List.getElem?_eq_some_iff.1 hy).2
           rw [hdj,scanC] at hsc
           obtain ⟨q,hq,hcq⟩:=hIc.2.at (i:=j) (v:=.int .i64 y) (by simp [hy])
           have wj:IntKind.wrap .i64 ((j:Int) + 1)=((j + 1:Nat):Int):=by rw [w64 (by omega) (by omega)]; omega
           refine ⟨q,hq,by omega,by omega,_,by rw [Int.toNat_natCast,Nat.mul_one]; exact hcq,y,rfl,_,g16,_,_,_,rfl,(c43 (litN hyl hnb) hIv P.lits).mono hb ?_⟩
           rintro _ τ ⟨rfl,eτ⟩
           obtain rfl:=eτ.symm
           refine ⟨_,.refl _,_,rfl,?_⟩
           rw [wj]
           refine br_dec.2 ⟨fun hpos => ?_,fun hnp => br_iff.2 ⟨fun hz => br_iff.2 ⟨fun hne => ?_,fun he => ?_⟩,fun hz => ?_⟩⟩
           · refine hR7 (s.1,s.2.1,true) _ hjn ⟨rfl,?_,by dsimp only; omega⟩
             rw [← hsc]; congr 1
             unfold scan1; rw [if_pos hpos]
           · have hz:Go.Sv.valS wv y=0:=by simpa using hz
             have hne:y ≠ s.1:=by simpa using hne
             have wo:IntKind.wrap .i64 ((s.2.1:Int) + 1)=((s.2.1 + 1:Nat):Int):=by rw [w64 (by omega) (by omega)]; omega
             rw [wo]
             refine hR7 (y,s.2.1 + 1,s.2.2) _ hjn ⟨rfl,?_,by dsimp only; omega⟩
             rw [← hsc]; congr 1
             unfold scan1; rw [if_neg hnp,if_pos ⟨hz,hne⟩]
           · have he:y=s.1:=by simpa using he
             refine hR7 s _ hjn ⟨rfl,?_,by omega⟩
             rw [← hsc]; congr 1
             unfold scan1; rw [if_neg hnp,if_neg (fun h => h.2 he)]
           · have hz:Go.Sv.valS wv y ≠ 0:=by simpa using hz
             refine hR7 s _ hjn ⟨rfl,?_,by omega⟩
             rw [← hsc]; congr 1
             unfold scan1; rw [if_neg hnp,if_neg (fun h => hz h.1)]
         · have hjn:j=m:=by omega
           subst hjn
           rw [List.drop_eq_nil_of_le (by omega),scanC] at hsc
           rw [← hsc] at hrd
           have hsl:=scan_lit (val:=wv) (N:=F.bools) (c:=cl) (s:=(0,0,false)) hclit (.inl rfl) (.inl rfl)
           rw [← hsc] at hsl
           have hsL:Lit s.1:=by
             rcases hsl.1 with h | h
             · rw [h]; unfold Lit; omega
             · exact litN h hnb
           rw [wk]
           refine br_iff.2 ⟨fun hh => ?_,fun hh => br_dec.2 ⟨fun ho => ?_,fun ho => br_iff.2 ⟨fun hz => ?_,fun hz => ?_⟩⟩⟩
           · rw [if_pos (.inl hh)] at hrd
             exact hR5 (wv,ch) _ hkn ⟨P,hrd⟩
           · rw [if_pos (.inr (by omega))] at hrd
             exact hR5 (wv,ch) _ hkn ⟨P,hrd⟩
           · have hz:s.2.1=0:=by simp at hz; omega
             rw [if_neg (by simp [hh]; omega),if_pos hz] at hrd
             exact h1 hrd.symm υ P.sub
           · have hz:s.2.1 ≠ 0:=by intro h; rw [h] at hz; simp at hz
             rw [if_neg (by simp [hh]; omega),if_neg hz] at hrd
             refine c42 P.k16 P.k15 P.len (by omega) (fun h => ⟨υ,.refl _,_,rfl,?_⟩) fun val' τ h hB hst => ⟨τ,.refl _,_,rfl,?_⟩
             · rw [h] at hrd
               exact hR5 (wv,true) _ hkn ⟨P,hrd⟩
             · rw [h] at hrd
               exact hR5 (val',true) _ hkn ⟨P.set h hB hst,hrd⟩
       · have hkn:k=cn:=by omega
         subst hkn
         rw [List.drop_eq_nil_of_le (by omega),roundP] at hrd
         exact h2 wv ch υ hrd.symm P
     have fin:∀ (w':List Int),PropR F.clauses v0 (some w')→∀ τ,PV σ τ [.int .i64 F.ints,.int .i64 F.bools,.slice aa an ac,.slice ca cn cc] b12 b15 b16 F.bools w'→∀ R3:Addr × Addr × Addr × Bool→PH→Prop,S25_4 C Q R3 (ptr b12) (ptr b16) (ptr b16) false τ:=by
       intro w' hpr υ P R3
       unfold S25_4
       have g16:=P.k16.get (i:=0) rfl
       rw [e0] at g16
       refine br_iff.2 ⟨fun h => (by cases h),fun _ => ⟨_,g16,_,_,_,rfl,?_⟩⟩
       unfold S25_9
       refine iloopS_for (G:=Sli) (fun k sl => (sl.a,sl.n,sl.c,some (ptr b15),F.bools,F.bools,(F.bools:Int),(k:Int))) (fun k sl τ => υ.sub τ∧Own τ 3 1 sl.a sl.n sl.c (ints (litsTo w' k))∧∀ p,sl.a=some p→υ p.block=none) F.bools ?_ (g:=⟨none,0,0⟩) ⟨.refl _,own_nil,fun p hp => by cases hp⟩
       rintro k sl τ hk ⟨hs,hO,hnew⟩ R9 hR9
       unfold S25_10
       dsimp only at hO hnew ⊢
       refine br_dec.2 ⟨fun hlt => ?_,fun hge => ?_⟩
       · have hkn:k < F.bools:=by omega
         have hkl:k < w'.length:=by rw [P.len]; exact hkn
         have hc:τ.cell? ((ptr b15).add k)=some (.int .i64 (w'.getD k 0)):=hs.cell (P.k15.get (i:=k) (by rw [ints,List.getElem?_map,List.getElem?_eq_getElem hkl,List.getD_eq_getElem?_getD,List.getElem?_eq_getElem hkl]; rfl))
         have hsm:=P.sm (w'.getD k 0) (by rw [List.getD_eq_getElem?_getD,List.getElem?_eq_getElem hkl]; exact List.getElem_mem _)
         have hlt':=litsTo_succ w' k
         have hll':=litsTo_len w' k
         generalize w'.getD k 0=y at *
         have wk:IntKind.wrap .i64 ((k:Int) + 1)=(k:Int) + 1:=w64 (by omega) (by omega)
         have wy:IntKind.wrap .i64 (y * ((k:Int) + 1))=y * ((k:Int) + 1):=by
           have:y=-1 ∨ y=0 ∨ y=1:=by omega
           rcases this with rfl | rfl | rfl <;> rw [w64 (by omega) (by omega)]
         rw [wk,show ((k:Int) + 1)=((k + 1:Nat):Int) from by omega]
         refine ⟨_,rfl,by omega,by omega,_,by rw [Int.toNat_natCast,Nat.mul_one]; exact hc,y,rfl,br_iff.2 ⟨fun hne b hbn => ?_,fun he => ?_⟩⟩
         · have hne:y ≠ 0:=by simpa using hne
           rw [if_neg hne] at hlt'
           rw [show ((k + 1:Nat):Int)=(k:Int) + 1 from by omega,wy]
           exact growNew hs hO hnew (y * ((k:Int) + 1)) (by omega) hbn (R:=fun a n c τ => R9 (a,n,c,some (ptr b15),F.bools,F.bools,(F.bools:Int),(k:Int) + 1) τ) fun sl' τ' g1 g2 g3 => hR9 sl' τ' hkn ⟨g1,by rw [hlt']; exact g2,g3⟩
         · have he:y=0:=by simpa using he
           rw [if_pos he,List.append_nil] at hlt'
           exact hR9 sl τ hkn ⟨hs,by rw [hlt']; exact hO,hnew⟩
       · have hkn:k=F.bools:=by omega
         subst hkn
         exact hok v0 w' τ sl hv0 hpr (P.sub.trans hs) hO fun p hp => new_of P.sub (hnew p hp)
     induction hwr with
     | stop h =>
       intro hpr υ P
       unfold S25_3
       intro R3 hR3
       refine hR3 _ _ (step _ hpr υ P R3 (fun h' τ hτ => hno (.inr ⟨v0,hv0,hpr _ (.stop h')⟩) τ hτ) fun w' ch τ h' _ => ?_)
       rw [h] at h'; cases h'
     | @done w w' h =>
       intro hpr υ P
       unfold S25_3
       intro R3 hR3
       refine hR3 _ _ (step _ hpr υ P R3 (fun h' _ _ => ?_) fun w2 ch τ h' P' => ?_)
       · rw [h] at h'; cases h'
       · rw [h] at h'; cases h'
         exact hR3 _ _ (fin _ (hpr _ (.done h)) τ P' R3)
     | @go w w' r h _ ih =>
       intro hpr υ P
       unfold S25_3
       intro R3 hR3
       refine hR3 _ _ (step _ hpr υ P R3 (fun h' _ _ => ?_) fun w2 ch τ h' P' => ?_)
       · rw [h] at h'; cases h'
       · rw [h] at h'; cases h'
         exact ih (fun r' hr' => hpr r' (.go h hr')) τ P' R3 hR3
   exact key val hs.symm val r hr (fun _ h => h) υ P
theorem c18sat {σ:PH} {F:Fm} (hF:FOk F) (hlen:∀ c ∈ F.clauses,c.length≤1000000) {aa ca:Option Addr} {an ac cn cc:Nat} (hA:Atoms σ aa an F.atoms) (hL:Lists σ ca cn F.clauses) {ba xa:Option Addr} {bc xc:Nat} {bl:List Bool} {x:Nat→Int} (hB:Bools σ ba F.bools bl) (hX:Ints σ xa F.ints (tab F.ints x)) (hM:SatM F bl x) {la:Option Addr} {lc:Nat} {Q:Value→PH→Prop} (hQ:∀ τ,σ.sub τ→Q (.bool true) τ) :
   C 18 #[.agg #[.int .i64 F.ints,.int .i64 F.bools,.slice aa an ac,.slice ca cn cc],.agg #[.slice ba F.bools bc,.slice xa F.ints xc],.slice la 0 lc,.bool true] Q σ:=by
 refine go (E18_0 _ _ _ _ _ _ _ _ _ _ _ _ _ _ _ _ _ _ _ _ _) ?_
 unfold S18_0
 have e0:∀ b:Nat,(Addr.mk b 0 none).add 0=⟨b,0,none⟩:=fun b => rfl
 intro b15 h15
 have s15:=PH.sub_set (o:=.cells #[.int .i64 F.ints,.int .i64 F.bools,.slice aa an ac,.slice ca cn cc] 29) h15
 have B15:Blk (σ.set b15 (.cells #[.int .i64 F.ints,.int .i64 F.bools,.slice aa an ac,.slice ca cn cc] 29)) b15 29 [.int .i64 F.ints,.int .i64 F.bools,.slice aa an ac,.slice ca cn cc]:=set_self
 generalize σ.set b15 (.cells #[.int .i64 F.ints,.int .i64 F.bools,.slice aa an ac,.slice ca cn cc] 29)=ω0 at *
 intro b16 h16
 have s16:=PH.sub_set (o:=.cells #[.slice ba F.bools bc,.slice xa F.ints xc] 35) h16
 have B16:Blk (ω0.set b16 (.cells #[.slice ba F.bools bc,.slice xa F.ints xc] 35)) b16 35 [.slice ba F.bools bc,.slice xa F.ints xc]:=set_self
 have B15:=s16 _ _ B15
 have sω:=s15.trans s16
 generalize ω0.set b16 (.cells #[.slice ba F.bools bc,.slice xa F.ints xc] 35)=ω at *
 replace B15:Blk ω b15 29 [.int .i64 F.ints,.int .i64 F.bools,.slice aa an ac,.slice ca cn cc]:=B15
 have g15:=B15.get (i:=0) rfl
 have g16:=B16.get (i:=0) rfl
 rw [e0] at g15 g16
 refine br_iff.2 ⟨fun _ => br_iff.2 ⟨fun _ => ?_,fun h => by simp at h⟩,fun h => (by cases h)⟩
 refine ⟨_,g15,_,B15.get (i:=1) rfl,_,B15.get (i:=2) rfl,_,B15.get (i:=3) rfl,_,_,_,_,_,_,_,_,rfl,_,g16,_,B16.get (i:=1) rfl,_,_,_,_,_,_,rfl,?_⟩
 exact c39 hF hlen (hA.sub sω) (hL.sub sω) (hB.sub sω) (hX.sub sω) hM fun τ hs => ⟨τ,.refl _,true,rfl,hQ τ (sω.trans hs)⟩
theorem c18no {σ:PH} {F:Fm} (hF:FOk F) (hlen:∀ c ∈ F.clauses,c.length≤1000000) {aa ca:Option Addr} {an ac cn cc:Nat} (hA:Atoms σ aa an F.atoms) (hL:Lists σ ca cn F.clauses) {a:Option Addr} {n c:Nat} {ps:List PStep} (hS:StepsM σ a n ps) {cs:List (List Int)} (hcs:stepsOf F ps=some cs) (hlast:cs.getLast?=some []) (hn:n≤3500000000000) {Q:Value→PH→Prop} (hQ:∀ τ,σ.sub τ→Q (.bool true) τ) :
   C 18 #[.agg #[.int .i64 F.ints,.int .i64 F.bools,.slice aa an ac,.slice ca cn cc],.agg #[.slice none 0 0,.slice none 0 0],.slice a n c,.bool false] Q σ:=by
 refine go (E18_0 _ _ _ _ _ _ _ _ _ _ _ _ _ _ _ _ _ _ _ _ _) ?_
 unfold S18_0
 have e0:∀ b:Nat,(Addr.mk b 0 none).add 0=⟨b,0,none⟩:=fun b => rfl
 intro b15 h15
 have s15:=PH.sub_set (o:=.cells #[.int .i64 F.ints,.int .i64 F.bools,.slice aa an ac,.slice ca cn cc] 29) h15
 have B15:Blk (σ.set b15 (.cells #[.int .i64 F.ints,.int .i64 F.bools,.slice aa an ac,.slice ca cn cc] 29)) b15 29 [.int .i64 F.ints,.int .i64 F.bools,.slice aa an ac,.slice ca cn cc]:=set_self
 generalize σ.set b15 (.cells #[.int .i64 F.ints,.int .i64 F.bools,.slice aa an ac,.slice ca cn cc] 29)=ω0 at *
 intro b16 h16
 have s16:=PH.sub_set (o:=.cells #[.slice none 0 0,.slice none 0 0] 35) h16
 have B16:Blk (ω0.set b16 (.cells #[.slice none 0 0,.slice none 0 0] 35)) b16 35 [.slice none 0 0,.slice none 0 0]:=set_self
 have B15:=s16 _ _ B15
 have sω:=s15.trans s16
 generalize ω0.set b16 (.cells #[.slice none 0 0,.slice none 0 0] 35)=ω at *
 replace B15:Blk ω b15 29 [.int .i64 F.ints,.int .i64 F.bools,.slice aa an ac,.slice ca cn cc]:=B15
 have g15:=B15.get (i:=0) rfl
 rw [e0] at g15
 refine br_iff.2 ⟨fun h => (by cases h),fun _ => ?_⟩
 refine ⟨_,g15,_,B15.get (i:=1) rfl,_,B15.get (i:=2) rfl,_,B15.get (i:=3) rfl,_,_,_,_,_,_,_,_,rfl,?_⟩
 refine c40 hF hlen (hA.sub sω) (hL.sub sω) (hS.sub sω) hcs hlast hn fun τ hs => ⟨τ,.refl _,0,0,rfl,br_iff.2 ⟨fun _ => ?_,fun h => by simp at h⟩⟩
 have Bτ:Blk τ b16 35 [.slice none 0 0,.slice none 0 0]:=hs _ _ B16
 have g16:=Bτ.get (i:=0) rfl
 rw [e0] at g16
 refine ⟨_,g16,_,_,_,rfl,_,Bτ.get (i:=1) rfl,_,_,_,rfl,?_⟩
 have w:IntKind.wrap .i64 (((0:Nat):Int) + ((0:Nat):Int))=0:=by rw [w64 (by omega) (by omega)]; rfl
 rw [w]
 exact hQ τ (sω.trans hs)
theorem _root_.Go.Sl.Own.obj {σ:PH} {e size:Nat} {a:Option Addr} {n c:Nat} {vs:List Value} (o:Own σ e size a n c vs) {p:Addr} (hp:a=some p):∃ arr,σ p.block=some (.cells arr e (0,0)):=by
 rcases o.row with ⟨rfl,_⟩ | ⟨b,arr,rfl,hb,_⟩
 · cases hp
 · cases hp; exact ⟨arr,hb⟩
theorem ne_ty {ω:PH} {b b':Nat} {arr arr':Array Value} {e e':Nat} {f f':Nat × Nat} (h:ω b=some (.cells arr e f)) (h':ω b'=some (.cells arr' e' f')) (he:e ≠ e'):b ≠ b':=by
 rintro rfl; rw [h] at h'; cases h'; exact he rfl
structure U8s (σ:PH) (a:Option Addr) (n:Nat) (l:List Int):Prop where
 len:l.length=n
 row:Row σ a (l.map (.int .u8))
 rng:∀ x ∈ l,0≤x∧x < 256
theorem U8s.sub {σ τ:PH} (h:σ.sub τ) {a:Option Addr} {n:Nat} {l:List Int} (u:U8s σ a n l):U8s τ a n l:=⟨u.len,u.row.sub h,u.rng⟩
theorem U8s.take {σ:PH} {a:Option Addr} {n:Nat} {l:List Int} (u:U8s σ a n l) (m:Nat):U8s σ a (min m n) (l.take m):=by
 refine ⟨by rw [List.length_take,u.len],?_,fun x hx => u.rng x (List.mem_of_mem_take hx)⟩
 rcases u.row with h | ⟨p,h1,h2⟩
 · left; rw [List.map_take,h]; simp
 · right
   refine ⟨p,h1,fun i v hv => h2 i v ?_⟩
   rw [List.map_take,List.getElem?_take] at hv
   split at hv
   · exact hv
   · cases hv
def nxk (l:List Int) (k:Nat):Nat:=if k < l.length then k + 1 else k
def nxv (l:List Int) (k:Nat):Int:=l.getD k 0
theorem nxk_le {l:List Int} {k:Nat} (h:k≤l.length):nxk l k≤l.length:=by unfold nxk; split <;> omega
theorem nxv_rng {l:List Int} (h:∀ x ∈ l,0≤x∧x < 256) (k:Nat):0≤nxv l k∧nxv l k < 256:=by
 unfold nxv
 rw [List.getD_eq_getElem?_getD]
 cases hc:l[k]? with
 | none => exact ⟨by simp,by simp⟩
 | some v => exact h v (List.mem_of_getElem? hc)
structure Tape (φ ω:PH) (t:Nat) (s:Sli) (l:List Int) (k:Nat):Prop where
 blk:Blk ω t 90 [s.v,.int .i64 k]
 new:φ t=none
 u8:U8s φ s.a s.n l
 le:k≤l.length
theorem Tape.grow {φ φ' ω:PH} {t:Nat} {s:Sli} {l:List Int} {k:Nat} (h:Tape φ ω t s l k) (hs:φ.sub φ') (hn:φ' t=none):Tape φ' ω t s l k:=⟨h.blk,hn,h.u8.sub hs,h.le⟩
theorem Tape.keep {M:Nat→Prop} {φ ω τ:PH} {t:Nat} {s:Sli} {l:List Int} {k:Nat} (h:Tape φ ω t s l k) (st:Step M ω τ) (hM:¬ M t):Tape φ τ t s l k:=⟨h.blk.keep st hM,h.new,h.u8,h.le⟩
theorem c41 {φ ω:PH} {t:Nat} {s:Sli} {l:List Int} {k:Nat} {m:Int} (h:Tape φ ω t s l k) (hs:φ.sub ω) (hl:l.length≤1000000) (hm:1≤m) {Q:Value→PH→Prop}
   (hQ:∀ τ,Step (·=t) ω τ→φ.sub τ→Tape φ τ t s l (nxk l k)→Q (.int .i64 (Int.tmod (nxv l k) m)) τ):C 41 #[.pointer (some (ptr t)),.int .i64 m] Q ω:=by
 refine go (E41_0 _ _ _ _ _) ?_
 unfold S41_0
 have e0:∀ b:Nat,(Addr.mk b 0 none).add 0=⟨b,0,none⟩:=fun b => rfl
 have hlen:=h.u8.len
 have hle:=h.le
 have g0:=h.blk.get (i:=0) rfl
 rw [e0] at g0
 refine ⟨_,rfl,_,h.blk.get (i:=1) rfl,_,rfl,_,rfl,_,g0,_,_,_,rfl,br_dec.2 ⟨fun hge => ?_,fun hlt => br_dec.2 ⟨fun h => by omega,fun _ => ?_⟩⟩⟩
 · have hk:¬ k < l.length:=by omega
   have e1:nxk l k=k:=if_neg hk
   have e2:nxv l k=0:=by unfold nxv; rw [List.getD_eq_getElem?_getD,List.getElem?_eq_none (by omega)]; rfl
   have:=hQ ω (.refl _) hs (by rw [e1]; exact h)
   rw [e2,Int.zero_tmod] at this
   exact this
 · have hk:k < l.length:=by omega
   have wk:IntKind.wrap .i64 ((k:Int) + 1)=((k + 1:Nat):Int):=by rw [w64 (by omega) (by omega)]; omega
   have wk2:IntKind.wrap .i64 (((k + 1:Nat):Int) - 1)=(k:Int):=by rw [w64 (by omega) (by omega)]; omega
   have hS:Step (·=t) ω (ω.setCell ((ptr t).add 1) (.int .i64 ((k + 1:Nat):Int))):=setCell_step.weaken fun b hb => hb.trans (add_block _ _)
   have hφ:φ.sub (ω.setCell ((ptr t).add 1) (.int .i64 ((k + 1:Nat):Int))):=sub_step_new hs hS (by rintro b rfl; exact h.new)
   have B':Blk (ω.setCell ((ptr t).add 1) (.int .i64 ((k + 1:Nat):Int))) t 90 [s.v,.int .i64 ((k + 1:Nat):Int)]:=h.blk.set 1 (.int .i64 ((k + 1:Nat):Int))
   have g0':=B'.get (i:=0) rfl
   rw [e0] at g0'
   have hv:l.getD k 0=nxv l k:=rfl
   obtain ⟨p,hp,hc⟩:=h.u8.row.at (i:=k) (v:=.int .u8 (nxv l k)) (by unfold nxv; simp [hk])
   obtain ⟨r1,r2⟩:=nxv_rng h.u8.rng k
   have wv:IntKind.wrap .i64 (nxv l k)=nxv l k:=w64 (by omega) (by omega)
   refine ⟨_,rfl,_,h.blk.get (i:=1) rfl,_,rfl,ptr t,rfl,⟨_,h.blk.get (i:=1) rfl⟩,h.blk.froz 1,ptr t,rfl,?_⟩
   rw [wk]
   refine ⟨_,g0',_,_,_,rfl,ptr t,rfl,_,B'.get (i:=1) rfl,_,rfl,p,hp,?_⟩
   rw [wk2]
   refine ⟨by omega,by omega,_,by rw [Int.toNat_natCast,Nat.mul_one]; exact hφ.cell hc,_,rfl,by omega,rfl,?_⟩
   rw [wv]
   have e1:nxk l k=k + 1:=if_pos hk
   exact hQ _ hS hφ (by rw [e1]; exact ⟨B',h.new,h.u8,by omega⟩)
structure FR (φ ω:PH) (A K:Sli) (atoms:List Dif) (cs:List (List Int)):Prop where
 sub:φ.sub ω
 oa:Own ω 50 3 A.a A.n A.c (difV atoms)
 anew:∀ p,A.a=some p→φ p.block=none
 ok:∃ vs,Own ω 33 1 K.a K.n K.c vs∧vs.length=cs.length∧∀ (i:Nat) c,cs[i]?=some c→∃ x m k,vs[i]?=some (.slice x m k)∧Own φ 3 1 x m k (ints c)
 knew:∀ p,K.a=some p→φ p.block=none
theorem FR.atoms {φ ω:PH} {A K:Sli} {atoms:List Dif} {cs:List (List Int)} (h:FR φ ω A K atoms cs):Atoms ω A.a A.n atoms:=own_atoms h.oa
theorem FR.an {φ ω:PH} {A K:Sli} {atoms:List Dif} {cs:List (List Int)} (h:FR φ ω A K atoms cs):A.n=atoms.length:=h.atoms.1.symm
theorem FR.kn {φ ω:PH} {A K:Sli} {atoms:List Dif} {cs:List (List Int)} (h:FR φ ω A K atoms cs):K.n=cs.length:=by
 obtain ⟨vs,h1,h2,_⟩:=h.ok
 have:=h1.len
 omega
theorem FR.lists {φ ω:PH} {A K:Sli} {atoms:List Dif} {cs:List (List Int)} (h:FR φ ω A K atoms cs):Lists ω K.a K.n cs:=by
 obtain ⟨vs,h1,h2,h3⟩:=h.ok
 refine ⟨by have:=h1.len; omega,fun i c hc => ?_⟩
 obtain ⟨x,m,k,q1,q2⟩:=h3 i c hc
 obtain ⟨p,hp,hcell⟩:=h1.get q1
 exact ⟨p,x,m,k,hp,hcell,(own_ints q2).sub h.sub,q2.le⟩
theorem FR.keep {M:Nat→Prop} {φ ω τ:PH} {A K:Sli} {atoms:List Dif} {cs:List (List Int)} (h:FR φ ω A K atoms cs) (st:Step M ω τ) (hM:∀ b,M b→φ b=none∧(∀ p,A.a=some p→b ≠ p.block)∧(∀ p,K.a=some p→b ≠ p.block)):FR φ τ A K atoms cs:=by
 refine ⟨sub_step_new h.sub st fun b hb => (hM b hb).1,h.oa.keep st fun p hp hm => (hM _ hm).2.1 p hp rfl,h.anew,?_,h.knew⟩
 obtain ⟨vs,h1,h2⟩:=h.ok
 exact ⟨vs,h1.keep st fun p hp hm => (hM _ hm).2.2 p hp rfl,h2⟩
theorem FR.grow {φ ω τ:PH} {A K:Sli} {atoms:List Dif} {cs:List (List Int)} (h:FR φ ω A K atoms cs) (hs:ω.sub τ):FR φ τ A K atoms cs:=h.keep (M:=fun _ => False) hs.step fun _ h => h.elim
structure FB (φ ω:PH) (f:Nat) (i1 i2:Int) (A K:Sli) (atoms:List Dif) (cs:List (List Int)):Prop extends FR φ ω A K atoms cs where
 blk:Blk ω f 29 [.int .i64 i1,.int .i64 i2,A.v,K.v]
 fnew:φ f=none
theorem FB.nA {φ ω:PH} {f:Nat} {i1 i2:Int} {A K:Sli} {atoms:List Dif} {cs:List (List Int)} (h:FB φ ω f i1 i2 A K atoms cs) {e:Nat} {arr:Array Value} {fr:Nat × Nat} {b:Nat} (hb:ω b=some (.cells arr e fr)) (he:e ≠ 50):∀ p,A.a=some p→b ≠ p.block:=by
 intro p hp
 obtain ⟨arr',h'⟩:=h.oa.obj hp
 exact ne_ty hb h' he
theorem FB.nK {φ ω:PH} {f:Nat} {i1 i2:Int} {A K:Sli} {atoms:List Dif} {cs:List (List Int)} (h:FB φ ω f i1 i2 A K atoms cs) {e:Nat} {arr:Array Value} {fr:Nat × Nat} {b:Nat} (hb:ω b=some (.cells arr e fr)) (he:e ≠ 33):∀ p,K.a=some p→b ≠ p.block:=by
 intro p hp
 obtain ⟨vs,h1,_⟩:=h.ok
 obtain ⟨arr',h'⟩:=h1.obj hp
 exact ne_ty hb h' he
theorem FB.keep {M:Nat→Prop} {φ ω τ:PH} {f:Nat} {i1 i2:Int} {A K:Sli} {atoms:List Dif} {cs:List (List Int)} (h:FB φ ω f i1 i2 A K atoms cs) (st:Step M ω τ)
   (hM:∀ b,M b→φ b=none∧b ≠ f∧(∀ p,A.a=some p→b ≠ p.block)∧(∀ p,K.a=some p→b ≠ p.block)):FB φ τ f i1 i2 A K atoms cs :=
 ⟨h.toFR.keep st fun b hb => ⟨(hM b hb).1,(hM b hb).2.2⟩,h.blk.keep st fun hm => (hM _ hm).2.1 rfl,h.fnew⟩
theorem FB.step1 {φ ω τ:PH} {f:Nat} {i1 i2:Int} {A K:Sli} {atoms:List Dif} {cs:List (List Int)} (h:FB φ ω f i1 i2 A K atoms cs) {t e:Nat} {vs:List Value} (hb:Blk ω t e vs) (he:e ≠ 29∧e ≠ 50∧e ≠ 33) (ht:φ t=none) (st:Step (·=t) ω τ):FB φ τ f i1 i2 A K atoms cs :=
 h.keep st (by rintro b rfl; exact ⟨ht,ne_ty hb h.blk he.1,h.nA hb he.2.1,h.nK hb he.2.2⟩)
theorem FB.sub' {φ ω τ:PH} {f:Nat} {i1 i2:Int} {A K:Sli} {atoms:List Dif} {cs:List (List Int)} (h:FB φ ω f i1 i2 A K atoms cs) (hs:ω.sub τ):FB φ τ f i1 i2 A K atoms cs:=h.keep (M:=fun _ => False) hs.step fun _ h => h.elim
theorem FB.setBools {φ ω:PH} {f:Nat} {i1 i2:Int} {A K:Sli} {atoms:List Dif} {cs:List (List Int)} (h:FB φ ω f i1 i2 A K atoms cs) (v:Int):FB φ (ω.setCell ((ptr f).add 1) (.int .i64 v)) f i1 v A K atoms cs:=by
 have st:Step (·=f) ω (ω.setCell ((ptr f).add 1) (.int .i64 v)):=setCell_step.weaken fun b hb => hb.trans (add_block _ _)
 exact ⟨h.toFR.keep st (by rintro b rfl; exact ⟨h.fnew,h.nA h.blk (by decide),h.nK h.blk (by decide)⟩),h.blk.set 1 (.int .i64 v),h.fnew⟩
theorem FB.atom' {φ ω:PH} {f:Nat} {i1 i2:Int} {A K:Sli} {atoms:List Dif} {cs:List (List Int)} (h:FB φ ω f i1 i2 A K atoms cs) (d:Dif) (hn:atoms.length≤1000000) {b:Nat} (hb:ω b=none) {R:Option Addr→Nat→Nat→PH→Prop}
   (hR:∀ A' τ,FB φ (PH.setCell τ ((ptr f).add 2) A'.v) f i1 i2 A' K (atoms ++ [d]) cs→Step (fun q => q=f ∨ ∃ p,A.a=some p∧q=p.block) ω (PH.setCell τ ((ptr f).add 2) A'.v)→R A'.a A'.n A'.c τ) :
   iappend prog 50 A.v (.slice (some ⟨b,0,none⟩) 1 1) (fun v τ => ∃ (a:Option Addr) (n c:Nat),v=.slice a n c∧(∃ u,PH.cell? τ ((ptr f).add 2)=some u)∧PH.froz τ ((ptr f).add 2)=some false∧R a n c τ) (PH.set ω b (.cells #[.int .i64 d.1,.int .i64 d.2.1,.int .i64 d.2.2] 50)):=by
 have han:=h.an
 refine pushRow t50.1 t50.2.1 t50.2.2 rfl (by decide) h.oa hb (news:=dcells d) rfl ?_ (by omega) ?_
 · intro v hv; simp [dcells] at hv; rcases hv with rfl | rfl | rfl <;> trivial
 · intro a' c' τ hO hst hnew
   have Bτ:=h.blk.keep hst (by rintro ⟨p,hp,e⟩; exact h.nA h.blk (by decide) p hp e)
   have st2:Step (·=f) τ (τ.setCell ((ptr f).add 2) (.slice a' (A.n + 1) c')):=setCell_step.weaken fun b hb => hb.trans (add_block _ _)
   refine ⟨_,_,_,rfl,⟨_,Bτ.get (i:=2) rfl⟩,Bτ.froz 2,hR ⟨a',A.n + 1,c'⟩ _ ⟨⟨?_,?_,?_,?_,h.knew⟩,Bτ.set 2 _,h.fnew⟩ ((hst.weaken fun q hq => .inr hq).trans (st2.weaken fun q hq => .inl hq))⟩
   · refine sub_step_new (sub_step_new h.sub hst ?_) st2 (by rintro b rfl; exact h.fnew)
     rintro b ⟨p,hp,rfl⟩; exact h.anew p hp
   · have e:difV (atoms ++ [d])=difV atoms ++ dcells d:=by unfold difV; simp
     rw [e]
     refine hO.keep st2 fun p hp hm => ?_
     obtain ⟨arr,ha⟩:=hO.obj hp
     exact ne_ty Bτ ha (by decide) hm.symm
   · intro p hp
     rcases hnew p hp with ⟨p',g1,g2⟩ | g1
     · rw [g2]; exact h.anew p' g1
     · exact new_of h.sub g1
   · obtain ⟨vs,h1,h2⟩:=h.ok
     refine ⟨vs,(h1.keep hst ?_).keep st2 fun p hp hm => h.nK h.blk (by decide) p hp hm.symm,h2⟩
     rintro p hp ⟨q,hq,e⟩
     obtain ⟨arr,ha⟩:=h1.obj hp
     exact h.nA ha (by decide) q hq e
theorem FB.atom {φ ω:PH} {f:Nat} {i1 i2:Int} {A K:Sli} {atoms:List Dif} {cs:List (List Int)} (h:FB φ ω f i1 i2 A K atoms cs) (d:Dif) (hn:atoms.length≤1000000) {b:Nat} (hb:ω b=none) {R:PH→Prop}
   (hR:∀ A' τ,FB φ τ f i1 i2 A' K (atoms ++ [d]) cs→Step (fun q => q=f ∨ ∃ p,A.a=some p∧q=p.block) ω τ→R τ) :
   iappend prog 50 A.v (.slice (some ⟨b,0,none⟩) 1 1) (fun v τ => ∃ (a:Option Addr) (n c:Nat),v=.slice a n c∧(∃ u,PH.cell? τ ((ptr f).add 2)=some u)∧PH.froz τ ((ptr f).add 2)=some false∧R (PH.setCell τ ((ptr f).add 2) (.slice a n c))) (PH.set ω b (.cells #[.int .i64 d.1,.int .i64 d.2.1,.int .i64 d.2.2] 50)) :=
 h.atom' d hn hb (R:=fun a n c τ => R (PH.setCell τ ((ptr f).add 2) (.slice a n c))) fun A' τ => hR A' _
theorem FB.clause' {φ ω:PH} {f:Nat} {i1 i2:Int} {A K:Sli} {atoms:List Dif} {cs:List (List Int)} (h:FB φ ω f i1 i2 A K atoms cs) {x:Option Addr} {m k:Nat} {c:List Int} (hI:Own φ 3 1 x m k (ints c)) (hn:cs.length≤1000000) {b:Nat} (hb:ω b=none) {R:Option Addr→Nat→Nat→PH→Prop}
   (hR:∀ K' τ,FB φ (PH.setCell τ ((ptr f).add 3) K'.v) f i1 i2 A K' atoms (cs ++ [c])→Step (fun q => q=f ∨ ∃ p,K.a=some p∧q=p.block) ω (PH.setCell τ ((ptr f).add 3) K'.v)→R K'.a K'.n K'.c τ) :
   iappend prog 33 K.v (.slice (some ⟨b,0,none⟩) 1 1) (fun v τ => ∃ (a:Option Addr) (n c:Nat),v=.slice a n c∧(∃ u,PH.cell? τ ((ptr f).add 3)=some u)∧PH.froz τ ((ptr f).add 3)=some false∧R a n c τ) (PH.set ω b (.cells #[.slice x m k] 33)):=by
 have hkn:=h.kn
 obtain ⟨vs,h1,h2,h3⟩:=h.ok
 refine pushRow t33.1 t33.2.1 t33.2.2 rfl (by decide) h1 hb (news:=[.slice x m k]) rfl ?_ (by omega) ?_
 · intro v hv; simp at hv; subst hv; trivial
 · intro a' c' τ hO hst hnew
   have Bτ:=h.blk.keep hst (by rintro ⟨p,hp,e⟩; exact h.nK h.blk (by decide) p hp e)
   have st2:Step (·=f) τ (τ.setCell ((ptr f).add 3) (.slice a' (K.n + 1) c')):=setCell_step.weaken fun b hb => hb.trans (add_block _ _)
   refine ⟨_,_,_,rfl,⟨_,Bτ.get (i:=3) rfl⟩,Bτ.froz 3,hR ⟨a',K.n + 1,c'⟩ _ ⟨⟨?_,?_,h.anew,?_,?_⟩,Bτ.set 3 _,h.fnew⟩ ((hst.weaken fun q hq => .inr hq).trans (st2.weaken fun q hq => .inl hq))⟩
   · refine sub_step_new (sub_step_new h.sub hst ?_) st2 (by rintro b rfl; exact h.fnew)
     rintro b ⟨p,hp,rfl⟩; exact h.knew p hp
   · refine (h.oa.keep hst ?_).keep st2 fun p hp hm => h.nA h.blk (by decide) p hp hm.symm
     rintro p hp ⟨q,hq,e⟩
     obtain ⟨arr,ha⟩:=h.oa.obj hp
     exact h.nK ha (by decide) q hq e
   · refine ⟨vs ++ [.slice x m k],hO.keep st2 fun p hp hm => ?_,by simp [h2],fun i c0 hc0 => ?_⟩
     · obtain ⟨arr,ha⟩:=hO.obj hp
       exact ne_ty Bτ ha (by decide) hm.symm
     · by_cases hi:i < cs.length
       · rw [List.getElem?_append_left hi] at hc0
         obtain ⟨y,m',k',g1,g2⟩:=h3 i c0 hc0
         exact ⟨y,m',k',by rw [List.getElem?_append_left (by omega)]; exact g1,g2⟩
       · rw [List.getElem?_append_right (by omega)] at hc0
         have hi0:i=cs.length:=by have:=(List.getElem?_eq_some_iff.1 hc0).1; simp at this; omega
         subst hi0
         simp at hc0
         subst hc0
         exact ⟨x,m,k,by rw [List.getElem?_append_right (by omega)]; simp [h2],hI⟩
   · intro p hp
     rcases hnew p hp with ⟨p',g1,g2⟩ | g1
     · rw [g2]; exact h.knew p' g1
     · exact new_of h.sub g1
theorem FB.clause {φ ω:PH} {f:Nat} {i1 i2:Int} {A K:Sli} {atoms:List Dif} {cs:List (List Int)} (h:FB φ ω f i1 i2 A K atoms cs) {x:Option Addr} {m k:Nat} {c:List Int} (hI:Own φ 3 1 x m k (ints c)) (hn:cs.length≤1000000) {b:Nat} (hb:ω b=none) {R:PH→Prop}
   (hR:∀ K' τ,FB φ τ f i1 i2 A K' atoms (cs ++ [c])→Step (fun q => q=f ∨ ∃ p,K.a=some p∧q=p.block) ω τ→R τ) :
   iappend prog 33 K.v (.slice (some ⟨b,0,none⟩) 1 1) (fun v τ => ∃ (a:Option Addr) (n c:Nat),v=.slice a n c∧(∃ u,PH.cell? τ ((ptr f).add 3)=some u)∧PH.froz τ ((ptr f).add 3)=some false∧R (PH.setCell τ ((ptr f).add 3) (.slice a n c))) (PH.set ω b (.cells #[.slice x m k] 33)) :=
 h.clause' hI hn hb (R:=fun a n c τ => R (PH.setCell τ ((ptr f).add 3) (.slice a n c))) fun K' τ => hR K' _
theorem FB.setClause {φ ω:PH} {f:Nat} {i1 i2:Int} {A K:Sli} {atoms:List Dif} {cs:List (List Int)} (h:FB φ ω f i1 i2 A K atoms cs) {x:Option Addr} {m k:Nat} {c:List Int} (hI:Own φ 3 1 x m k (ints c)) {o:Nat} (ho:o < cs.length) :
   ∃ p,K.a=some p∧(∃ u,ω.cell? (p.add o)=some u)∧ω.froz (p.add o)=some false∧Step (·=p.block) ω (ω.setCell (p.add o) (.slice x m k))∧φ p.block=none∧FB φ (ω.setCell (p.add o) (.slice x m k)) f i1 i2 A K atoms (cs.set o c):=by
 obtain ⟨vs,h1,h2,h3⟩:=h.ok
 obtain ⟨p,hp,hu,hf,hb,hO⟩:=h1.set (i:=o) (by omega)
 have st:Step (·=p.block) ω (ω.setCell (p.add o) (.slice x m k)):=setCell_step.weaken fun b e => e.trans hb
 refine ⟨p,hp,hu,hf,st,h.knew p hp,⟨⟨sub_step_new h.sub st (by rintro b rfl; exact h.knew p hp),h.oa.keep st fun q hq e => ?_,h.anew,⟨_,hO _,by simp [h2],fun i c0 hc0 => ?_⟩,h.knew⟩,h.blk.keep st fun e => h.nK h.blk (by decide) p hp e,h.fnew⟩⟩
 · obtain ⟨arr,ha⟩:=h.oa.obj hq
   exact h.nK ha (by decide) p hp e
 · rw [List.getElem?_set] at hc0
   rw [List.getElem?_set]
   split at hc0
   · rename_i e
     subst e
     cases hc0
     exact ⟨x,m,k,by rw [if_pos rfl,if_pos (by omega)],hI⟩
   · rename_i e
     obtain ⟨y,m',k',g1,g2⟩:=h3 i c0 hc0
     exact ⟨y,m',k',by rw [if_neg e]; exact g1,g2⟩
open Classical in
theorem FB.freeze {φ ω:PH} {f:Nat} {i1 i2:Int} {A K:Sli} {atoms:List Dif} {cs:List (List Int)} (h:FB φ ω f i1 i2 A K atoms cs) (E:Nat→Prop) (hE:∀ b,E b→φ b=none) :
   ∃ φ':PH,φ.sub φ'∧FB φ' ω f i1 i2 A K atoms cs∧(∀ b,E b→φ' b=none)∧∀ b,b ≠ f→(∀ p,A.a=some p→b ≠ p.block)→(∀ p,K.a=some p→b ≠ p.block)→¬ E b→φ' b=ω b:=by
 obtain ⟨φ',hφ⟩:∃ φ':PH,φ'=fun b => if b=f ∨ (∃ p,A.a=some p∧b=p.block) ∨ (∃ p,K.a=some p∧b=p.block) ∨ E b then none else ω b:=⟨_,rfl⟩
 have off:∀ b,(b=f ∨ (∃ p,A.a=some p∧b=p.block) ∨ (∃ p,K.a=some p∧b=p.block) ∨ E b)→φ' b=none:=fun b hb => by rw [hφ]; exact if_pos hb
 have on:∀ b,¬ (b=f ∨ (∃ p,A.a=some p∧b=p.block) ∨ (∃ p,K.a=some p∧b=p.block) ∨ E b)→φ' b=ω b:=fun b hb => by rw [hφ]; exact if_neg hb
 have s1:φ.sub φ':=by
   intro b o ho
   rw [on b]
   · exact h.sub b o ho
   · rintro (rfl | ⟨p,hp,rfl⟩ | ⟨p,hp,rfl⟩ | he)
     · rw [h.fnew] at ho; cases ho
     · rw [h.anew p hp] at ho; cases ho
     · rw [h.knew p hp] at ho; cases ho
     · rw [hE b he] at ho; cases ho
 have s2:φ'.sub ω:=by
   intro b o ho
   by_cases hb:(b=f ∨ (∃ p,A.a=some p∧b=p.block) ∨ (∃ p,K.a=some p∧b=p.block) ∨ E b)
   · rw [off b hb] at ho; cases ho
   · rw [on b hb] at ho; exact ho
 refine ⟨φ',s1,⟨⟨s2,h.oa,fun p hp => off _ (.inr (.inl ⟨p,hp,rfl⟩)),?_,fun p hp => off _ (.inr (.inr (.inl ⟨p,hp,rfl⟩)))⟩,h.blk,off _ (.inl rfl)⟩,fun b hb => off _ (.inr (.inr (.inr hb))),fun b h1 h2 h3 h4 => on b ?_⟩
 · obtain ⟨vs,q1,q2,q3⟩:=h.ok
   refine ⟨vs,q1,q2,fun i c hc => ?_⟩
   obtain ⟨x,m,k,g1,g2⟩:=q3 i c hc
   exact ⟨x,m,k,g1,g2.keep (M:=fun _ => False) s1.step fun _ _ h => h⟩
 · rintro (rfl | ⟨p,hp,rfl⟩ | ⟨p,hp,rfl⟩ | he)
   · exact h1 rfl
   · exact h2 p hp rfl
   · exact h3 p hp rfl
   · exact h4 he
theorem own_frozen {φ ω:PH} {x:Option Addr} {m k:Nat} {c:List Int} (o:Own ω 3 1 x m k (ints c)) (hφ:∀ p,x=some p→φ p.block=ω p.block):Own φ 3 1 x m k (ints c):=by
 refine ⟨o.len,o.le,?_⟩
 rcases o.row with g | ⟨b0,arr,g1,g2,g3⟩
 · exact .inl g
 · exact .inr ⟨b0,arr,g1,(hφ _ g1).trans g2,g3⟩
def litOf (B v:Int):Int:=if v.tmod 2=1 then -(1 + (v.tdiv 2).tmod B) else 1 + (v.tdiv 2).tmod B
def difOf (I x y:Int):Dif:=(x.tmod I,((x.tmod I + 1) + y.tmod (I - 1)).tmod I,(x.tdiv 16).tmod 7 - 4)
def atR (l:List Int) (I:Int):Nat→Nat × List Dif
 | 0 => (0,[])
 | i + 1 => (nxk l (nxk l (atR l I i).1),(atR l I i).2 ++ [difOf I (nxv l (atR l I i).1) (nxv l (nxk l (atR l I i).1))])
def litS (l:List Int) (B:Int) (k0:Nat):Nat→Nat × List Int
 | 0 => (k0,[])
 | i + 1 => (nxk l (litS l B k0 i).1,(litS l B k0 i).2 ++ [litOf B (nxv l (litS l B k0 i).1)])
def clS (l:List Int) (B:Int) (k0:Nat):Nat→Nat × List (List Int)
 | 0 => (k0,[])
 | i + 1 => ((litS l B (nxk l (clS l B k0 i).1) (((nxv l (clS l B k0 i).1).tmod 4).toNat + 1)).1,(clS l B k0 i).2 ++ [(litS l B (nxk l (clS l B k0 i).1) (((nxv l (clS l B k0 i).1).tmod 4).toNat + 1)).2])
def clE (l:List Int) (B:Int) (k0:Nat):Nat→Nat→List (List Int)
 | 0,i => (clS l B k0 i).2
 | f + 1,i => if (clS l B k0 i).1 < l.length then clE l B k0 f (i + 1) else (clS l B k0 i).2
def probF (s0 s1 s2:Int) (l:List Int):Fm :=
 ⟨(2 + s0.tmod 5).toNat,((atR l (2 + s0.tmod 5) (1 + s1.tmod 12).toNat).2.length + s2.tmod 7).toNat,(atR l (2 + s0.tmod 5) (1 + s1.tmod 12).toNat).2,
   clE l ((atR l (2 + s0.tmod 5) (1 + s1.tmod 12).toNat).2.length + s2.tmod 7) (atR l (2 + s0.tmod 5) (1 + s1.tmod 12).toNat).1 40 0⟩
theorem tm {a b:Int} (h:0≤a) (hb:0 < b):0≤a.tmod b∧a.tmod b < b:=⟨Int.tmod_nonneg b h,Int.tmod_lt_of_pos a hb⟩
theorem td {a b:Int} (h:0≤a) (hb:0≤b):0≤a.tdiv b∧a.tdiv b≤a:=⟨Int.tdiv_nonneg h hb,Int.tdiv_le_self b h⟩
theorem tm_id {a b:Int} (h:0≤a) (hb:a < b):a.tmod b=a:=Int.tmod_eq_of_lt h hb
theorem atR_len {l:List Int} {I:Int}:∀ i,(atR l I i).2.length=i
 | 0 => rfl
 | i + 1 => by rw [atR,List.length_append,atR_len i]; rfl
theorem atR_le {l:List Int} {I:Int}:∀ i,(atR l I i).1≤l.length
 | 0 => Nat.zero_le _
 | i + 1 => by rw [atR]; exact nxk_le (nxk_le (atR_le i))
theorem litS_len {l:List Int} {B:Int} {k0:Nat}:∀ i,(litS l B k0 i).2.length=i
 | 0 => rfl
 | i + 1 => by rw [litS,List.length_append,litS_len i]; rfl
theorem clS_len {l:List Int} {B:Int} {k0:Nat}:∀ i,(clS l B k0 i).2.length=i
 | 0 => rfl
 | i + 1 => by rw [clS,List.length_append,clS_len i]; rfl
theorem difOf_ok {I x y:Int} (hI:2≤I) (hI6:I≤6) (hx:0≤x) (hy:0≤y):0≤(difOf I x y).1∧(difOf I x y).1 < I∧0≤(difOf I x y).2.1∧(difOf I x y).2.1 < I∧(difOf I x y).1 ≠ (difOf I x y).2.1∧-4≤(difOf I x y).2.2∧(difOf I x y).2.2≤2:=by
 unfold difOf
 obtain ⟨a1,a2⟩:=tm hx (show (0:Int) < I by omega)
 obtain ⟨b1,b2⟩:=tm hy (show (0:Int) < I - 1 by omega)
 obtain ⟨c1,c2⟩:=tm (td hx (show (0:Int)≤16 by omega)).1 (show (0:Int) < 7 by omega)
 generalize x.tmod I=u at *
 generalize y.tmod (I - 1)=w at *
 generalize (x.tdiv 16).tmod 7=z at *
 obtain ⟨d1,d2⟩:=tm (show 0≤u + 1 + w by omega) (show (0:Int) < I by omega)
 refine ⟨a1,a2,d1,d2,?_,by show -4≤z - 4; omega,by show z - 4≤2; omega⟩
 show u ≠ (u + 1 + w).tmod I
 intro e
 by_cases hlt:u + 1 + w < I
 · rw [tm_id (by omega) hlt] at e; omega
 · have:(u + 1 + w).tmod I=u + 1 + w - I:=by
     rw [Int.tmod_eq_emod_of_nonneg (by omega),← Int.sub_emod_right,Int.emod_eq_of_lt (by omega) (by omega)]
   omega
theorem litOf_ok {B v:Int} (hB:1≤B) (hv:0≤v):LitN B.toNat (litOf B v):=by
 unfold litOf LitN
 obtain ⟨c1,c2⟩:=tm (td hv (show (0:Int)≤2 by omega)).1 (show (0:Int) < B by omega)
 split <;> omega
theorem atR_ok {l:List Int} (hl:∀ x ∈ l,0≤x∧x < 256) {I:Int} (hI:2≤I) (hI6:I≤6):∀ i,∀ d ∈ (atR l I i).2,0≤d.1∧d.1 < I∧0≤d.2.1∧d.2.1 < I∧d.1 ≠ d.2.1∧-4≤d.2.2∧d.2.2≤2
 | 0,d,h => by simp [atR] at h
 | i + 1,d,h => by
   rw [atR,List.mem_append] at h
   rcases h with h | h
   · exact atR_ok hl hI hI6 i d h
   · simp at h; subst h
     exact difOf_ok hI hI6 (nxv_rng hl _).1 (nxv_rng hl _).1
theorem litS_ok {l:List Int} (hl:∀ x ∈ l,0≤x∧x < 256) {B:Int} (hB:1≤B) {k0:Nat}:∀ i,∀ x ∈ (litS l B k0 i).2,LitN B.toNat x
 | 0,d,h => by simp [litS] at h
 | i + 1,d,h => by
   rw [litS,List.mem_append] at h
   rcases h with h | h
   · exact litS_ok hl hB i d h
   · simp at h; subst h
     exact litOf_ok hB (nxv_rng hl _).1
theorem clS_ok {l:List Int} (hl:∀ x ∈ l,0≤x∧x < 256) {B:Int} (hB:1≤B) {k0:Nat}:∀ i,∀ c ∈ (clS l B k0 i).2,c.length≤4∧∀ x ∈ c,LitN B.toNat x
 | 0,d,h => by simp [clS] at h
 | i + 1,d,h => by
   rw [clS,List.mem_append] at h
   rcases h with h | h
   · exact clS_ok hl hB i d h
   · simp at h; subst h
     refine ⟨?_,litS_ok hl hB _⟩
     rw [litS_len]
     have:=(tm (nxv_rng hl (clS l B k0 i).1).1 (show (0:Int) < 4 by omega)).2
     omega
theorem clE_ok {l:List Int} (hl:∀ x ∈ l,0≤x∧x < 256) {B:Int} (hB:1≤B) {k0:Nat}:∀ f i,(clE l B k0 f i).length≤i + f∧∀ c ∈ clE l B k0 f i,c.length≤4∧∀ x ∈ c,LitN B.toNat x
 | 0,i => by rw [clE,clS_len]; exact ⟨by omega,clS_ok hl hB i⟩
 | f + 1,i => by
   rw [clE]
   split
   · have:=clE_ok hl hB (k0:=k0) f (i + 1)
     exact ⟨by omega,this.2⟩
   · rw [clS_len]; exact ⟨by omega,clS_ok hl hB i⟩
structure PrOk (F:Fm):Prop where
 fok:FOk F
 bools:1≤F.bools∧F.bools≤18
 ints:2≤F.ints∧F.ints≤6
 an:1≤F.atoms.length∧F.atoms.length≤12
 cn:F.clauses.length≤40
 cl:∀ c ∈ F.clauses,c.length≤4
 at':∀ d ∈ F.atoms,-4≤d.2.2∧d.2.2≤2
theorem probF_ok {s0 s1 s2:Int} (h0:0≤s0) (h1:0≤s1) (h2:0≤s2) {l:List Int} (hl:∀ x ∈ l,0≤x∧x < 256):PrOk (probF s0 s1 s2 l):=by
 obtain ⟨a1,a2⟩:=tm h0 (show (0:Int) < 5 by omega)
 obtain ⟨b1,b2⟩:=tm h1 (show (0:Int) < 12 by omega)
 obtain ⟨c1,c2⟩:=tm h2 (show (0:Int) < 7 by omega)
 unfold probF
 generalize s0.tmod 5=u at *
 generalize s1.tmod 12=w at *
 generalize s2.tmod 7=z at *
 have hat:=atR_ok hl (I:=2 + u) (by omega) (by omega) (1 + w).toNat
 have hlen:(atR l (2 + u) (1 + w).toNat).2.length=(1 + w).toNat:=atR_len _
 generalize (atR l (2 + u) (1 + w).toNat).1=k at *
 generalize (atR l (2 + u) (1 + w).toNat).2=at' at *
 have hcl:=clE_ok hl (B:=(at'.length:Int) + z) (by omega) (k0:=k) 40 0
 generalize clE l ((at'.length:Int) + z) k 40 0=cs at *
 refine ⟨⟨?_,?_,?_,?_,?_,?_⟩,⟨?_,?_⟩,⟨?_,?_⟩,⟨?_,?_⟩,?_,?_,?_⟩ <;> dsimp only
 · omega
 · omega
 · omega
 · intro d hd
   have:=hat d hd
   refine ⟨this.1,?_,this.2.2.1,?_,this.2.2.2.2.1,by omega,by omega⟩ <;> omega
 · exact fun c hc => (hcl.2 c hc).2
 · omega
 · omega
 · omega
 · omega
 · omega
 · omega
 · omega
 · omega
 · exact fun c hc => (hcl.2 c hc).1
 · exact fun d hd => (hat d hd).2.2.2.2.2
theorem wi {x:Int} (h:0≤x∧x < 256):IntKind.wrap .i64 x=x:=w64 (by omega) (by omega)
theorem nx256 {l:List Int} (hl:∀ x ∈ l,0≤x∧x < 256) (k:Nat):(nxv l k).tmod 256=nxv l k:=tm_id (nxv_rng hl k).1 (nxv_rng hl k).2
theorem c21 {σ:PH} {s0 s1 s2:Int} {a:Option Addr} {n c:Nat} {l:List Int} (hU:U8s σ a n l) (hc:n≤c) (h0:0≤s0∧s0 < 256) (h1:0≤s1∧s1 < 256) (h2:0≤s2∧s2 < 256) {Q:Value→PH→Prop}
   (hQ:∀ φ τ A K,σ.sub φ→FR φ τ A K (probF s0 s1 s2 (l.take 300)).atoms (probF s0 s1 s2 (l.take 300)).clauses→A.n≤A.c→K.n≤K.c →
     Q (.agg #[.int .i64 (probF s0 s1 s2 (l.take 300)).ints,.int .i64 (probF s0 s1 s2 (l.take 300)).bools,A.v,K.v]) τ) :
   C 21 #[.agg #[.int .u8 s0,.int .u8 s1,.int .u8 s2,.slice a n c]] Q σ:=by
 refine go (E21_0 _ _ _ _ _ _ _ _ _) ?_
 unfold S21_0
 have e0:∀ b:Nat,(Addr.mk b 0 none).add 0=⟨b,0,none⟩:=fun b => rfl
 have hp:=probF_ok h0.1 h1.1 h2.1 (hU.take 300).rng
 obtain ⟨l',hl'⟩:∃ l',l'=l.take 300:=⟨_,rfl⟩
 rw [← hl'] at hQ hp
 have hU':U8s σ a (min 300 n) l':=by rw [hl']; exact hU.take 300
 have hl:=hU'.rng
 have hll:=hU'.len
 clear hl'
 obtain ⟨u1,u2⟩:=tm h0.1 (show (0:Int) < 5 by omega)
 obtain ⟨v1,v2⟩:=tm h1.1 (show (0:Int) < 12 by omega)
 obtain ⟨z1,z2⟩:=tm h2.1 (show (0:Int) < 7 by omega)
 obtain ⟨I,hI⟩:∃ I:Int,I=2 + s0.tmod 5:=⟨_,rfl⟩
 obtain ⟨N,hN⟩:∃ N:Nat,N=(1 + s1.tmod 12).toNat:=⟨_,rfl⟩
 have wI:IntKind.wrap .i64 ((2:Int) + Int.tmod (IntKind.wrap .i64 s0) 5)=I:=by rw [wi h0,w64 (by omega) (by omega),hI]
 have wN:IntKind.wrap .i64 ((1:Int) + Int.tmod (IntKind.wrap .i64 s1) 12)=(N:Int):=by rw [wi h1,w64 (by omega) (by omega),hN]; omega
 intro b7 h7
 have s7:=PH.sub_set (o:=.cells #[.int .u8 s0,.int .u8 s1,.int .u8 s2,.slice a n c] 25) h7
 have B7:Blk (σ.set b7 (.cells #[.int .u8 s0,.int .u8 s1,.int .u8 s2,.slice a n c] 25)) b7 25 [.int .u8 s0,.int .u8 s1,.int .u8 s2,.slice a n c]:=set_self
 generalize σ.set b7 (.cells #[.int .u8 s0,.int .u8 s1,.int .u8 s2,.slice a n c] 25)=φ at *
 intro b8 h8
 have s8:=PH.sub_set (o:=.cells #[.int .i64 0,.int .i64 0,.slice none 0 0,.slice none 0 0] 29) h8
 have B8:Blk (φ.set b8 (.cells #[.int .i64 0,.int .i64 0,.slice none 0 0,.slice none 0 0] 29)) b8 29 [.int .i64 0,.int .i64 0,.slice none 0 0,.slice none 0 0]:=set_self
 generalize φ.set b8 (.cells #[.int .i64 0,.int .i64 0,.slice none 0 0,.slice none 0 0] 29)=ω8 at *
 refine ⟨_,s8.cell (B7.get (i:=0) rfl),_,rfl,by omega,rfl,?_⟩
 intro b11 h11
 simp only [newSet,newSet0,newCell,newCell0,newFroz,newFroz0,List.setIfInBounds_toArray,List.set_cons_zero,List.set_cons_succ,List.getElem?_toArray,List.getElem?_cons_zero,List.getElem?_cons_succ,Option.some.injEq,exists_eq',true_and,exists_eq_left']
 rw [wI]
 have s11:=PH.sub_set (o:=.cells #[.int .i64 I,.int .i64 0,.slice none 0 0,.slice none 0 0] 29) h11
 have B11:Blk (ω8.set b11 (.cells #[.int .i64 I,.int .i64 0,.slice none 0 0,.slice none 0 0] 29)) b11 29 [.int .i64 I,.int .i64 0,.slice none 0 0,.slice none 0 0]:=set_self
 generalize ω8.set b11 (.cells #[.int .i64 I,.int .i64 0,.slice none 0 0,.slice none 0 0] 29)=ω11 at *
 have B7':=s11 _ _ (s8 _ _ B7)
 refine ⟨_,Blk.get (i:=3) B7' rfl,_,_,_,rfl,_,Blk.get (i:=3) B7' rfl,_,_,_,rfl,by split <;> omega,by split <;> omega,?_⟩
 intro b24 h24
 have wmin:(if (300:Int) < (n:Int) then (300:Int) else (n:Int)).toNat=min 300 n:=by split <;> omega
 rw [wmin]
 have s24:=PH.sub_set (o:=.cells #[.slice a (min 300 n) c,.int .i64 0] 90) h24
 have B24:Blk (ω11.set b24 (.cells #[.slice a (min 300 n) c,.int .i64 0] 90)) b24 90 [.slice a (min 300 n) c,.int .i64 0]:=set_self
 generalize ω11.set b24 (.cells #[.slice a (min 300 n) c,.int .i64 0] 90)=ω24 at *
 have n8:φ b8=none:=h8
 have n11:φ b11=none:=new_of s8 h11
 have n24:φ b24=none:=new_of (s8.trans s11) h24
 have d8:b8 ≠ b11:=by rintro rfl; rw [B8] at h11; cases h11
 have hFB0:FB φ ω24 b11 I 0 ⟨none,0,0⟩ ⟨none,0,0⟩ [] []:=⟨⟨(s8.trans s11).trans s24,own_nil,by simp,⟨[],own_nil,rfl,by simp⟩,by simp⟩,s24 _ _ B11,n11⟩
 have hT0:Tape φ ω24 b24 ⟨a,min 300 n,c⟩ l' 0:=⟨B24,n24,hU'.sub s7,Nat.zero_le _⟩
 have hR0:Blk ω24 b8 29 [.int .i64 0,.int .i64 0,.slice none 0 0,.slice none 0 0]:=s24 _ _ (s11 _ _ B8)
 unfold S21_1
 refine iloopS_for (G:=Sli) (fun k _ => (ptr b7,ptr b8,ptr b11,ptr b24,(k:Int))) (fun k A ω => FB φ ω b11 I 0 A ⟨none,0,0⟩ (atR l' I k).2 []∧Tape φ ω b24 ⟨a,min 300 n,c⟩ l' (atR l' I k).1∧Blk ω b8 29 [.int .i64 0,.int .i64 0,.slice none 0 0,.slice none 0 0]) N ?_ (g:=⟨none,0,0⟩) ⟨hFB0,hT0,hR0⟩
 rintro k A ω hk ⟨hF,hT,hR⟩ R hRR
 unfold S21_2
 dsimp only
 have hP:Blk ω b7 25 [.int .u8 s0,.int .u8 s1,.int .u8 s2,.slice a n c]:=hF.sub _ _ B7
 refine ⟨_,hP.get (i:=1) rfl,_,rfl,by omega,rfl,?_⟩
 rw [wN]
 refine br_dec.2 ⟨fun hlt => ?_,fun hge => ?_⟩
 · refine c41 hT hF.sub (by omega) (by omega) fun τ st1 hs1 hT1 => ?_
   rw [nx256 hl]
   have hF1:=hF.step1 hT.blk (by decide) hT.new st1
   have hR1:=hR.keep st1 (by rintro rfl; exact absurd rfl (ne_ty hT.blk hR (by decide)))
   have g0:=hF1.blk.get (i:=0) rfl
   rw [e0] at g0
   refine ⟨τ,.refl _,_,rfl,_,g0,_,rfl,by omega,rfl,by omega,rfl,by omega,rfl,?_⟩
   intro b43 h43
   simp only [newSet,newSet0,newCell,newCell0,newFroz,newFroz0,List.setIfInBounds_toArray,List.set_cons_zero,List.set_cons_succ,List.getElem?_toArray,List.getElem?_cons_zero,List.getElem?_cons_succ,Option.some.injEq,exists_eq',true_and,exists_eq_left']
   obtain ⟨x1,x2⟩:=nxv_rng hl (atR l' I k).1
   obtain ⟨y1,y2⟩:=nxv_rng hl (nxk l' (atR l' I k).1)
   generalize hx:nxv l' (atR l' I k).1=x at *
   generalize hy:nxv l' (nxk l' (atR l' I k).1)=y at *
   obtain ⟨q1,q2⟩:=td x1 (show (0:Int)≤16 by omega)
   obtain ⟨q3,q4⟩:=tm q1 (show (0:Int) < 7 by omega)
   obtain ⟨q5,q6⟩:=tm x1 (show (0:Int) < I by omega)
   obtain ⟨q7,q8⟩:=tm y1 (show (0:Int) < I - 1 by omega)
   have wC:IntKind.wrap .i64 (Int.tmod (IntKind.wrap .i64 (Int.tdiv x 16)) 7 - 4)=(x.tdiv 16).tmod 7 - 4:=by
     rw [w64 (n:=x.tdiv 16) (by omega) (by omega),w64 (by omega) (by omega)]
   rw [wC]
   have s43:=PH.sub_set (o:=.cells #[.int .i64 (x.tmod I),.int .i64 0,.int .i64 ((x.tdiv 16).tmod 7 - 4)] 50) h43
   have B43:Blk (τ.set b43 (.cells #[.int .i64 (x.tmod I),.int .i64 0,.int .i64 ((x.tdiv 16).tmod 7 - 4)] 50)) b43 50 [.int .i64 (x.tmod I),.int .i64 0,.int .i64 ((x.tdiv 16).tmod 7 - 4)]:=set_self
   generalize τ.set b43 (.cells #[.int .i64 (x.tmod I),.int .i64 0,.int .i64 ((x.tdiv 16).tmod 7 - 4)] 50)=τ2 at *
   have hF2:=hF1.sub' s43
   have hT2:Tape φ τ2 b24 ⟨a,min 300 n,c⟩ l' (nxk l' (atR l' I k).1):=hT1.keep (M:=fun _ => False) s43.step (fun h => h)
   have hR2:=s43 _ _ hR1
   have n43:φ b43=none:=new_of hF1.sub h43
   have g0b:=hF2.blk.get (i:=0) rfl
   rw [e0] at g0b
   have g43:=B43.get (i:=0) rfl
   rw [e0] at g43
   refine ⟨_,rfl,_,g0b,_,rfl,_,g0b,_,rfl,?_⟩
   refine c41 hT2 hF2.sub (by omega) (by omega) fun τ3 st3 hs3 hT3 => ?_
   rw [nx256 hl,hy]
   have hF3:=hF2.step1 hT2.blk (by decide) hT2.new st3
   have hR3:Blk τ3 b8 29 _:=Blk.keep st3 (by rintro rfl; exact absurd rfl (ne_ty hT2.blk hR2 (by decide))) hR2
   have B43c:=B43.keep st3 (by rintro rfl; exact absurd rfl (ne_ty hT2.blk B43 (by decide)))
   have g0c:=hF3.blk.get (i:=0) rfl
   rw [e0] at g0c
   have g43c:=B43c.get (i:=0) rfl
   rw [e0] at g43c
   have wY:Int.tmod (IntKind.wrap .i64 (IntKind.wrap .i64 (x.tmod I + 1) + y.tmod (IntKind.wrap .i64 (I - 1)))) I=(x.tmod I + 1 + y.tmod (I - 1)).tmod I:=by
     rw [w64 (n:=x.tmod I + 1) (by omega) (by omega),w64 (n:=I - 1) (by omega) (by omega),w64 (by omega) (by omega)]
   refine ⟨τ3,.refl _,g0c.trans g0b.symm,g0c.trans g0b.symm,g43c,_,rfl,by rw [w64 (by omega) (by omega)]; omega,by omega,⟨_,B43c.get (i:=1) rfl⟩,B43c.froz 1,?_⟩
   rw [wY]
   obtain ⟨w,hw⟩:∃ w,w=(x.tmod I + 1 + y.tmod (I - 1)).tmod I:=⟨_,rfl⟩
   rw [← hw]
   have st4:Step (·=b43) τ3 (τ3.setCell ((ptr b43).add 1) (.int .i64 w)):=setCell_step.weaken fun b hb => hb.trans (add_block _ _)
   have B43d:Blk (τ3.setCell ((ptr b43).add 1) (.int .i64 w)) b43 50 [.int .i64 (x.tmod I),.int .i64 w,.int .i64 ((x.tdiv 16).tmod 7 - 4)]:=B43c.set 1 (.int .i64 w)
   have nA:∀ p,A.a=some p→b43 ≠ p.block:=by
     rintro p hp rfl
     obtain ⟨arr,ha⟩:=hF1.oa.obj hp
     rw [ha] at h43; cases h43
   have hF4:=hF3.keep st4 (by rintro b rfl; exact ⟨n43,ne_ty B43c hF3.blk (by decide),nA,hF3.nK B43c (by decide)⟩)
   have hT4:=hT3.keep st4 (by rintro rfl; exact absurd rfl (ne_ty hT3.blk B43c (by decide)))
   have hR4:=hR3.keep st4 (by rintro rfl; exact absurd rfl (ne_ty hR3 B43c (by decide)))
   generalize τ3.setCell ((ptr b43).add 1) (.int .i64 w)=τ4 at *
   have g43d:=B43d.get (i:=0) rfl
   rw [e0] at g43d
   refine ⟨_,hF4.blk.get (i:=2) rfl,_,_,_,rfl,_,g43d,_,B43d.get (i:=1) rfl,_,B43d.get (i:=2) rfl,_,_,_,rfl,?_⟩
   intro b68 h68
   refine hF4.atom (x.tmod I,w,(x.tdiv 16).tmod 7 - 4) (by rw [atR_len]; omega) h68 fun A' τ5 hF5 st5 => ?_
   rw [wnat (by omega)]
   refine hRR A' _ (by omega) ⟨?_,?_,?_⟩
   · rw [atR,hx,hy]; unfold difOf; rw [← hw]; exact hF5
   · rw [atR]
     exact hT4.keep st5 (by rintro (h | ⟨p,hp,h⟩); exact ne_ty hT4.blk hF4.blk (by decide) h; exact hF4.nA hT4.blk (by decide) p hp h)
   · exact hR4.keep st5 (by rintro (h | ⟨p,hp,h⟩); exact d8 h; exact hF4.nA hR4 (by decide) p hp h)
 · have hkN:k=N:=by omega
   subst hkN
   have han:=hF.an
   rw [atR_len] at han
   refine ⟨_,hF.blk.get (i:=2) rfl,_,_,_,rfl,_,hP.get (i:=2) rfl,_,rfl,by omega,rfl,⟨_,hF.blk.get (i:=1) rfl⟩,hF.blk.froz 1,?_⟩
   obtain ⟨B,hB⟩:∃ B:Int,B=((atR l' I k).2.length:Int) + s2.tmod 7:=⟨_,rfl⟩
   have wB:IntKind.wrap .i64 ((A.n:Int) + Int.tmod (IntKind.wrap .i64 s2) 7)=B:=by rw [wi h2,w64 (by omega) (by omega),hB,atR_len,han]
   rw [wB]
   have hprob:probF s0 s1 s2 l'=⟨I.toNat,B.toNat,(atR l' I k).2,clE l' B (atR l' I k).1 40 0⟩:=by
     unfold probF; rw [← hI,← hN,← hB]
   rw [hprob] at hQ hp
   have hB1:1≤B∧B≤18:=by rw [hB,atR_len]; omega
   have hF':=hF.setBools B
   have st:Step (·=b11) ω (ω.setCell ((ptr b11).add 1) (.int .i64 B)):=setCell_step.weaken fun b hb => hb.trans (add_block _ _)
   have hT':=hT.keep st (fun h => ne_ty hT.blk hF.blk (by decide) h)
   have hR':=hR.keep st (fun h => d8 h)
   generalize ω.setCell ((ptr b11).add 1) (.int .i64 B)=ω' at *
   have hk0:=atR_le (l:=l') (I:=I) k
   generalize (atR l' I k).1=k0 at *
   generalize (atR l' I k).2=at' at *
   clear hT hR hF st
   unfold S21_3
   refine iloopS_for (G:=Sli) (fun _ _ => (ptr b8,ptr b11,ptr b24)) (fun i K υ => clE l' B k0 (40 - i) i=clE l' B k0 40 0∧Blk υ b8 29 [.int .i64 0,.int .i64 0,.slice none 0 0,.slice none 0 0]∧∃ φ',φ.sub φ'∧φ' b8=none∧FB φ' υ b11 I B A K at' (clS l' B k0 i).2∧Tape φ' υ b24 ⟨a,min 300 n,c⟩ l' (clS l' B k0 i).1) 40 ?_ (g:=⟨none,0,0⟩) ⟨rfl,hR',φ,.refl _,n8,hF',hT'⟩
   rintro i K υ hi ⟨hE,hRu,φ',hφ,hn8,hFu,hTu⟩ R hRR
   unfold S21_4
   dsimp only
   have hkn:=hFu.kn
   rw [clS_len] at hkn
   have t0:=hTu.blk.get (i:=0) rfl
   rw [e0] at t0
   have fin:clE l' B k0 40 0=(clS l' B k0 i).2→∃ v167,PH.cell? υ (ptr b11)=some v167∧∃ v168,PH.cell? υ ((ptr b11).add 1)=some v168∧∃ v169,PH.cell? υ ((ptr b11).add 2)=some v169∧∃ v170,PH.cell? υ ((ptr b11).add 3)=some v170∧∃ (i171:Int) (i172:Int) (a173:Option Addr) (n174:Nat) (c175:Nat) (a176:Option Addr) (n177:Nat) (c178:Nat),letI h903:PH:=PH.setCell υ (ptr b8) (.int .i64 i171); letI h904:PH:=PH.setCell h903 ((ptr b8).add 1) (.int .i64 i172); letI h906:PH:=PH.setCell h904 ((ptr b8).add 2) (.slice a173 n174 c175); letI h908:PH:=PH.setCell h906 ((ptr b8).add 3) (.slice a176 n177 c178); Value.agg #[v167,v168,v169,v170]=(.agg #[.int .i64 i171,.int .i64 i172,.slice a173 n174 c175,.slice a176 n177 c178])∧(∃ u179,PH.cell? υ (ptr b8)=some u179)∧PH.froz υ (ptr b8)=some false∧(∃ u180,PH.cell? h903 ((ptr b8).add 1)=some u180)∧PH.froz h903 ((ptr b8).add 1)=some false∧(∃ u181,PH.cell? h904 ((ptr b8).add 2)=some u181)∧PH.froz h904 ((ptr b8).add 2)=some false∧(∃ u182,PH.cell? h906 ((ptr b8).add 3)=some u182)∧PH.froz h906 ((ptr b8).add 3)=some false∧∃ v183,PH.cell? h908 (ptr b8)=some v183∧∃ v184,PH.cell? h908 ((ptr b8).add 1)=some v184∧∃ v185,PH.cell? h908 ((ptr b8).add 2)=some v185∧∃ v186,PH.cell? h908 ((ptr b8).add 3)=some v186∧Q (.agg #[v183,v184,v185,v186]) h908:=by
     intro hfin
     rw [hfin] at hQ
     have f0:=hFu.blk.get (i:=0) rfl
     rw [e0] at f0
     refine ⟨_,f0,_,hFu.blk.get (i:=1) rfl,_,hFu.blk.get (i:=2) rfl,_,hFu.blk.get (i:=3) rfl,_,_,_,_,_,_,_,_,rfl,?_⟩
     have r0:=hRu.get (i:=0) rfl
     rw [e0] at r0
     have z0:=hRu.froz 0
     rw [e0] at z0
     have R1:Blk (υ.setCell (ptr b8) (.int .i64 I)) b8 29 [.int .i64 I,.int .i64 0,.slice none 0 0,.slice none 0 0]:=hRu.set 0 (.int .i64 I)
     have R2:Blk ((υ.setCell (ptr b8) (.int .i64 I)).setCell ((ptr b8).add 1) (.int .i64 B)) b8 29 [.int .i64 I,.int .i64 B,.slice none 0 0,.slice none 0 0]:=R1.set 1 (.int .i64 B)
     have R3:Blk (((υ.setCell (ptr b8) (.int .i64 I)).setCell ((ptr b8).add 1) (.int .i64 B)).setCell ((ptr b8).add 2) A.v) b8 29 [.int .i64 I,.int .i64 B,A.v,.slice none 0 0]:=R2.set 2 A.v
     have R4:Blk ((((υ.setCell (ptr b8) (.int .i64 I)).setCell ((ptr b8).add 1) (.int .i64 B)).setCell ((ptr b8).add 2) A.v).setCell ((ptr b8).add 3) K.v) b8 29 [.int .i64 I,.int .i64 B,A.v,K.v]:=R3.set 3 K.v
     refine ⟨⟨_,r0⟩,z0,⟨_,R1.get (i:=1) rfl⟩,R1.froz 1,⟨_,R2.get (i:=2) rfl⟩,R2.froz 2,⟨_,R3.get (i:=3) rfl⟩,R3.froz 3,?_⟩
     have q0:=R4.get (i:=0) rfl
     rw [e0] at q0
     refine ⟨_,q0,_,R4.get (i:=1) rfl,_,R4.get (i:=2) rfl,_,R4.get (i:=3) rfl,?_⟩
     have w1:∀ {x:PH} {j:Nat} {v:Value},Step (·=b8) x (x.setCell ((ptr b8).add j) v):=fun {x j v} => setCell_step.weaken fun b hb => hb.trans (add_block _ _)
     have sR:Step (·=b8) υ ((((υ.setCell (ptr b8) (.int .i64 I)).setCell ((ptr b8).add 1) (.int .i64 B)).setCell ((ptr b8).add 2) A.v).setCell ((ptr b8).add 3) K.v):=(((w1 (j:=0)).trans w1).trans w1).trans w1
     have hFR:=hFu.toFR.keep sR (by rintro b rfl; exact ⟨hn8,hFu.nA hRu (by decide),hFu.nK hRu (by decide)⟩)
     have:=hQ φ' _ A K (s7.trans hφ) hFR hFu.oa.le (by obtain ⟨vs,o,_⟩:=hFu.ok; exact o.le)
     rw [show ((I.toNat:Nat):Int)=I by omega,show ((B.toNat:Nat):Int)=B by omega] at this
     exact this
   have hTlen:=hTu.u8.len
   have hTle:=hTu.le
   refine ⟨_,rfl,_,hTu.blk.get (i:=1) rfl,_,rfl,_,rfl,_,t0,_,_,_,rfl,br_dec.2 ⟨fun hlt => ⟨_,hFu.blk.get (i:=3) rfl,_,_,_,rfl,br_dec.2 ⟨fun h40 => ?_,fun h40 => ?_⟩⟩,fun hge => ?_⟩⟩
   · have hi40:i < 40:=by omega
     have hcont:clE l' B k0 (40 - (i + 1)) (i + 1)=clE l' B k0 40 0:=by
       rw [← hE,show 40 - i=(40 - (i + 1)) + 1 by omega,clE,if_pos (by omega)]
     refine c41 hTu hFu.sub (by omega) (by omega) fun τ st1 hs1 hT1 => ?_
     rw [nx256 hl]
     have hF1:=hFu.step1 hTu.blk (by decide) hTu.new st1
     have hR1:=hRu.keep st1 (by rintro rfl; exact absurd rfl (ne_ty hTu.blk hRu (by decide)))
     refine ⟨τ,.refl _,_,rfl,by omega,rfl,?_⟩
     obtain ⟨x1,x2⟩:=nxv_rng hl (clS l' B k0 i).1
     obtain ⟨y1,y2⟩:=tm x1 (show (0:Int) < 4 by omega)
     obtain ⟨m,hm⟩:∃ m:Nat,m=((nxv l' (clS l' B k0 i).1).tmod 4).toNat + 1:=⟨_,rfl⟩
     rw [show (nxv l' (clS l' B k0 i).1).tmod 4=(m:Int) - 1 by omega]
     obtain ⟨k1,hk1⟩:∃ k1,k1=nxk l' (clS l' B k0 i).1:=⟨_,rfl⟩
     rw [← hk1] at hT1
     have hm4:1≤m∧m≤4:=by omega
     clear st1 hs1
     unfold S21_5
     have hst0:((ptr b8,ptr b11,ptr b24,(none:Option Addr),0,0,(m:Int) - 1):T21_5)=(fun (j:Nat) (s:Sli) => ((ptr b8,ptr b11,ptr b24,s.a,s.n,s.c,(m:Int) - 1 - (j:Int)):T21_5)) 0 ⟨none,0,0⟩:=by simp
     rw [hst0]
     refine iloopS_for (G:=Sli) (fun (j:Nat) (s:Sli) => ((ptr b8,ptr b11,ptr b24,s.a,s.n,s.c,(m:Int) - 1 - (j:Int)):T21_5)) (fun j s ξ => FB φ' ξ b11 I B A K at' (clS l' B k0 i).2∧Tape φ' ξ b24 ⟨a,min 300 n,c⟩ l' (litS l' B k1 j).1∧Blk ξ b8 29 [.int .i64 0,.int .i64 0,.slice none 0 0,.slice none 0 0]∧Own ξ 3 1 s.a s.n s.c (ints (litS l' B k1 j).2)∧∀ p,s.a=some p→φ' p.block=none) m ?_ (g:=⟨none,0,0⟩) ⟨hF1,hT1,hR1,own_nil,by simp⟩
     rintro j s ξ hj ⟨hFx,hTx,hRx,hO,hOn⟩ R5 hR5
     unfold S21_6
     dsimp only
     have hOl:=own_len hO
     rw [litS_len] at hOl
     refine br_dec.2 ⟨fun hge => ?_,fun hlt2 => ?_⟩
     · have hjm:j < m:=by omega
       refine c41 hTx hFx.sub (by omega) (by omega) fun τ2 st2 hs2 hT2 => ?_
       rw [nx256 hl]
       have hF2:=hFx.step1 hTx.blk (by decide) hTx.new st2
       have hR2:=hRx.keep st2 (by rintro rfl; exact absurd rfl (ne_ty hTx.blk hRx (by decide)))
       have hO2:Own τ2 3 1 s.a s.n s.c (ints (litS l' B k1 j).2):=hO.keep st2 (by
         intro p hp e
         obtain ⟨arr,ha⟩:=hO.obj hp
         exact ne_ty ha hTx.blk (by decide) e)
       obtain ⟨xx1,xx2⟩:=nxv_rng hl (litS l' B k1 j).1
       have hnext:(litS l' B k1 (j + 1))=(nxk l' (litS l' B k1 j).1,(litS l' B k1 j).2 ++ [litOf B (nxv l' (litS l' B k1 j).1)]):=rfl
       generalize nxv l' (litS l' B k1 j).1=x at *
       obtain ⟨q1,q2⟩:=td xx1 (show (0:Int)≤2 by omega)
       obtain ⟨q3,q4⟩:=tm q1 (show (0:Int) < B by omega)
       have wx:IntKind.wrap .i64 (Int.tdiv x 2)=x.tdiv 2:=w64 (by omega) (by omega)
       have wl:IntKind.wrap .i64 (1 + (x.tdiv 2).tmod B)=1 + (x.tdiv 2).tmod B:=w64 (by omega) (by omega)
       have wn:IntKind.wrap .i64 (0 - (1 + (x.tdiv 2).tmod B))=-(1 + (x.tdiv 2).tmod B):=by rw [w64 (by omega) (by omega)]; omega
       have wj:IntKind.wrap .i64 ((m:Int) - 1 - (j:Int) - 1)=(m:Int) - 1 - ((j + 1:Nat):Int):=by rw [w64 (by omega) (by omega)]; omega
       refine ⟨τ2,.refl _,_,rfl,by omega,rfl,_,hF2.blk.get (i:=1) rfl,_,rfl,by omega,rfl,by omega,rfl,?_⟩
       rw [wx,wl,wn,wj]
       have key:∀ (y:Int),y=litOf B x→∀ b:Nat,τ2 b=none→iappend prog 3 (.slice s.a s.n s.c) (.slice (some ⟨b,0,none⟩) 1 1) (fun v τ => ∃ (a:Option Addr) (n c:Nat),v=.slice a n c∧R5 (ptr b8,ptr b11,ptr b24,a,n,c,(m:Int) - 1 - ((j + 1:Nat):Int)) τ) (PH.set τ2 b (.cells #[.int .i64 y] 3)):=by
         intro y hy b hb
         refine pushRow t3.1 t3.2.1 t3.2.2 rfl (by decide) hO2 hb (news:=[.int .i64 y]) rfl (by intro v hv; simp at hv; subst hv; trivial) (by omega) ?_
         intro a' c' τ3 hO3 hst hnew
         have hM:∀ b,(∃ p,s.a=some p∧b=p.block)→φ' b=none∧b ≠ b11∧(∀ p,A.a=some p→b ≠ p.block)∧(∀ p,K.a=some p→b ≠ p.block):=by
           rintro b ⟨p,hp,rfl⟩
           obtain ⟨arr,ha⟩:=hO2.obj hp
           exact ⟨hOn p hp,ne_ty ha hF2.blk (by decide),hF2.nA ha (by decide),hF2.nK ha (by decide)⟩
         refine ⟨_,_,_,rfl,hR5 ⟨a',s.n + 1,c'⟩ τ3 hjm ⟨hF2.keep hst hM,?_,?_,?_,?_⟩⟩
         · rw [hnext]
           refine hT2.keep hst ?_
           rintro ⟨p,hp,e⟩
           obtain ⟨arr,ha⟩:=hO2.obj hp
           exact ne_ty hT2.blk ha (by decide) e
         · refine hR2.keep hst ?_
           rintro ⟨p,hp,e⟩
           obtain ⟨arr,ha⟩:=hO2.obj hp
           exact ne_ty hR2 ha (by decide) e
         · rw [hnext,← hy]
           have:ints ((litS l' B k1 j).2 ++ [y])=ints (litS l' B k1 j).2 ++ [.int .i64 y]:=by unfold ints; simp
           rw [this]; exact hO3
         · intro p hp
           rcases hnew p hp with ⟨p',g1,g2⟩ | g1
           · rw [g2]; exact hOn p' g1
           · exact new_of hF2.sub g1
       refine br_iff.2 ⟨fun h => key _ ?_,fun h => key _ ?_⟩
       · unfold litOf; rw [if_pos (eq_of_beq h)]
       · unfold litOf; rw [if_neg (by simpa using h)]
     · have hjm:j=m:=by omega
       subst hjm
       refine ⟨_,hFx.blk.get (i:=3) rfl,_,_,_,rfl,?_⟩
       intro b140 h140
       obtain ⟨φ2,f1,f2,f3,f4⟩:=hFx.freeze (fun b => b=b8 ∨ b=b24) (by rintro b (rfl | rfl); exact hn8; exact hTx.new)
       have hI2:Own φ2 3 1 s.a s.n s.c (ints (litS l' B k1 j).2):=own_frozen hO fun p hp => by
         obtain ⟨arr,ha⟩:=hO.obj hp
         refine f4 _ (ne_ty ha hFx.blk (by decide)) (hFx.nA ha (by decide)) (hFx.nK ha (by decide)) ?_
         rintro (e | e)
         · exact ne_ty ha hRx (by decide) e
         · exact ne_ty ha hTx.blk (by decide) e
       refine f2.clause hI2 (by rw [clS_len]; omega) h140 fun K' τ5 hF5 st5 => ?_
       have hnext:clS l' B k0 (i + 1)=((litS l' B k1 j).1,(clS l' B k0 i).2 ++ [(litS l' B k1 j).2]):=by rw [clS,← hm,← hk1]
       have hTf:Tape φ2 ξ b24 ⟨a,min 300 n,c⟩ l' (litS l' B k1 j).1:=hTx.grow f1 (f3 _ (.inr rfl))
       refine hRR K' τ5 hi40 ⟨hcont,?_,φ2,hφ.trans f1,f3 _ (.inl rfl),?_,?_⟩
       · exact hRx.keep st5 (by rintro (h | ⟨p,hp,h⟩); exact d8 h; exact hFx.nK hRx (by decide) p hp h)
       · rw [hnext]; exact hF5
       · rw [hnext]
         exact hTf.keep st5 (by rintro (h | ⟨p,hp,h⟩); exact ne_ty hTf.blk hFx.blk (by decide) h; exact hFx.nK hTf.blk (by decide) p hp h)
   · refine fin ?_
     have:i=40:=by omega
     subst this
     exact hE.symm
   · refine fin ?_
     rw [← hE]
     cases hd:40 - i with
     | zero => rfl
     | succ f => rw [clE,if_neg (by omega)]
end Go.Proofs.Ythfnjogadngfiaa
