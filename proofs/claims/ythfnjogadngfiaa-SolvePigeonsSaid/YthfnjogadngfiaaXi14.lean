/- SolvePigeons answers true at every input that the row lets in; no condition beyond the row's own. -/
import Derived.ChangeArms
import Derived.ChangeSlices
import Derived.DataReads
import Derived.OpenShut
import Derived.WalkKit
import Derived.ProofKit
import Derived.ShutString
import Derived.ChangeOld
import Derived.Below
import Derived.Carry
import Derived.SizedLaws
import Derived.Test.YthfnjogadngfiaaRows
import Derived.Test.YthfnjogadngfiaaXi13
set_option maxRecDepth 100000
set_option linter.unusedVariables false
set_option linter.unusedSimpArgs false
namespace Go.Proofs.Ythfnjogadngfiaa
open Go.Sl Go.Sv
structure PV (σ υ:PH) (ff:List Value) (b12 b15 b16 n:Nat) (val:List Int):Prop where
 sub:σ.sub υ
 k12:Blk υ b12 29 ff
 k16:Blk υ b16 33 [.slice (some (ptr b15)) n n]
 k15:Blk υ b15 3 (ints val)
 n15:σ b15=none
 d1:b12 ≠ b15
 d2:b16 ≠ b15
 len:val.length=n
 sm:∀ y ∈ val,-1≤y∧y≤1
theorem PV.set {σ υ τ:PH} {ff:List Value} {b12 b15 b16 n:Nat} {val val':List Int} (h:PV σ υ ff b12 b15 b16 n val) {x:Int} (hv:setV val x=some val') (k:Blk τ b15 3 (ints val')) (st:Step (·=b15) υ τ):PV σ τ ff b12 b15 b16 n val' :=
 ⟨sub_step_new h.sub st (by rintro b rfl; exact h.n15),h.k12.keep st h.d1,h.k16.keep st h.d2,k,h.n15,h.d1,h.d2,(setV_len hv).trans h.len,setV_small hv h.sm⟩
theorem PV.lits {σ υ:PH} {ff:List Value} {b12 b15 b16 n:Nat} {val:List Int} (h:PV σ υ ff b12 b15 b16 n val):∀ y ∈ val,Lit y:=fun y hy => by have:=h.sm y hy; unfold Lit; omega
theorem scan_lit {val:List Int} {N:Nat}:∀ {c:List Int} {s:Int × Nat × Bool},(∀ x ∈ c,LitN N x)→(s.1=0 ∨ LitN N s.1)→(s.2.1=0 ∨ LitN N s.1)→((scanC val c s).1=0 ∨ LitN N (scanC val c s).1)∧((scanC val c s).2.1=0 ∨ LitN N (scanC val c s).1)
 | [],s,_,h1,h2 => ⟨h1,h2⟩
 | x :: c,s,hc,h1,h2 => by
   unfold scanC
   refine scan_lit (fun y hy => hc y (List.mem_cons_of_mem _ hy)) ?_ ?_
   · unfold scan1
     split
     · exact h1
     · split
       · exact .inr (hc x List.mem_cons_self)
       · exact h1
   · unfold scan1
     split
     · exact h2
     · split
       · exact .inr (hc x List.mem_cons_self)
       · exact h2
theorem c25 {σ:PH} {F:Fm} (hF:FOk F) (hlen:∀ c ∈ F.clauses,c.length≤1000000) {aa ca:Option Addr} {an ac cn cc:Nat} (hL:Lists σ ca cn F.clauses) {a:Option Addr} {n c:Nat} {l:List Int} (hI:Ints σ a n l) (hll:l.length≤1000000)
   {Q:Value→PH→Prop} (hno:(setAll (List.replicate F.bools 0) l=none ∨ ∃ v,setAll (List.replicate F.bools 0) l=some v∧PropR F.clauses v none)→∀ τ,σ.sub τ→Q (.tuple #[.slice none 0 0,.bool false]) τ)
   (hok:∀ v val τ (sl:Sli),setAll (List.replicate F.bools 0) l=some v→PropR F.clauses v (some val)→σ.sub τ→Own τ 3 1 sl.a sl.n sl.c (ints (litsTo val F.bools))→(∀ p,sl.a=some p→σ p.block=none)→Q (.tuple #[sl.v,.bool true]) τ)
   (hdec:∀ v,setAll (List.replicate F.bools 0) l=some v→∃ r,PropR F.clauses v r) :
   C 25 #[.agg #[.int .i64 F.ints,.int .i64 F.bools,.slice aa an ac,.slice ca cn cc],.slice a n c] Q σ:=by
 refine go (E25_0 _ _ _ _ _ _ _ _ _ _ _ _ _ _) ?_
 unfold S25_0
 have e0:∀ b:Nat,(Addr.mk b 0 none).add 0=⟨b,0,none⟩:=fun b => rfl
 have hnb:=hF.bools
 have hln:=hI.1
 have hLn:=hL.1
 have hcl:=hF.cn
 intro b12 h12
 have s12:=PH.sub_set (o:=.cells #[.int .i64 F.ints,.int .i64 F.bools,.slice aa an ac,.slice ca cn cc] 29) h12
 have B12:Blk (σ.set b12 (.cells #[.int .i64 F.ints,.int .i64 F.bools,.slice aa an ac,.slice ca cn cc] 29)) b12 29 [.int .i64 F.ints,.int .i64 F.bools,.slice aa an ac,.slice ca cn cc]:=set_self
 generalize σ.set b12 (.cells #[.int .i64 F.ints,.int .i64 F.bools,.slice aa an ac,.slice ca cn cc] 29)=ω at *
 refine ⟨_,B12.get (i:=1) rfl,_,rfl,?_⟩
 have wif:(if (F.bools:Int) < (0:Int) then (0:Int) else (F.bools:Int))=(F.bools:Int):=if_neg (by omega)
 rw [wif]
 refine ⟨by omega,by omega,by omega,by omega,fun b15 h15 b16 => ?_⟩
 simp only [Int.toNat_natCast]
 have s15:=PH.sub_set (o:=.cells (zeros (.int .i64 0) F.bools) 3) h15
 have B15:Blk (ω.set b15 (.cells (zeros (.int .i64 0) F.bools) 3)) b15 3 (ints (List.replicate F.bools 0)):=by
   have:zeros (.int .i64 0) F.bools=(ints (List.replicate F.bools 0)).toArray:=by rw [zeros_one rfl,ints,List.map_replicate]
   rw [this]; exact set_self
 generalize ω.set b15 (.cells (zeros (.int .i64 0) F.bools) 3)=ω1 at *
 intro h16
 simp only [newSet,newSet0,newCell,newCell0,newFroz,newFroz0,List.setIfInBounds_toArray,List.set_cons_zero,List.set_cons_succ,List.getElem?_toArray,List.getElem?_cons_zero,List.getElem?_cons_succ,Option.some.injEq,exists_eq',true_and,exists_eq_left']
 have s16:=PH.sub_set (o:=.cells #[.slice (some ⟨b15,0,none⟩) F.bools F.bools] 33) h16
 have B16:Blk (ω1.set b16 (.cells #[.slice (some ⟨b15,0,none⟩) F.bools F.bools] 33)) b16 33 [.slice (some (ptr b15)) F.bools F.bools]:=set_self
 generalize ω1.set b16 (.cells #[.slice (some ⟨b15,0,none⟩) F.bools F.bools] 33)=ω2 at *
 have P0:PV σ ω2 [.int .i64 F.ints,.int .i64 F.bools,.slice aa an ac,.slice ca cn cc] b12 b15 b16 F.bools (List.replicate F.bools 0) :=
   ⟨(s12.trans s15).trans s16,s16 _ _ (s15 _ _ B12),B16,s16 _ _ B15,new_of s12 h15,(ne_new B12 h15).symm,ne_new B15 h16,by simp,fun y hy => by rw [List.mem_replicate] at hy; omega⟩
 unfold S25_1
 refine iloopS_for (G:=List Int) (fun k val => (ptr b12,ptr b16,ptr b16,a,n,c,(n:Int),(k:Int))) (fun k val υ => PV σ υ [.int .i64 F.ints,.int .i64 F.bools,.slice aa an ac,.slice ca cn cc] b12 b15 b16 F.bools val∧setAll val (l.drop k)=setAll (List.replicate F.bools 0) l) n ?_ (g:=List.replicate F.bools 0) ⟨P0,rfl⟩
 rintro k val υ hk ⟨P,hs⟩ R hR
 unfold S25_2
 dsimp only
 refine br_dec.2 ⟨fun hlt => ?_,fun hge => ?_⟩
 · have hkn:k < n:=by omega
   obtain ⟨x,hx⟩:∃ x,l[k]?=some x:=⟨_,List.getElem?_eq_getElem (by omega)⟩
   obtain ⟨p,hp,hc⟩:=(hI.sub P.sub).2.at (i:=k) (v:=.int .i64 x) (by simp [hx])
   have wk:IntKind.wrap .i64 ((k:Int) + 1)=((k + 1:Nat):Int):=by rw [w64 (by omega) (by omega)]; omega
   have hdk:l.drop k=x :: l.drop (k + 1):=by
     rw [List.drop_eq_getElem_cons (by omega)]
     congr 1
     exact (List.getElem?_eq_some_iff.1 hx).2
   rw [hdk,setAll] at hs
   refine ⟨p,hp,by omega,by omega,_,by rw [Int.toNat_natCast,Nat.mul_one]; exact hc,x,rfl,?_⟩
   refine c42 P.k16 P.k15 P.len (by omega) (fun h => ⟨υ,.refl _,_,rfl,br_iff.2 ⟨fun _ => ?_,fun h => (by cases h)⟩⟩) fun val' τ h hB hst => ⟨τ,.refl _,_,rfl,br_iff.2 ⟨fun h => (by cases h),fun _ => ?_⟩⟩
   · rw [h] at hs
     exact hno (.inl hs.symm) υ P.sub
   · rw [h] at hs
     rw [wk]
     exact hR val' τ hkn ⟨P.set h hB hst,hs⟩
 · have hkn:k=n:=by omega
   subst hkn
   rw [List.drop_eq_nil_of_le (by omega),setAll] at hs
   obtain ⟨r,hr⟩:=hdec val hs.symm
   have key:∀ (v0:List Int),setAll (List.replicate F.bools 0) l=some v0→∀ (w:List Int) (r:Option (List Int)),PropR F.clauses w r→(∀ r',PropR F.clauses w r'→PropR F.clauses v0 r')→∀ υ,PV σ υ [.int .i64 F.ints,.int .i64 F.bools,.slice aa an ac,.slice ca cn cc] b12 b15 b16 F.bools w→S25_3 C Q (ptr b12) (ptr b16) (ptr b16) true υ:=by
     intro v0 hv0 w r hwr
     have step:∀ (w:List Int) (hpr:∀ r',PropR F.clauses w r'→PropR F.clauses v0 r'),∀ υ,PV σ υ [.int .i64 F.ints,.int .i64 F.bools,.slice aa an ac,.slice ca cn cc] b12 b15 b16 F.bools w→∀ R3:Addr × Addr × Addr × Bool→PH→Prop,
         (roundP F.clauses w false=none→∀ τ,σ.sub τ→Q (.tuple #[.slice none 0 0,.bool false]) τ)→(∀ w' ch τ,roundP F.clauses w false=some (w',ch)→PV σ τ [.int .i64 F.ints,.int .i64 F.bools,.slice aa an ac,.slice ca cn cc] b12 b15 b16 F.bools w'→R3 (ptr b12,ptr b16,ptr b16,ch) τ)→S25_4 C Q R3 (ptr b12) (ptr b16) (ptr b16) true υ:=by
       intro w hpr υ P R3 h1 h2
       unfold S25_4
       refine br_iff.2 ⟨fun _ => ⟨_,P.k12.get (i:=3) rfl,_,_,_,rfl,?_⟩,fun h => (by cases h)⟩
       unfold S25_5
       refine iloopS_for (G:=List Int × Bool) (fun k g => (ptr b12,ptr b16,ptr b16,g.2,ca,cn,cc,(cn:Int),(k:Int))) (fun k g τ => PV σ τ [.int .i64 F.ints,.int .i64 F.bools,.slice aa an ac,.slice ca cn cc] b12 b15 b16 F.bools g.1∧roundP (F.clauses.drop k) g.1 g.2=roundP F.clauses w false) cn ?_ (g:=(w,false)) ⟨P,rfl⟩
       clear P υ
       rintro k ⟨wv,ch⟩ υ hk ⟨P,hrd⟩ R5 hR5
       dsimp only at P hrd
       unfold S25_6
       dsimp only
       refine br_dec.2 ⟨fun hlt => ?_,fun hge => ?_⟩
       · have hkn:k < cn:=by omega
         obtain ⟨cl,hc⟩:∃ c,F.clauses[k]?=some c:=⟨_,List.getElem?_eq_getElem (by omega)⟩
         have hcm:=List.mem_of_getElem? hc
         have hclit:=hF.cl cl hcm
         have hdk:F.clauses.drop k=cl :: F.clauses.drop (k + 1):=by
           rw [List.drop_eq_getElem_cons (by omega)]
           congr 1
           exact (List.getElem?_eq_some_iff.1 hc).2
         rw [hdk,roundP] at hrd
         obtain ⟨p,x,m,kk,hp,hcell,hIc,hmk⟩:=(hL.sub P.sub).2 k cl hc
         have hcm':=hIc.1
         have hclen:=hlen cl hcm
         have wk:IntKind.wrap .i64 ((k:Int) + 1)=((k + 1:Nat):Int):=by rw [w64 (by omega) (by omega)]; omega
         have g16:=P.k16.get (i:=0) rfl
         rw [e0] at g16
         have hIv:Ints υ (some (ptr b15)) F.bools wv:=⟨P.len,.inr ⟨_,rfl,fun i v hv => P.k15.get hv⟩⟩
         refine ⟨p,hp,by omega,by omega,_,by rw [Int.toNat_natCast,Nat.mul_one]; exact hcell,_,_,_,rfl,?_⟩
         unfold S25_7
         refine iloopS_for (G:=Int × Nat × Bool) (fun j s => (ptr b12,ptr b16,ptr b16,ch,s.1,(s.2.1:Int),s.2.2,ca,cn,cc,(cn:Int),(k:Int),x,m,kk,(m:Int),(j:Int))) (fun j s τ => υ=τ∧scanC wv (cl.drop j) s=scanC wv cl (0,0,false)∧s.2.1≤j) m ?_ (g:=(0,0,false)) ⟨rfl,rfl,Nat.le_refl _⟩
         rintro j s _ hj ⟨rfl,hsc,hsj⟩ R7 hR7
         unfold S25_8
         dsimp only
         refine br_dec.2 ⟨fun hjlt => ?_,fun hjge => ?_⟩
         · have hjn:j < m:=by omega
           obtain ⟨y,hy⟩:∃ y,cl[j]?=some y:=⟨_,List.getElem?_eq_getElem (by omega)⟩
           have hyl:=hclit y (List.mem_of_getElem? hy)
           have hdj:cl.drop j=y :: cl.drop (j + 1):=by
             rw [List.drop_eq_getElem_cons (by omega)]
             congr 1
             exact (List.getElem?_eq_some_iff.1 hy).2
           rw [hdj,scanC] at hsc
           obtain ⟨q,hq,hcq⟩:=hIc.2.at (i:=j) (v:=.int .i64 y) (by simp [hy])
           have wj:IntKind.wrap .i64 ((j:Int) + 1)=((j + 1:Nat):Int):=by rw [w64 (by omega) (by omega)]; omega
           refine ⟨q,hq,by omega,by omega,_,by rw [Int.toNat_natCast,Nat.mul_one]; exact hcq,y,rfl,_,g16,_,_,_,rfl,(c43 (litN hyl hnb) hIv P.lits).mono hb ?_⟩
           rintro _ τ ⟨rfl,eτ⟩
           obtain rfl:=eτ.symm
           refine ⟨_,.refl _,_,rfl,?_⟩
           rw [wj]
           refine br_dec.2 ⟨fun hpos => ?_,fun hnp => br_iff.2 ⟨fun hz => br_iff.2 ⟨fun hne => ?_,fun he => ?_⟩,fun hz => ?_⟩⟩
           · refine hR7 (s.1,s.2.1,true) _ hjn ⟨rfl,?_,by dsimp only; omega⟩
             rw [← hsc]; congr 1
             unfold scan1; rw [if_pos hpos]
           · have hz:Go.Sv.valS wv y=0:=by simpa using hz
             have hne:y ≠ s.1:=by simpa using hne
             have wo:IntKind.wrap .i64 ((s.2.1:Int) + 1)=((s.2.1 + 1:Nat):Int):=by rw [w64 (by omega) (by omega)]; omega
             rw [wo]
             refine hR7 (y,s.2.1 + 1,s.2.2) _ hjn ⟨rfl,?_,by dsimp only; omega⟩
             rw [← hsc]; congr 1
             unfold scan1; rw [if_neg hnp,if_pos ⟨hz,hne⟩]
           · have he:y=s.1:=by simpa using he
             refine hR7 s _ hjn ⟨rfl,?_,by omega⟩
             rw [← hsc]; congr 1
             unfold scan1; rw [if_neg hnp,if_neg (fun h => h.2 he)]
           · have hz:Go.Sv.valS wv y ≠ 0:=by simpa using hz
             refine hR7 s _ hjn ⟨rfl,?_,by omega⟩
             rw [← hsc]; congr 1
             unfold scan1; rw [if_neg hnp,if_neg (fun h => hz h.1)]
         · have hjn:j=m:=by omega
           subst hjn
           rw [List.drop_eq_nil_of_le (by omega),scanC] at hsc
           rw [← hsc] at hrd
           have hsl:=scan_lit (val:=wv) (N:=F.bools) (c:=cl) (s:=(0,0,false)) hclit (.inl rfl) (.inl rfl)
           rw [← hsc] at hsl
           have hsL:Lit s.1:=by
             rcases hsl.1 with h | h
             · rw [h]; unfold Lit; omega
             · exact litN h hnb
           rw [wk]
           refine br_iff.2 ⟨fun hh => ?_,fun hh => br_dec.2 ⟨fun ho => ?_,fun ho => br_iff.2 ⟨fun hz => ?_,fun hz => ?_⟩⟩⟩
           · rw [if_pos (.inl hh)] at hrd
             exact hR5 (wv,ch) _ hkn ⟨P,hrd⟩
           · rw [if_pos (.inr (by omega))] at hrd
             exact hR5 (wv,ch) _ hkn ⟨P,hrd⟩
           · have hz:s.2.1=0:=by simp at hz; omega
             rw [if_neg (by simp [hh]; omega),if_pos hz] at hrd
             exact h1 hrd.symm υ P.sub
           · have hz:s.2.1 ≠ 0:=by intro h; rw [h] at hz; simp at hz
             rw [if_neg (by simp [hh]; omega),if_neg hz] at hrd
             refine c42 P.k16 P.k15 P.len (by omega) (fun h => ⟨υ,.refl _,_,rfl,?_⟩) fun val' τ h hB hst => ⟨τ,.refl _,_,rfl,?_⟩
             · rw [h] at hrd
               exact hR5 (wv,true) _ hkn ⟨P,hrd⟩
             · rw [h] at hrd
               exact hR5 (val',true) _ hkn ⟨P.set h hB hst,hrd⟩
       · have hkn:k=cn:=by omega
         subst hkn
         rw [List.drop_eq_nil_of_le (by omega),roundP] at hrd
         exact h2 wv ch υ hrd.symm P
     have fin:∀ (w':List Int),PropR F.clauses v0 (some w')→∀ τ,PV σ τ [.int .i64 F.ints,.int .i64 F.bools,.slice aa an ac,.slice ca cn cc] b12 b15 b16 F.bools w'→∀ R3:Addr × Addr × Addr × Bool→PH→Prop,S25_4 C Q R3 (ptr b12) (ptr b16) (ptr b16) false τ:=by
       intro w' hpr υ P R3
       unfold S25_4
       have g16:=P.k16.get (i:=0) rfl
       rw [e0] at g16
       refine br_iff.2 ⟨fun h => (by cases h),fun _ => ⟨_,g16,_,_,_,rfl,?_⟩⟩
       unfold S25_9
       refine iloopS_for (G:=Sli) (fun k sl => (sl.a,sl.n,sl.c,some (ptr b15),F.bools,F.bools,(F.bools:Int),(k:Int))) (fun k sl τ => υ.sub τ∧Own τ 3 1 sl.a sl.n sl.c (ints (litsTo w' k))∧∀ p,sl.a=some p→υ p.block=none) F.bools ?_ (g:=⟨none,0,0⟩) ⟨.refl _,own_nil,fun p hp => by cases hp⟩
       rintro k sl τ hk ⟨hs,hO,hnew⟩ R9 hR9
       unfold S25_10
       dsimp only at hO hnew ⊢
       refine br_dec.2 ⟨fun hlt => ?_,fun hge => ?_⟩
       · have hkn:k < F.bools:=by omega
         have hkl:k < w'.length:=by rw [P.len]; exact hkn
         have hc:τ.cell? ((ptr b15).add k)=some (.int .i64 (w'.getD k 0)):=hs.cell (P.k15.get (i:=k) (by rw [ints,List.getElem?_map,List.getElem?_eq_getElem hkl,List.getD_eq_getElem?_getD,List.getElem?_eq_getElem hkl]; rfl))
         have hsm:=P.sm (w'.getD k 0) (by rw [List.getD_eq_getElem?_getD,List.getElem?_eq_getElem hkl]; exact List.getElem_mem _)
         have hlt':=litsTo_succ w' k
         have hll':=litsTo_len w' k
         generalize w'.getD k 0=y at *
         have wk:IntKind.wrap .i64 ((k:Int) + 1)=(k:Int) + 1:=w64 (by omega) (by omega)
         have wy:IntKind.wrap .i64 (y * ((k:Int) + 1))=y * ((k:Int) + 1):=by
           have:y=-1 ∨ y=0 ∨ y=1:=by omega
           rcases this with rfl | rfl | rfl <;> rw [w64 (by omega) (by omega)]
         rw [wk,show ((k:Int) + 1)=((k + 1:Nat):Int) from by omega]
         refine ⟨_,rfl,by omega,by omega,_,by rw [Int.toNat_natCast,Nat.mul_one]; exact hc,y,rfl,br_iff.2 ⟨fun hne b hbn => ?_,fun he => ?_⟩⟩
         · have hne:y ≠ 0:=by simpa using hne
           rw [if_neg hne] at hlt'
           rw [show ((k + 1:Nat):Int)=(k:Int) + 1 from by omega,wy]
           exact growNew hs hO hnew (y * ((k:Int) + 1)) (by omega) hbn (R:=fun a n c τ => R9 (a,n,c,some (ptr b15),F.bools,F.bools,(F.bools:Int),(k:Int) + 1) τ) fun sl' τ' g1 g2 g3 => hR9 sl' τ' hkn ⟨g1,by rw [hlt']; exact g2,g3⟩
         · have he:y=0:=by simpa using he
           rw [if_pos he,List.append_nil] at hlt'
           exact hR9 sl τ hkn ⟨hs,by rw [hlt']; exact hO,hnew⟩
       · have hkn:k=F.bools:=by omega
         subst hkn
         exact hok v0 w' τ sl hv0 hpr (P.sub.trans hs) hO fun p hp => new_of P.sub (hnew p hp)
     induction hwr with
     | stop h =>
       intro hpr υ P
       unfold S25_3
       intro R3 hR3
       refine hR3 _ _ (step _ hpr υ P R3 (fun h' τ hτ => hno (.inr ⟨v0,hv0,hpr _ (.stop h')⟩) τ hτ) fun w' ch τ h' _ => ?_)
       rw [h] at h'; cases h'
     | @done w w' h =>
       intro hpr υ P
       unfold S25_3
       intro R3 hR3
       refine hR3 _ _ (step _ hpr υ P R3 (fun h' _ _ => ?_) fun w2 ch τ h' P' => ?_)
       · rw [h] at h'; cases h'
       · rw [h] at h'; cases h'
         exact hR3 _ _ (fin _ (hpr _ (.done h)) τ P' R3)
     | @go w w' r h _ ih =>
       intro hpr υ P
       unfold S25_3
       intro R3 hR3
       refine hR3 _ _ (step _ hpr υ P R3 (fun h' _ _ => ?_) fun w2 ch τ h' P' => ?_)
       · rw [h] at h'; cases h'
       · rw [h] at h'; cases h'
         exact ih (fun r' hr' => hpr r' (.go h hr')) τ P' R3 hR3
   exact key val hs.symm val r hr (fun _ h => h) υ P
theorem c18sat {σ:PH} {F:Fm} (hF:FOk F) (hlen:∀ c ∈ F.clauses,c.length≤1000000) {aa ca:Option Addr} {an ac cn cc:Nat} (hA:Atoms σ aa an F.atoms) (hL:Lists σ ca cn F.clauses) {ba xa:Option Addr} {bc xc:Nat} {bl:List Bool} {x:Nat→Int} (hB:Bools σ ba F.bools bl) (hX:Ints σ xa F.ints (tab F.ints x)) (hM:SatM F bl x) {la:Option Addr} {lc:Nat} {Q:Value→PH→Prop} (hQ:∀ τ,σ.sub τ→Q (.bool true) τ) :
   C 18 #[.agg #[.int .i64 F.ints,.int .i64 F.bools,.slice aa an ac,.slice ca cn cc],.agg #[.slice ba F.bools bc,.slice xa F.ints xc],.slice la 0 lc,.bool true] Q σ:=by
 refine go (E18_0 _ _ _ _ _ _ _ _ _ _ _ _ _ _ _ _ _ _ _ _ _) ?_
 unfold S18_0
 have e0:∀ b:Nat,(Addr.mk b 0 none).add 0=⟨b,0,none⟩:=fun b => rfl
 intro b15 h15
 have s15:=PH.sub_set (o:=.cells #[.int .i64 F.ints,.int .i64 F.bools,.slice aa an ac,.slice ca cn cc] 29) h15
 have B15:Blk (σ.set b15 (.cells #[.int .i64 F.ints,.int .i64 F.bools,.slice aa an ac,.slice ca cn cc] 29)) b15 29 [.int .i64 F.ints,.int .i64 F.bools,.slice aa an ac,.slice ca cn cc]:=set_self
 generalize σ.set b15 (.cells #[.int .i64 F.ints,.int .i64 F.bools,.slice aa an ac,.slice ca cn cc] 29)=ω0 at *
 intro b16 h16
 have s16:=PH.sub_set (o:=.cells #[.slice ba F.bools bc,.slice xa F.ints xc] 35) h16
 have B16:Blk (ω0.set b16 (.cells #[.slice ba F.bools bc,.slice xa F.ints xc] 35)) b16 35 [.slice ba F.bools bc,.slice xa F.ints xc]:=set_self
 have B15:=s16 _ _ B15
 have sω:=s15.trans s16
 generalize ω0.set b16 (.cells #[.slice ba F.bools bc,.slice xa F.ints xc] 35)=ω at *
 replace B15:Blk ω b15 29 [.int .i64 F.ints,.int .i64 F.bools,.slice aa an ac,.slice ca cn cc]:=B15
 have g15:=B15.get (i:=0) rfl
 have g16:=B16.get (i:=0) rfl
 rw [e0] at g15 g16
 refine br_iff.2 ⟨fun _ => br_iff.2 ⟨fun _ => ?_,fun h => by simp at h⟩,fun h => (by cases h)⟩
 refine ⟨_,g15,_,B15.get (i:=1) rfl,_,B15.get (i:=2) rfl,_,B15.get (i:=3) rfl,_,_,_,_,_,_,_,_,rfl,_,g16,_,B16.get (i:=1) rfl,_,_,_,_,_,_,rfl,?_⟩
 exact c39 hF hlen (hA.sub sω) (hL.sub sω) (hB.sub sω) (hX.sub sω) hM fun τ hs => ⟨τ,.refl _,true,rfl,hQ τ (sω.trans hs)⟩
theorem c18no {σ:PH} {F:Fm} (hF:FOk F) (hlen:∀ c ∈ F.clauses,c.length≤1000000) {aa ca:Option Addr} {an ac cn cc:Nat} (hA:Atoms σ aa an F.atoms) (hL:Lists σ ca cn F.clauses) {a:Option Addr} {n c:Nat} {ps:List PStep} (hS:StepsM σ a n ps) {cs:List (List Int)} (hcs:stepsOf F ps=some cs) (hlast:cs.getLast?=some []) (hn:n≤3500000000000) {Q:Value→PH→Prop} (hQ:∀ τ,σ.sub τ→Q (.bool true) τ) :
   C 18 #[.agg #[.int .i64 F.ints,.int .i64 F.bools,.slice aa an ac,.slice ca cn cc],.agg #[.slice none 0 0,.slice none 0 0],.slice a n c,.bool false] Q σ:=by
 refine go (E18_0 _ _ _ _ _ _ _ _ _ _ _ _ _ _ _ _ _ _ _ _ _) ?_
 unfold S18_0
 have e0:∀ b:Nat,(Addr.mk b 0 none).add 0=⟨b,0,none⟩:=fun b => rfl
 intro b15 h15
 have s15:=PH.sub_set (o:=.cells #[.int .i64 F.ints,.int .i64 F.bools,.slice aa an ac,.slice ca cn cc] 29) h15
 have B15:Blk (σ.set b15 (.cells #[.int .i64 F.ints,.int .i64 F.bools,.slice aa an ac,.slice ca cn cc] 29)) b15 29 [.int .i64 F.ints,.int .i64 F.bools,.slice aa an ac,.slice ca cn cc]:=set_self
 generalize σ.set b15 (.cells #[.int .i64 F.ints,.int .i64 F.bools,.slice aa an ac,.slice ca cn cc] 29)=ω0 at *
 intro b16 h16
 have s16:=PH.sub_set (o:=.cells #[.slice none 0 0,.slice none 0 0] 35) h16
 have B16:Blk (ω0.set b16 (.cells #[.slice none 0 0,.slice none 0 0] 35)) b16 35 [.slice none 0 0,.slice none 0 0]:=set_self
 have B15:=s16 _ _ B15
 have sω:=s15.trans s16
 generalize ω0.set b16 (.cells #[.slice none 0 0,.slice none 0 0] 35)=ω at *
 replace B15:Blk ω b15 29 [.int .i64 F.ints,.int .i64 F.bools,.slice aa an ac,.slice ca cn cc]:=B15
 have g15:=B15.get (i:=0) rfl
 rw [e0] at g15
 refine br_iff.2 ⟨fun h => (by cases h),fun _ => ?_⟩
 refine ⟨_,g15,_,B15.get (i:=1) rfl,_,B15.get (i:=2) rfl,_,B15.get (i:=3) rfl,_,_,_,_,_,_,_,_,rfl,?_⟩
 refine c40 hF hlen (hA.sub sω) (hL.sub sω) (hS.sub sω) hcs hlast hn fun τ hs => ⟨τ,.refl _,0,0,rfl,br_iff.2 ⟨fun _ => ?_,fun h => by simp at h⟩⟩
 have Bτ:Blk τ b16 35 [.slice none 0 0,.slice none 0 0]:=hs _ _ B16
 have g16:=Bτ.get (i:=0) rfl
 rw [e0] at g16
 refine ⟨_,g16,_,_,_,rfl,_,Bτ.get (i:=1) rfl,_,_,_,rfl,?_⟩
 have w:IntKind.wrap .i64 (((0:Nat):Int) + ((0:Nat):Int))=0:=by rw [w64 (by omega) (by omega)]; rfl
 rw [w]
 exact hQ τ (sω.trans hs)
end Go.Proofs.Ythfnjogadngfiaa
namespace Go.Sv
theorem litT_neg {bl:List Bool} {y:Int} (hy:y ≠ 0):litT bl (-y) ↔ ¬ litT bl y:=by
 unfold litT
 by_cases h:0 < y
 · rw [if_pos h,if_neg (by omega),Int.neg_neg]; simp
 · rw [if_neg h,if_pos (by omega)]; simp
theorem bound_sat {F:Fm} {bl:List Bool} {x:Nat→Int} (hM:SatM F bl x) {y:Int} {d:Dif} (hb:bound F y=some d) (hy:litT bl y):x (dX d) - x (dY d)≤d.2.2:=by
 unfold bound at hb
 split at hb
 · cases hb
 · rename_i h0
   split at hb
   · cases hb
   · rename_i a b c hat
     have:=hM.at' _ _ hat
     split at hb
     · rename_i hp
       cases hb
       unfold litT at hy
       rw [if_pos hp,show (y - 1).toNat=vr y from by unfold vr; omega] at hy
       exact this.1 hy
     · rename_i hp
       cases hb
       unfold litT at hy
       rw [if_neg hp,show (-y - 1).toNat=vr y from by unfold vr; omega] at hy
       have hn:¬ (x (dX (a,b,c)) - x (dY (a,b,c))≤c):=fun h => by
         have:=this.2 h
         rw [hy] at this; cases this
       have e1:dX (b,a,-c - 1)=dY (a,b,c):=rfl
       have e2:dY (b,a,-c - 1)=dX (a,b,c):=rfl
       rw [e1,e2]
       show _≤-c - 1
       omega
theorem sound {F:Fm} (hF:FOk F) {bl:List Bool} {x:Nat→Int} (hM:SatM F bl x) {l:List PStep} {cs:List (List Int)} (h:stepsOf F l=some cs):∀ (i:Nat) c,cs[i]?=some c→∃ y ∈ c,litT bl y:=by
 obtain ⟨hlen,hat⟩:=stepsOf_pre h
 have hlit:=steps_lit hF h
 intro i
 induction i using Nat.strongRecOn with
 | ind i ih =>
   intro c hc
   have hi:=(List.getElem?_eq_some_iff.1 hc).1
   obtain ⟨s,hs⟩:∃ s,l[i]?=some s:=⟨_,List.getElem?_eq_getElem (by omega)⟩
   obtain ⟨c',q1,q2⟩:=hat i s hs
   rw [hc] at q1; cases q1
   have fin:∀ {d:List Int},norm d=some c→(∃ y ∈ d,litT bl y)→∃ y ∈ c,litT bl y:=fun hd ⟨y,h1,h2⟩ => by
     obtain ⟨_,hm,_⟩:=norm_some hd
     exact ⟨y,(hm y).2 h1,h2⟩
   unfold stepClause at q2
   split at q2
   · split at q2
     · split at q2
       · rename_i d hd
         exact fin q2 (hM.cl d (List.mem_of_getElem? hd))
       · cases q2
     · cases q2
   · split at q2
     · obtain ⟨h1,h2⟩:=cyclic_litN hF q2
       refine fin h2 ?_
       apply Classical.byContradiction
       intro hne
       have hall:∀ y ∈ s.lits,litT bl y:=by
         intro y hy
         apply Classical.byContradiction
         intro hny
         exact hne ⟨-y,List.mem_map.2 ⟨y,hy,rfl⟩,(litT_neg (h1 y hy).1).2 hny⟩
       unfold cyclic at q2
       split at q2
       · cases q2
       · rename_i lb hb
         split at q2
         · rename_i hr
           refine ring_false (x:=x) hr.1 fun d hd => ?_
           obtain ⟨y,hy1,hy2⟩:=bounds_mem hb d hd
           exact bound_sat hM hy2 (hall y hy1)
         · cases q2
     · split at q2
       · split at q2
         · split at q2
           · rename_i a b ha hb
             rw [List.getElem?_take] at ha hb
             split at ha
             · rename_i hp
               split at hb
               · rename_i hq
                 refine fin (resolvent_some q2) ?_
                 obtain ⟨y,y1,y2⟩:=ih _ hp a ha
                 obtain ⟨z,z1,z2⟩:=ih _ hq b hb
                 by_cases hy:y=s.v + 1
                 · have hz:z ≠ -(s.v + 1):=by
                     intro hz
                     rw [hz] at z2
                     rw [hy] at y2
                     have h0:s.v + 1 ≠ 0:=by
                       have:=((hlit _ a ha).2 y y1).1
                       omega
                     exact (litT_neg h0).1 z2 y2
                   exact ⟨z,List.mem_append_right _ (List.mem_filter.2 ⟨z1,by simpa using hz⟩),z2⟩
                 · exact ⟨y,List.mem_append_left _ (List.mem_filter.2 ⟨y1,by simpa using hy⟩),y2⟩
               · cases hb
             · cases ha
           · cases q2
         · cases q2
       · cases q2
theorem sound_no {F:Fm} (hF:FOk F) {bl:List Bool} {x:Nat→Int} (hM:SatM F bl x) {l:List PStep} {cs:List (List Int)} (h:stepsOf F l=some cs) (hl:cs.getLast?=some []):False:=by
 rw [List.getLast?_eq_getElem?] at hl
 obtain ⟨y,hy,_⟩:=sound hF hM h _ _ hl
 simp at hy
end Go.Sv
namespace Go.Proofs.Ythfnjogadngfiaa
open Go.Sl Go.Sv
def aw1:Fm:=⟨0,3,[],[[-1,2],[-2,3]]⟩
def aw2:Fm:=⟨2,2,[(0,1,-1),(1,0,-1)],[[1],[2]]⟩
def aw3:Fm:=⟨2,2,[(0,1,-1),(1,0,-1)],[[1]]⟩
theorem aw1_ok:FOk aw1:=by
 refine ⟨by decide,by decide,by decide,by decide,?_,by decide⟩
 unfold LitN; decide
theorem aw2_ok:FOk aw2:=by
 refine ⟨by decide,by decide,by decide,by decide,?_,by decide⟩
 unfold LitN; decide
theorem aw3_ok:FOk aw3:=by
 refine ⟨by decide,by decide,by decide,by decide,?_,by decide⟩
 unfold LitN; decide
theorem aw_r1:roundP aw1.clauses [1,0,0] false=some ([1,1,1],true):=by decide
theorem aw_r2:roundP aw1.clauses [1,1,1] false=some ([1,1,1],false):=by decide
theorem aw_prop:∀ {r},PropR aw1.clauses [1,0,0] r→r=some [1,1,1]:=by
 have h2:∀ {r},PropR aw1.clauses [1,1,1] r→r=some [1,1,1]:=by
   intro r h
   cases h with
   | stop h => rw [aw_r2] at h; cases h
   | done h => rw [aw_r2] at h; cases h; rfl
   | go h _ => rw [aw_r2] at h; cases h
 intro r h
 cases h with
 | stop h => rw [aw_r1] at h; cases h
 | done h => rw [aw_r1] at h; cases h
 | go h hr => rw [aw_r1] at h; cases h; exact h2 hr
theorem aw2_no {bl:List Bool} {x:Nat→Int} (h:SatM aw2 bl x):False:=by
 obtain ⟨y,hy,h1⟩:=h.cl [1] (by decide)
 obtain ⟨z,hz,h2⟩:=h.cl [2] (by decide)
 simp at hy hz
 subst hy; subst hz
 have a0:=(h.at' 0 (0,1,-1) rfl).1 (by unfold litT at h1; simpa using h1)
 have a1:=(h.at' 1 (1,0,-1) rfl).1 (by unfold litT at h2; simpa using h2)
 have e0:dX (0,1,-1)=0:=rfl
 have e1:dY (0,1,-1)=1:=rfl
 have e2:dX (1,0,-1)=1:=rfl
 have e3:dY (1,0,-1)=0:=rfl
 rw [e0,e1] at a0
 rw [e2,e3] at a1
 dsimp only at a0 a1
 omega
theorem aw3_sat:SatM aw3 [true,false] (fun v => if v=0 then -1 else 0):=by
 refine ⟨rfl,fun c hc => ?_,fun i d hd => ?_,fun v _ => ?_⟩
 · have:c=[1]:=by simpa [aw3] using hc
   subst this
   exact ⟨1,by simp,by unfold litT; decide⟩
 · match i,hd with
   | 0,hd => cases hd; decide
   | 1,hd => cases hd; decide
   | i + 2,hd => simp [aw3] at hd
 · show _≤(if v=0 then (-1:Int) else 0)∧(if v=0 then (-1:Int) else 0)≤0
   split <;> omega
theorem blk_ints {ω:PH} {b:Nat} {l:List Int} {n:Nat} (h:Blk ω b 3 (ints l)) (hn:l.length=n):Ints ω (some (ptr b)) n l:=⟨hn,.inr ⟨_,rfl,fun i v hv => h.get hv⟩⟩
theorem c20 {σ:PH} {Q:Value→PH→Prop} (hQ:∀ τ,σ.sub τ→Q (.bool true) τ):C 20 #[] Q σ:=by
 refine go (E20_0 _ _ _) ?_
 unfold S20_0
 have e0:∀ b:Nat,(Addr.mk b 0 none).add 0=⟨b,0,none⟩:=fun b => rfl
 intro b1 h1
 have s1:=PH.sub_set (o:=.cells #[.int .i64 (-1),.int .i64 2] 3) h1
 have k1:Blk (σ.set b1 (.cells #[.int .i64 (-1),.int .i64 2] 3)) b1 3 (ints [-1,2]):=set_self
 generalize σ.set b1 (.cells #[.int .i64 (-1),.int .i64 2] 3)=ω1 at *
 intro b2 h2
 have s2:=PH.sub_set (o:=.cells #[.int .i64 (-2),.int .i64 3] 3) h2
 have k2:Blk (ω1.set b2 (.cells #[.int .i64 (-2),.int .i64 3] 3)) b2 3 (ints [-2,3]):=set_self
 generalize ω1.set b2 (.cells #[.int .i64 (-2),.int .i64 3] 3)=ω2 at *
 intro b3 h3
 have s3:=PH.sub_set (o:=.cells #[.slice (some ⟨b1,0,none⟩) 2 2,.slice (some ⟨b2,0,none⟩) 2 2] 33) h3
 have k3:Blk (ω2.set b3 (.cells #[.slice (some ⟨b1,0,none⟩) 2 2,.slice (some ⟨b2,0,none⟩) 2 2] 33)) b3 33 [.slice (some (ptr b1)) 2 2,.slice (some (ptr b2)) 2 2]:=set_self
 generalize ω2.set b3 (.cells #[.slice (some ⟨b1,0,none⟩) 2 2,.slice (some ⟨b2,0,none⟩) 2 2] 33)=ω3 at *
 intro b4 h4
 have s4:=PH.sub_set (o:=.cells #[.int .i64 1] 3) h4
 have k4:Blk (ω3.set b4 (.cells #[.int .i64 1] 3)) b4 3 (ints [1]):=set_self
 generalize ω3.set b4 (.cells #[.int .i64 1] 3)=ω4 at *
 have sub4:=((s1.trans s2).trans s3).trans s4
 have L1:Lists ω4 (some (ptr b3)) 2 aw1.clauses:=by
   refine ⟨rfl,fun i c hc => ?_⟩
   match i,hc with
   | 0,hc => cases hc; exact ⟨_,_,_,_,rfl,s4.cell (k3.get (i:=0) rfl),blk_ints (s4 _ _ (s3 _ _ (s2 _ _ k1))) rfl,Nat.le_refl _⟩
   | 1,hc => cases hc; exact ⟨_,_,_,_,rfl,s4.cell (k3.get (i:=1) rfl),blk_ints (s4 _ _ (s3 _ _ k2)) rfl,Nat.le_refl _⟩
   | i + 2,hc => simp [aw1] at hc
 have hset:setAll (List.replicate aw1.bools 0) [1]=some [1,0,0]:=by decide
 refine c25 (F:=aw1) aw1_ok (by decide) L1 (blk_ints k4 rfl) (by decide) (fun h => ?_) (fun v val υ7 sl hv hp hs7 hO7 hnew7 => ?_) (fun v hv => ?_)
 · exfalso
   rcases h with h | ⟨v,hv,hp⟩
   · rw [hset] at h; cases h
   · rw [hset] at hv; cases hv
     have:=aw_prop hp; cases this
 rotate_left
 · rw [hset] at hv; cases hv
   exact ⟨_,.go aw_r1 (.done aw_r2)⟩
 rw [hset] at hv; cases hv
 have hval:=aw_prop hp
 cases hval
 have hl123:litsTo [1,1,1] aw1.bools=[1,2,3]:=by decide
 rw [hl123] at hO7
 refine ⟨υ7,.refl _,_,_,_,_,rfl,?_⟩
 have σ7:=sub4.trans hs7
 have I7:=own_ints hO7
 intro b12 h12
 have s12:=PH.sub_set (o:=.cells #[.int .i64 0,.int .i64 1,.int .i64 (-1),.int .i64 1,.int .i64 0,.int .i64 (-1)] 50) h12
 have k12:Blk (υ7.set b12 (.cells #[.int .i64 0,.int .i64 1,.int .i64 (-1),.int .i64 1,.int .i64 0,.int .i64 (-1)] 50)) b12 50 (difV [(0,1,-1),(1,0,-1)]):=set_self
 generalize υ7.set b12 (.cells #[.int .i64 0,.int .i64 1,.int .i64 (-1),.int .i64 1,.int .i64 0,.int .i64 (-1)] 50)=ω12 at *
 intro b13 h13
 have s13:=PH.sub_set (o:=.cells #[.int .i64 1] 3) h13
 have k13:Blk (ω12.set b13 (.cells #[.int .i64 1] 3)) b13 3 (ints [1]):=set_self
 generalize ω12.set b13 (.cells #[.int .i64 1] 3)=ω13 at *
 intro b14 h14
 have s14:=PH.sub_set (o:=.cells #[.int .i64 2] 3) h14
 have k14:Blk (ω13.set b14 (.cells #[.int .i64 2] 3)) b14 3 (ints [2]):=set_self
 generalize ω13.set b14 (.cells #[.int .i64 2] 3)=ω14 at *
 intro b15 h15
 have s15:=PH.sub_set (o:=.cells #[.slice (some ⟨b13,0,none⟩) 1 1,.slice (some ⟨b14,0,none⟩) 1 1] 33) h15
 have k15:Blk (ω14.set b15 (.cells #[.slice (some ⟨b13,0,none⟩) 1 1,.slice (some ⟨b14,0,none⟩) 1 1] 33)) b15 33 [.slice (some (ptr b13)) 1 1,.slice (some (ptr b14)) 1 1]:=set_self
 generalize ω14.set b15 (.cells #[.slice (some ⟨b13,0,none⟩) 1 1,.slice (some ⟨b14,0,none⟩) 1 1] 33)=ω15 at *
 intro b16 h16
 simp only [newSet,newSet0,newCell,newCell0,newFroz,newFroz0,List.setIfInBounds_toArray,List.set_cons_zero,List.set_cons_succ,List.getElem?_toArray,List.getElem?_cons_zero,List.getElem?_cons_succ,Option.some.injEq,exists_eq',true_and,exists_eq_left']
 have s16:=PH.sub_set (o:=.cells #[.int .i64 2,.int .i64 2,.slice (some ⟨b12,0,none⟩) 2 2,.slice (some ⟨b15,0,none⟩) 2 2] 29) h16
 have k16:Blk (ω15.set b16 (.cells #[.int .i64 2,.int .i64 2,.slice (some ⟨b12,0,none⟩) 2 2,.slice (some ⟨b15,0,none⟩) 2 2] 29)) b16 29 [.int .i64 2,.int .i64 2,.slice (some (ptr b12)) 2 2,.slice (some (ptr b15)) 2 2]:=set_self
 generalize ω15.set b16 (.cells #[.int .i64 2,.int .i64 2,.slice (some ⟨b12,0,none⟩) 2 2,.slice (some ⟨b15,0,none⟩) 2 2] 29)=ω16 at *
 have s715:=((s12.trans s13).trans s14).trans s15
 have A2:Atoms ω15 (some (ptr b12)) 2 aw2.atoms:=(own_atoms (n:=2) (c:=2) ⟨rfl,Nat.le_refl _,.inr ⟨b12,_,rfl,k12,rfl,rfl⟩⟩).sub ((s13.trans s14).trans s15)
 have L2:Lists ω15 (some (ptr b15)) 2 aw2.clauses:=by
   refine ⟨rfl,fun i c hc => ?_⟩
   match i,hc with
   | 0,hc => cases hc; exact ⟨_,_,_,_,rfl,k15.get (i:=0) rfl,blk_ints (s15 _ _ (s14 _ _ k13)) rfl,Nat.le_refl _⟩
   | 1,hc => cases hc; exact ⟨_,_,_,_,rfl,k15.get (i:=1) rfl,blk_ints (s15 _ _ k14) rfl,Nat.le_refl _⟩
   | i + 2,hc => simp [aw2] at hc
 have n16:υ7 b16=none:=new_of s715 h16
 refine ⟨_,_,_,_,_,_,_,_,rfl,?_⟩
 refine c17 (F:=aw2) aw2_ok (by decide) (by decide) (A2.sub s16) (L2.sub s16) (Nat.le_refl _) (Nat.le_refl _) (fun τ b X bl x _ _ _ hM => (aw2_no hM).elim) fun υ35 a n c ps cs hs35 _ _ _ _ _ => ?_
 refine ⟨υ35,.refl _,_,_,_,_,_,_,_,_,_,_,rfl,?_⟩
 intro b46 h46
 have k16a:Blk υ35 b16 29 [.int .i64 2,.int .i64 2,.slice (some (ptr b12)) 2 2,.slice (some (ptr b15)) 2 2]:=hs35 _ _ k16
 have s46:=PH.sub_set (o:=.cells #[.slice none 0 0,.slice none 0 0] 35) h46
 generalize υ35.set b46 (.cells #[.slice none 0 0,.slice none 0 0] 35)=ω46 at *
 have k16b:Blk ω46 b16 29 [.int .i64 2,.int .i64 2,.slice (some (ptr b12)) 2 2,.slice (some (ptr b15)) 2 2]:=s46 _ _ k16a
 have st:Step (·=b16) ω46 (ω46.setCell ((ptr b16).add 3) (.slice (some (ptr b15)) (Int.toNat 1) 2)):=setCell_step.weaken fun b hb => hb.trans (add_block _ _)
 have k16c:=k16b.set 3 (.slice (some (ptr b15)) (Int.toNat 1) 2)
 have s1546:ω15.sub ω46:=(s16.trans hs35).trans s46
 have sN:ω15.sub (ω46.setCell ((ptr b16).add 3) (.slice (some (ptr b15)) (Int.toNat 1) 2)):=sub_step_new s1546 st (by rintro b rfl; exact h16)
 refine ⟨_,k16b.get (i:=3) rfl,_,_,_,rfl,by omega,by omega,⟨_,k16b.get (i:=3) rfl⟩,k16b.froz 3,?_⟩
 have g0:=k16c.get (i:=0) rfl
 rw [e0] at g0
 refine ⟨_,g0,_,k16c.get (i:=1) rfl,_,k16c.get (i:=2) rfl,_,k16c.get (i:=3) rfl,_,_,_,_,_,_,_,_,rfl,?_⟩
 have L3:Lists ω15 (some (ptr b15)) 1 aw3.clauses:=by
   refine ⟨rfl,fun i c hc => ?_⟩
   match i,hc with
   | 0,hc => cases hc; exact ⟨_,_,_,_,rfl,k15.get (i:=0) rfl,blk_ints (s15 _ _ (s14 _ _ k13)) rfl,Nat.le_refl _⟩
   | i + 1,hc => simp [aw3] at hc
 refine c17 (F:=aw3) aw3_ok (by decide) (by decide) (A2.sub sN) (L3.sub sN) (Nat.le_refl _) (by decide) (fun υ68 b X bl x hs68 _ _ _ => ?_) fun τ a n c ps cs _ _ _ hcs hlast _ => (sound_no aw3_ok aw3_sat hcs hlast).elim
 refine ⟨υ68,.refl _,_,_,_,_,_,_,_,_,_,_,rfl,?_⟩
 intro b79 h79
 have s768:υ7.sub υ68:=(s715.trans sN).trans hs68
 refine br_iff.2 ⟨fun _ b82 h82 => ?_,fun h => (by cases h)⟩
 have s79:=PH.sub_set (o:=.cells #[.slice (some (ptr b)) aw3.bools aw3.bools,.slice (some (ptr X)) aw3.ints aw3.ints] 35) h79
 have s82:=PH.sub_set (o:=.cells #[.int .i64 1,.int .i64 2,.int .i64 3] 3) h82
 have s7f:=(s768.trans s79).trans s82
 have k82:Blk ((υ68.set b79 (.cells #[.slice (some (ptr b)) aw3.bools aw3.bools,.slice (some (ptr X)) aw3.ints aw3.ints] 35)).set b82 (.cells #[.int .i64 1,.int .i64 2,.int .i64 3] 3)) b82 3 (ints [1,2,3]):=set_self
 have hn7:=I7.1
 refine (c27 (by unfold Len; simp at hn7; omega) (I7.sub s7f) (blk_ints k82 rfl)).mono hb ?_
 rintro _ τ ⟨rfl,eτ⟩
 obtain rfl:=eτ.symm
 exact ⟨_,.refl _,_,rfl,br_iff.2 ⟨fun _ => br_iff.2 ⟨fun _ => hQ _ (σ7.trans s7f),fun h => (by cases h)⟩,fun h => by simp at h⟩⟩
theorem _root_.Go.Sl.Own.obj {σ:PH} {e size:Nat} {a:Option Addr} {n c:Nat} {vs:List Value} (o:Own σ e size a n c vs) {p:Addr} (hp:a=some p):∃ arr,σ p.block=some (.cells arr e (0,0)):=by
 rcases o.row with ⟨rfl,_⟩ | ⟨b,arr,rfl,hb,_⟩
 · cases hp
 · cases hp; exact ⟨arr,hb⟩
theorem ne_ty {ω:PH} {b b':Nat} {arr arr':Array Value} {e e':Nat} {f f':Nat × Nat} (h:ω b=some (.cells arr e f)) (h':ω b'=some (.cells arr' e' f')) (he:e ≠ e'):b ≠ b':=by
 rintro rfl; rw [h] at h'; cases h'; exact he rfl
structure FR (φ ω:PH) (A K:Sli) (atoms:List Dif) (cs:List (List Int)):Prop where
 sub:φ.sub ω
 oa:Own ω 50 3 A.a A.n A.c (difV atoms)
 anew:∀ p,A.a=some p→φ p.block=none
 ok:∃ vs,Own ω 33 1 K.a K.n K.c vs∧vs.length=cs.length∧∀ (i:Nat) c,cs[i]?=some c→∃ x m k,vs[i]?=some (.slice x m k)∧Own φ 3 1 x m k (ints c)
 knew:∀ p,K.a=some p→φ p.block=none
theorem FR.atoms {φ ω:PH} {A K:Sli} {atoms:List Dif} {cs:List (List Int)} (h:FR φ ω A K atoms cs):Atoms ω A.a A.n atoms:=own_atoms h.oa
theorem FR.an {φ ω:PH} {A K:Sli} {atoms:List Dif} {cs:List (List Int)} (h:FR φ ω A K atoms cs):A.n=atoms.length:=h.atoms.1.symm
theorem FR.kn {φ ω:PH} {A K:Sli} {atoms:List Dif} {cs:List (List Int)} (h:FR φ ω A K atoms cs):K.n=cs.length:=by
 obtain ⟨vs,h1,h2,_⟩:=h.ok
 have:=h1.len
 omega
theorem FR.lists {φ ω:PH} {A K:Sli} {atoms:List Dif} {cs:List (List Int)} (h:FR φ ω A K atoms cs):Lists ω K.a K.n cs:=by
 obtain ⟨vs,h1,h2,h3⟩:=h.ok
 refine ⟨by have:=h1.len; omega,fun i c hc => ?_⟩
 obtain ⟨x,m,k,q1,q2⟩:=h3 i c hc
 obtain ⟨p,hp,hcell⟩:=h1.get q1
 exact ⟨p,x,m,k,hp,hcell,(own_ints q2).sub h.sub,q2.le⟩
theorem FR.keep {M:Nat→Prop} {φ ω τ:PH} {A K:Sli} {atoms:List Dif} {cs:List (List Int)} (h:FR φ ω A K atoms cs) (st:Step M ω τ) (hM:∀ b,M b→φ b=none∧(∀ p,A.a=some p→b ≠ p.block)∧(∀ p,K.a=some p→b ≠ p.block)):FR φ τ A K atoms cs:=by
 refine ⟨sub_step_new h.sub st fun b hb => (hM b hb).1,h.oa.keep st fun p hp hm => (hM _ hm).2.1 p hp rfl,h.anew,?_,h.knew⟩
 obtain ⟨vs,h1,h2⟩:=h.ok
 exact ⟨vs,h1.keep st fun p hp hm => (hM _ hm).2.2 p hp rfl,h2⟩
theorem FR.grow {φ ω τ:PH} {A K:Sli} {atoms:List Dif} {cs:List (List Int)} (h:FR φ ω A K atoms cs) (hs:ω.sub τ):FR φ τ A K atoms cs:=h.keep (M:=fun _ => False) hs.step fun _ h => h.elim
structure FB (φ ω:PH) (f:Nat) (i1 i2:Int) (A K:Sli) (atoms:List Dif) (cs:List (List Int)):Prop extends FR φ ω A K atoms cs where
 blk:Blk ω f 29 [.int .i64 i1,.int .i64 i2,A.v,K.v]
 fnew:φ f=none
theorem FB.nA {φ ω:PH} {f:Nat} {i1 i2:Int} {A K:Sli} {atoms:List Dif} {cs:List (List Int)} (h:FB φ ω f i1 i2 A K atoms cs) {e:Nat} {arr:Array Value} {fr:Nat × Nat} {b:Nat} (hb:ω b=some (.cells arr e fr)) (he:e ≠ 50):∀ p,A.a=some p→b ≠ p.block:=by
 intro p hp
 obtain ⟨arr',h'⟩:=h.oa.obj hp
 exact ne_ty hb h' he
theorem FB.nK {φ ω:PH} {f:Nat} {i1 i2:Int} {A K:Sli} {atoms:List Dif} {cs:List (List Int)} (h:FB φ ω f i1 i2 A K atoms cs) {e:Nat} {arr:Array Value} {fr:Nat × Nat} {b:Nat} (hb:ω b=some (.cells arr e fr)) (he:e ≠ 33):∀ p,K.a=some p→b ≠ p.block:=by
 intro p hp
 obtain ⟨vs,h1,_⟩:=h.ok
 obtain ⟨arr',h'⟩:=h1.obj hp
 exact ne_ty hb h' he
theorem FB.keep {M:Nat→Prop} {φ ω τ:PH} {f:Nat} {i1 i2:Int} {A K:Sli} {atoms:List Dif} {cs:List (List Int)} (h:FB φ ω f i1 i2 A K atoms cs) (st:Step M ω τ)
   (hM:∀ b,M b→φ b=none∧b ≠ f∧(∀ p,A.a=some p→b ≠ p.block)∧(∀ p,K.a=some p→b ≠ p.block)):FB φ τ f i1 i2 A K atoms cs :=
 ⟨h.toFR.keep st fun b hb => ⟨(hM b hb).1,(hM b hb).2.2⟩,h.blk.keep st fun hm => (hM _ hm).2.1 rfl,h.fnew⟩
theorem FB.sub' {φ ω τ:PH} {f:Nat} {i1 i2:Int} {A K:Sli} {atoms:List Dif} {cs:List (List Int)} (h:FB φ ω f i1 i2 A K atoms cs) (hs:ω.sub τ):FB φ τ f i1 i2 A K atoms cs:=h.keep (M:=fun _ => False) hs.step fun _ h => h.elim
theorem FB.setBools {φ ω:PH} {f:Nat} {i1 i2:Int} {A K:Sli} {atoms:List Dif} {cs:List (List Int)} (h:FB φ ω f i1 i2 A K atoms cs) (v:Int):FB φ (ω.setCell ((ptr f).add 1) (.int .i64 v)) f i1 v A K atoms cs:=by
 have st:Step (·=f) ω (ω.setCell ((ptr f).add 1) (.int .i64 v)):=setCell_step.weaken fun b hb => hb.trans (add_block _ _)
 exact ⟨h.toFR.keep st (by rintro b rfl; exact ⟨h.fnew,h.nA h.blk (by decide),h.nK h.blk (by decide)⟩),h.blk.set 1 (.int .i64 v),h.fnew⟩
theorem FB.atom' {φ ω:PH} {f:Nat} {i1 i2:Int} {A K:Sli} {atoms:List Dif} {cs:List (List Int)} (h:FB φ ω f i1 i2 A K atoms cs) (d:Dif) (hn:atoms.length≤1000000) {b:Nat} (hb:ω b=none) {R:Option Addr→Nat→Nat→PH→Prop}
   (hR:∀ A' τ,FB φ (PH.setCell τ ((ptr f).add 2) A'.v) f i1 i2 A' K (atoms ++ [d]) cs→Step (fun q => q=f ∨ ∃ p,A.a=some p∧q=p.block) ω (PH.setCell τ ((ptr f).add 2) A'.v)→R A'.a A'.n A'.c τ) :
   iappend prog 50 A.v (.slice (some ⟨b,0,none⟩) 1 1) (fun v τ => ∃ (a:Option Addr) (n c:Nat),v=.slice a n c∧(∃ u,PH.cell? τ ((ptr f).add 2)=some u)∧PH.froz τ ((ptr f).add 2)=some false∧R a n c τ) (PH.set ω b (.cells #[.int .i64 d.1,.int .i64 d.2.1,.int .i64 d.2.2] 50)):=by
 have han:=h.an
 refine pushRow t50.1 t50.2.1 t50.2.2 rfl (by decide) h.oa hb (news:=dcells d) rfl ?_ (by omega) ?_
 · intro v hv; simp [dcells] at hv; rcases hv with rfl | rfl | rfl <;> trivial
 · intro a' c' τ hO hst hnew
   have Bτ:=h.blk.keep hst (by rintro ⟨p,hp,e⟩; exact h.nA h.blk (by decide) p hp e)
   have st2:Step (·=f) τ (τ.setCell ((ptr f).add 2) (.slice a' (A.n + 1) c')):=setCell_step.weaken fun b hb => hb.trans (add_block _ _)
   refine ⟨_,_,_,rfl,⟨_,Bτ.get (i:=2) rfl⟩,Bτ.froz 2,hR ⟨a',A.n + 1,c'⟩ _ ⟨⟨?_,?_,?_,?_,h.knew⟩,Bτ.set 2 _,h.fnew⟩ ((hst.weaken fun q hq => .inr hq).trans (st2.weaken fun q hq => .inl hq))⟩
   · refine sub_step_new (sub_step_new h.sub hst ?_) st2 (by rintro b rfl; exact h.fnew)
     rintro b ⟨p,hp,rfl⟩; exact h.anew p hp
   · have e:difV (atoms ++ [d])=difV atoms ++ dcells d:=by unfold difV; simp
     rw [e]
     refine hO.keep st2 fun p hp hm => ?_
     obtain ⟨arr,ha⟩:=hO.obj hp
     exact ne_ty Bτ ha (by decide) hm.symm
   · intro p hp
     rcases hnew p hp with ⟨p',g1,g2⟩ | g1
     · rw [g2]; exact h.anew p' g1
     · exact new_of h.sub g1
   · obtain ⟨vs,h1,h2⟩:=h.ok
     refine ⟨vs,(h1.keep hst ?_).keep st2 fun p hp hm => h.nK h.blk (by decide) p hp hm.symm,h2⟩
     rintro p hp ⟨q,hq,e⟩
     obtain ⟨arr,ha⟩:=h1.obj hp
     exact h.nA ha (by decide) q hq e
theorem FB.atom {φ ω:PH} {f:Nat} {i1 i2:Int} {A K:Sli} {atoms:List Dif} {cs:List (List Int)} (h:FB φ ω f i1 i2 A K atoms cs) (d:Dif) (hn:atoms.length≤1000000) {b:Nat} (hb:ω b=none) {R:PH→Prop}
   (hR:∀ A' τ,FB φ τ f i1 i2 A' K (atoms ++ [d]) cs→Step (fun q => q=f ∨ ∃ p,A.a=some p∧q=p.block) ω τ→R τ) :
   iappend prog 50 A.v (.slice (some ⟨b,0,none⟩) 1 1) (fun v τ => ∃ (a:Option Addr) (n c:Nat),v=.slice a n c∧(∃ u,PH.cell? τ ((ptr f).add 2)=some u)∧PH.froz τ ((ptr f).add 2)=some false∧R (PH.setCell τ ((ptr f).add 2) (.slice a n c))) (PH.set ω b (.cells #[.int .i64 d.1,.int .i64 d.2.1,.int .i64 d.2.2] 50)) :=
 h.atom' d hn hb (R:=fun a n c τ => R (PH.setCell τ ((ptr f).add 2) (.slice a n c))) fun A' τ => hR A' _
theorem FB.clause' {φ ω:PH} {f:Nat} {i1 i2:Int} {A K:Sli} {atoms:List Dif} {cs:List (List Int)} (h:FB φ ω f i1 i2 A K atoms cs) {x:Option Addr} {m k:Nat} {c:List Int} (hI:Own φ 3 1 x m k (ints c)) (hn:cs.length≤1000000) {b:Nat} (hb:ω b=none) {R:Option Addr→Nat→Nat→PH→Prop}
   (hR:∀ K' τ,FB φ (PH.setCell τ ((ptr f).add 3) K'.v) f i1 i2 A K' atoms (cs ++ [c])→Step (fun q => q=f ∨ ∃ p,K.a=some p∧q=p.block) ω (PH.setCell τ ((ptr f).add 3) K'.v)→R K'.a K'.n K'.c τ) :
   iappend prog 33 K.v (.slice (some ⟨b,0,none⟩) 1 1) (fun v τ => ∃ (a:Option Addr) (n c:Nat),v=.slice a n c∧(∃ u,PH.cell? τ ((ptr f).add 3)=some u)∧PH.froz τ ((ptr f).add 3)=some false∧R a n c τ) (PH.set ω b (.cells #[.slice x m k] 33)):=by
 have hkn:=h.kn
 obtain ⟨vs,h1,h2,h3⟩:=h.ok
 refine pushRow t33.1 t33.2.1 t33.2.2 rfl (by decide) h1 hb (news:=[.slice x m k]) rfl ?_ (by omega) ?_
 · intro v hv; simp at hv; subst hv; trivial
 · intro a' c' τ hO hst hnew
   have Bτ:=h.blk.keep hst (by rintro ⟨p,hp,e⟩; exact h.nK h.blk (by decide) p hp e)
   have st2:Step (·=f) τ (τ.setCell ((ptr f).add 3) (.slice a' (K.n + 1) c')):=setCell_step.weaken fun b hb => hb.trans (add_block _ _)
   refine ⟨_,_,_,rfl,⟨_,Bτ.get (i:=3) rfl⟩,Bτ.froz 3,hR ⟨a',K.n + 1,c'⟩ _ ⟨⟨?_,?_,h.anew,?_,?_⟩,Bτ.set 3 _,h.fnew⟩ ((hst.weaken fun q hq => .inr hq).trans (st2.weaken fun q hq => .inl hq))⟩
   · refine sub_step_new (sub_step_new h.sub hst ?_) st2 (by rintro b rfl; exact h.fnew)
     rintro b ⟨p,hp,rfl⟩; exact h.knew p hp
   · refine (h.oa.keep hst ?_).keep st2 fun p hp hm => h.nA h.blk (by decide) p hp hm.symm
     rintro p hp ⟨q,hq,e⟩
     obtain ⟨arr,ha⟩:=h.oa.obj hp
     exact h.nK ha (by decide) q hq e
   · refine ⟨vs ++ [.slice x m k],hO.keep st2 fun p hp hm => ?_,by simp [h2],fun i c0 hc0 => ?_⟩
     · obtain ⟨arr,ha⟩:=hO.obj hp
       exact ne_ty Bτ ha (by decide) hm.symm
     · by_cases hi:i < cs.length
       · rw [List.getElem?_append_left hi] at hc0
         obtain ⟨y,m',k',g1,g2⟩:=h3 i c0 hc0
         exact ⟨y,m',k',by rw [List.getElem?_append_left (by omega)]; exact g1,g2⟩
       · rw [List.getElem?_append_right (by omega)] at hc0
         have hi0:i=cs.length:=by have:=(List.getElem?_eq_some_iff.1 hc0).1; simp at this; omega
         subst hi0
         simp at hc0
         subst hc0
         exact ⟨x,m,k,by rw [List.getElem?_append_right (by omega)]; simp [h2],hI⟩
   · intro p hp
     rcases hnew p hp with ⟨p',g1,g2⟩ | g1
     · rw [g2]; exact h.knew p' g1
     · exact new_of h.sub g1
theorem FB.clause {φ ω:PH} {f:Nat} {i1 i2:Int} {A K:Sli} {atoms:List Dif} {cs:List (List Int)} (h:FB φ ω f i1 i2 A K atoms cs) {x:Option Addr} {m k:Nat} {c:List Int} (hI:Own φ 3 1 x m k (ints c)) (hn:cs.length≤1000000) {b:Nat} (hb:ω b=none) {R:PH→Prop}
   (hR:∀ K' τ,FB φ τ f i1 i2 A K' atoms (cs ++ [c])→Step (fun q => q=f ∨ ∃ p,K.a=some p∧q=p.block) ω τ→R τ) :
   iappend prog 33 K.v (.slice (some ⟨b,0,none⟩) 1 1) (fun v τ => ∃ (a:Option Addr) (n c:Nat),v=.slice a n c∧(∃ u,PH.cell? τ ((ptr f).add 3)=some u)∧PH.froz τ ((ptr f).add 3)=some false∧R (PH.setCell τ ((ptr f).add 3) (.slice a n c))) (PH.set ω b (.cells #[.slice x m k] 33)) :=
 h.clause' hI hn hb (R:=fun a n c τ => R (PH.setCell τ ((ptr f).add 3) (.slice a n c))) fun K' τ => hR K' _
open Classical in
theorem FB.freeze {φ ω:PH} {f:Nat} {i1 i2:Int} {A K:Sli} {atoms:List Dif} {cs:List (List Int)} (h:FB φ ω f i1 i2 A K atoms cs) (E:Nat→Prop) (hE:∀ b,E b→φ b=none) :
   ∃ φ':PH,φ.sub φ'∧FB φ' ω f i1 i2 A K atoms cs∧(∀ b,E b→φ' b=none)∧∀ b,b ≠ f→(∀ p,A.a=some p→b ≠ p.block)→(∀ p,K.a=some p→b ≠ p.block)→¬ E b→φ' b=ω b:=by
 obtain ⟨φ',hφ⟩:∃ φ':PH,φ'=fun b => if b=f ∨ (∃ p,A.a=some p∧b=p.block) ∨ (∃ p,K.a=some p∧b=p.block) ∨ E b then none else ω b:=⟨_,rfl⟩
 have off:∀ b,(b=f ∨ (∃ p,A.a=some p∧b=p.block) ∨ (∃ p,K.a=some p∧b=p.block) ∨ E b)→φ' b=none:=fun b hb => by rw [hφ]; exact if_pos hb
 have on:∀ b,¬ (b=f ∨ (∃ p,A.a=some p∧b=p.block) ∨ (∃ p,K.a=some p∧b=p.block) ∨ E b)→φ' b=ω b:=fun b hb => by rw [hφ]; exact if_neg hb
 have s1:φ.sub φ':=by
   intro b o ho
   rw [on b]
   · exact h.sub b o ho
   · rintro (rfl | ⟨p,hp,rfl⟩ | ⟨p,hp,rfl⟩ | he)
     · rw [h.fnew] at ho; cases ho
     · rw [h.anew p hp] at ho; cases ho
     · rw [h.knew p hp] at ho; cases ho
     · rw [hE b he] at ho; cases ho
 have s2:φ'.sub ω:=by
   intro b o ho
   by_cases hb:(b=f ∨ (∃ p,A.a=some p∧b=p.block) ∨ (∃ p,K.a=some p∧b=p.block) ∨ E b)
   · rw [off b hb] at ho; cases ho
   · rw [on b hb] at ho; exact ho
 refine ⟨φ',s1,⟨⟨s2,h.oa,fun p hp => off _ (.inr (.inl ⟨p,hp,rfl⟩)),?_,fun p hp => off _ (.inr (.inr (.inl ⟨p,hp,rfl⟩)))⟩,h.blk,off _ (.inl rfl)⟩,fun b hb => off _ (.inr (.inr (.inr hb))),fun b h1 h2 h3 h4 => on b ?_⟩
 · obtain ⟨vs,q1,q2,q3⟩:=h.ok
   refine ⟨vs,q1,q2,fun i c hc => ?_⟩
   obtain ⟨x,m,k,g1,g2⟩:=q3 i c hc
   exact ⟨x,m,k,g1,g2.keep (M:=fun _ => False) s1.step fun _ _ h => h⟩
 · rintro (rfl | ⟨p,hp,rfl⟩ | ⟨p,hp,rfl⟩ | he)
   · exact h1 rfl
   · exact h2 p hp rfl
   · exact h3 p hp rfl
   · exact h4 he
theorem blk_own {φ:PH} {b n:Nat} {l:List Int} (h:Blk φ b 3 (ints l)) (hn:l.length=n):Own φ 3 1 (some (ptr b)) n n (ints l) :=
 ⟨by unfold ints; simp [hn],Nat.le_refl _,.inr ⟨b,_,rfl,h,by unfold ints; simp [hn],by rw [Nat.mul_one]; exact List.take_of_length_le (by unfold ints; simp [hn])⟩⟩
def Res (τ:PH) (F:Fm) (ma:Option Addr) (mn mc:Nat) (xa:Option Addr) (xn xc:Nat) (la:Option Addr) (ln lc:Nat) (ok:Bool):Prop :=
 (ok=true∧∃ bl x b X,ma=some (ptr b)∧Blk τ b 4 (boolsV bl)∧xa=some (ptr X)∧Blk τ X 3 (ints (tab F.ints x))∧SatM F bl x∧mn=F.bools∧xn=F.ints∧ln=0) ∨
 (ok=false∧∃ ps cs,StepsM τ la ln ps∧ln≤lc∧stepsOf F ps=some cs∧cs.getLast?=some []∧ln≤3500000000000∧ma=none∧mn=0∧mc=0∧xa=none∧xn=0∧xc=0)
theorem Res.sub {σ τ:PH} (hs:σ.sub τ) {F:Fm} {ma:Option Addr} {mn mc:Nat} {xa:Option Addr} {xn xc:Nat} {la:Option Addr} {ln lc:Nat} {ok:Bool} (h:Res σ F ma mn mc xa xn xc la ln lc ok):Res τ F ma mn mc xa xn xc la ln lc ok:=by
 rcases h with ⟨h0,bl,x,b,X,h1,h2,h3,h4,h5⟩ | ⟨h0,ps,cs,h1,h2⟩
 · exact .inl ⟨h0,bl,x,b,X,h1,hs _ _ h2,h3,hs _ _ h4,h5⟩
 · exact .inr ⟨h0,ps,cs,h1.sub hs,h2⟩
theorem Res.keep {σ τ:PH} {F:Fm} {ma:Option Addr} {mn mc:Nat} {xa:Option Addr} {xn xc:Nat} {la:Option Addr} {ln lc:Nat} (h:Res σ F ma mn mc xa xn xc la ln lc true) {t e:Nat} {vs:List Value} (hb:Blk σ t e vs) (he:e ≠ 4∧e ≠ 3) (st:Step (·=t) σ τ):Res τ F ma mn mc xa xn xc la ln lc true:=by
 rcases h with ⟨h0,bl,x,b,X,h1,h2,h3,h4,h5⟩ | ⟨h0,_⟩
 · exact .inl ⟨h0,bl,x,b,X,h1,h2.keep st (ne_ty hb h2 he.1).symm,h3,h4.keep st (ne_ty hb h4 he.2).symm,h5⟩
 · cases h0
theorem Res.sat {τ:PH} {F:Fm} {ma:Option Addr} {mn mc:Nat} {xa:Option Addr} {xn xc:Nat} {la:Option Addr} {ln lc:Nat} (h:Res τ F ma mn mc xa xn xc la ln lc true):∃ bl x,SatM F bl x:=by
 rcases h with ⟨_,bl,x,_,_,_,_,_,_,h,_⟩ | ⟨h,_⟩
 · exact ⟨bl,x,h⟩
 · cases h
theorem Res.unsat {τ:PH} {F:Fm} (hF:FOk F) {ma:Option Addr} {mn mc:Nat} {xa:Option Addr} {xn xc:Nat} {la:Option Addr} {ln lc:Nat} (h:Res τ F ma mn mc xa xn xc la ln lc false) {bl:List Bool} {x:Nat→Int} (hM:SatM F bl x):False:=by
 rcases h with ⟨h,_⟩ | ⟨_,ps,cs,_,_,h1,h2,_⟩
 · cases h
 · exact sound_no hF hM h1 h2
theorem Res.false_of {τ:PH} {F:Fm} (hno:∀ bl x,¬ SatM F bl x) {ma:Option Addr} {mn mc:Nat} {xa:Option Addr} {xn xc:Nat} {la:Option Addr} {ln lc:Nat} {ok:Bool} (h:Res τ F ma mn mc xa xn xc la ln lc ok):ok=false:=by
 cases ok
 · rfl
 · obtain ⟨bl,x,hM⟩:=h.sat; exact (hno bl x hM).elim
theorem Res.true_of {τ:PH} {F:Fm} (hF:FOk F) {bl:List Bool} {x:Nat→Int} (hM:SatM F bl x) {ma:Option Addr} {mn mc:Nat} {xa:Option Addr} {xn xc:Nat} {la:Option Addr} {ln lc:Nat} {ok:Bool} (h:Res τ F ma mn mc xa xn xc la ln lc ok):ok=true:=by
 cases ok
 · exact (h.unsat hF hM).elim
 · rfl
theorem c17r {F:Fm} {σ:PH} (hF:FOk F) (h40:F.bools≤40) (hlen:∀ c ∈ F.clauses,c.length≤1000000) {aa ca:Option Addr} {an ac cn cc:Nat} (hA:Atoms σ aa an F.atoms) (hL:Lists σ ca cn F.clauses) (ha:an≤ac) (hcc:cn≤cc) {Q:Value→PH→Prop}
   (hQ:∀ τ ma mn mc xa xn xc la ln lc ok,σ.sub τ→Res τ F ma mn mc xa xn xc la ln lc ok→Q (.tuple #[.agg #[.slice ma mn mc,.slice xa xn xc],.slice la ln lc,.bool ok]) τ) :
   C 17 #[.agg #[.int .i64 F.ints,.int .i64 F.bools,.slice aa an ac,.slice ca cn cc]] Q σ:=by
 refine c17 hF h40 hlen hA hL ha hcc (fun τ b X bl x hs kb kX hM => ?_) fun τ a n c ps cs hs hS hnc hcs hlast hn => ?_
 · exact hQ τ _ _ _ _ _ _ _ _ _ _ hs (.inl ⟨rfl,bl,x,b,X,rfl,kb,rfl,kX,hM,rfl,rfl,rfl⟩)
 · exact hQ τ _ _ _ _ _ _ _ _ _ _ hs (.inr ⟨rfl,ps,cs,hS,hnc,hcs,hlast,hn,rfl,rfl,rfl,rfl,rfl,rfl⟩)
theorem c18r {σ:PH} {F:Fm} (hF:FOk F) (hlen:∀ c ∈ F.clauses,c.length≤1000000) {aa ca:Option Addr} {an ac cn cc:Nat} (hA:Atoms σ aa an F.atoms) (hL:Lists σ ca cn F.clauses) {ma:Option Addr} {mn mc:Nat} {xa:Option Addr} {xn xc:Nat} {la:Option Addr} {ln lc:Nat} {ok:Bool} (h:Res σ F ma mn mc xa xn xc la ln lc ok) {Q:Value→PH→Prop} (hQ:∀ τ,σ.sub τ→Q (.bool true) τ) :
   C 18 #[.agg #[.int .i64 F.ints,.int .i64 F.bools,.slice aa an ac,.slice ca cn cc],.agg #[.slice ma mn mc,.slice xa xn xc],.slice la ln lc,.bool ok] Q σ:=by
 rcases h with ⟨rfl,bl,x,b,X,rfl,h1,rfl,h2,h3,rfl,rfl,rfl⟩ | ⟨rfl,ps,cs,h1,h2,h3,h4,h5,rfl,rfl,rfl,rfl,rfl,rfl⟩
 · exact c18sat hF hlen hA hL ⟨h3.len,.inr ⟨_,rfl,fun i v hv => h1.get hv⟩⟩ (blk_ints h2 (by rw [tab_len])) h3 hQ
 · exact c18no hF hlen hA hL h1 h3 h4 h5 hQ
theorem c20' {σ:PH} {Q:Value→PH→Prop} (hQ:∀ τ,σ.sub τ→Q (.bool true) τ):C 20 #[] (fun v τ => ∃ υ:PH,υ.sub τ∧∃ q:Bool,v=.bool q∧Q (.bool q) υ) σ:=c20 fun τ hs => ⟨τ,.refl _,true,rfl,hQ τ hs⟩
theorem tm {a b:Int} (h:0≤a) (hb:0 < b):0≤a.tmod b∧a.tmod b < b:=⟨Int.tmod_nonneg b h,Int.tmod_lt_of_pos a hb⟩
theorem wi {x:Int} (h:0≤x∧x < 256):IntKind.wrap .i64 x=x:=w64 (by omega) (by omega)
theorem FR.nA {φ ω:PH} {A K:Sli} {atoms:List Dif} {cs:List (List Int)} (h:FR φ ω A K atoms cs) {e:Nat} {arr:Array Value} {fr:Nat × Nat} {b:Nat} (hb:ω b=some (.cells arr e fr)) (he:e ≠ 50):∀ p,A.a=some p→b ≠ p.block:=by
 intro p hp
 obtain ⟨arr',h'⟩:=h.oa.obj hp
 exact ne_ty hb h' he
theorem FR.nK {φ ω:PH} {A K:Sli} {atoms:List Dif} {cs:List (List Int)} (h:FR φ ω A K atoms cs) {e:Nat} {arr:Array Value} {fr:Nat × Nat} {b:Nat} (hb:ω b=some (.cells arr e fr)) (he:e ≠ 33):∀ p,K.a=some p→b ≠ p.block:=by
 intro p hp
 obtain ⟨vs,h1,_⟩:=h.ok
 obtain ⟨arr',h'⟩:=h1.obj hp
 exact ne_ty hb h' he
theorem FR.kc {φ ω:PH} {A K:Sli} {atoms:List Dif} {cs:List (List Int)} (h:FR φ ω A K atoms cs):K.n≤K.c:=by obtain ⟨vs,o,_⟩:=h.ok; exact o.le
theorem pushRows {e:TypeId} {size bytes:Nat} {z:Value} (hs:sizeT prog e=some size) (hbt:bytesT prog e=some bytes) (hz:zeroT prog e=some z) (hzs:z.cells.size=size) (h0:bytes ≠ 0)
   {σ:PH} {a:Option Addr} {n c b m:Nat} {vs news:List Value} (O:Own σ e size a n c vs) (hb:σ b=none) (hl:news.length=m * size) (hp:∀ v ∈ news,Go.Sl.plainCell v) (hn:((n + m) + (n + m) / 4 + 256) * bytes≤2 ^ 48) {Q:Value→PH→Prop}
   (hQ:∀ a' c' τ,Own τ e size a' (n + m) c' (vs ++ news)→Step (fun q => ∃ p,a=some p∧q=p.block) σ τ→(∀ p,a'=some p→(∃ p',a=some p'∧p.block=p'.block) ∨ σ p.block=none)→Q (.slice a' (n + m) c') τ) :
   iappend prog e (.slice a n c) (.slice (some ⟨b,0,none⟩) m m) Q (σ.set b (.cells news.toArray e)):=by
 have sb:=PH.sub_set (o:=.cells news.toArray e) hb
 have O2:=O.keep (M:=fun _ => False) sb.step (fun _ _ h => h)
 refine Own.append hs hbt hz hzs h0 O2 (m:=m) (news:=news) ?_ hl hp hn ?_
 · exact rowAt_of (b:=b) (arr:=news.toArray) (e:=e) (f:=(0,0)) set_self _ 0 0 (fun j v hv => by simpa using hv)
 · intro a' c' τ hO hst hnew
   refine hQ a' c' τ hO ⟨fun q o hq hm => hst.same q o (sb _ _ hq) hm,fun q hq => hst.dom q ?_⟩ fun p hp => ?_
   · cases hσ:σ q with
     | none => exact absurd hσ hq
     | some o => rw [sb _ _ hσ]; simp
   · rcases hnew with h1 | ⟨b',h1,h2⟩
     · exact .inl ⟨p,h1 ▸ hp,rfl⟩
     · rw [hp] at h2; cases h2
       exact .inr (new_of sb h1)
theorem FB.atoms2 {φ ω:PH} {f:Nat} {i1 i2:Int} {A K:Sli} {atoms:List Dif} {cs:List (List Int)} (h:FB φ ω f i1 i2 A K atoms cs) (d d':Dif) (hn:atoms.length≤1000000) {b:Nat} (hb:ω b=none) {R:Option Addr→Nat→Nat→PH→Prop}
   (hR:∀ A' τ,FB φ (PH.setCell τ ((ptr f).add 2) A'.v) f i1 i2 A' K (atoms ++ [d,d']) cs→R A'.a A'.n A'.c τ) :
   iappend prog 50 A.v (.slice (some ⟨b,0,none⟩) 2 2) (fun v τ => ∃ (a:Option Addr) (n c:Nat),v=.slice a n c∧(∃ u,PH.cell? τ ((ptr f).add 2)=some u)∧PH.froz τ ((ptr f).add 2)=some false∧R a n c τ) (PH.set ω b (.cells #[.int .i64 d.1,.int .i64 d.2.1,.int .i64 d.2.2,.int .i64 d'.1,.int .i64 d'.2.1,.int .i64 d'.2.2] 50)):=by
 have han:=h.an
 refine pushRows t50.1 t50.2.1 t50.2.2 rfl (by decide) h.oa hb (m:=2) (news:=dcells d ++ dcells d') rfl ?_ (by omega) ?_
 · intro v hv; simp [dcells] at hv; rcases hv with rfl | rfl | rfl | rfl | rfl | rfl <;> trivial
 · intro a' c' τ hO hst hnew
   have Bτ:=h.blk.keep hst (by rintro ⟨p,hp,e⟩; exact h.nA h.blk (by decide) p hp e)
   have st2:Step (·=f) τ (τ.setCell ((ptr f).add 2) (.slice a' (A.n + 2) c')):=setCell_step.weaken fun b hb => hb.trans (add_block _ _)
   refine ⟨_,_,_,rfl,⟨_,Bτ.get (i:=2) rfl⟩,Bτ.froz 2,hR ⟨a',A.n + 2,c'⟩ _ ⟨⟨?_,?_,?_,?_,h.knew⟩,Bτ.set 2 _,h.fnew⟩⟩
   · refine sub_step_new (sub_step_new h.sub hst ?_) st2 (by rintro b rfl; exact h.fnew)
     rintro b ⟨p,hp,rfl⟩; exact h.anew p hp
   · have e:difV (atoms ++ [d,d'])=difV atoms ++ (dcells d ++ dcells d'):=by unfold difV; simp
     rw [e]
     refine hO.keep st2 fun p hp hm => ?_
     obtain ⟨arr,ha⟩:=hO.obj hp
     exact ne_ty Bτ ha (by decide) hm.symm
   · intro p hp
     rcases hnew p hp with ⟨p',g1,g2⟩ | g1
     · rw [g2]; exact h.anew p' g1
     · exact new_of h.sub g1
   · obtain ⟨vs,h1,h2⟩:=h.ok
     refine ⟨vs,(h1.keep hst ?_).keep st2 fun p hp hm => h.nK h.blk (by decide) p hp hm.symm,h2⟩
     rintro p hp ⟨q,hq,e⟩
     obtain ⟨arr,ha⟩:=h1.obj hp
     exact h.nA ha (by decide) q hq e
theorem FB.clauses2 {φ ω:PH} {f:Nat} {i1 i2:Int} {A K:Sli} {atoms:List Dif} {cs:List (List Int)} (h:FB φ ω f i1 i2 A K atoms cs) {x:Option Addr} {m k:Nat} {c:List Int} (hI:Own φ 3 1 x m k (ints c)) {x':Option Addr} {m' k':Nat} {c':List Int} (hI':Own φ 3 1 x' m' k' (ints c')) (hn:cs.length≤1000000) {b:Nat} (hb:ω b=none) {R:PH→Prop}
   (hR:∀ K' τ,FB φ τ f i1 i2 A K' atoms (cs ++ [c,c'])→R τ) :
   iappend prog 33 K.v (.slice (some ⟨b,0,none⟩) 2 2) (fun v τ => ∃ (a:Option Addr) (n c:Nat),v=.slice a n c∧(∃ u,PH.cell? τ ((ptr f).add 3)=some u)∧PH.froz τ ((ptr f).add 3)=some false∧R (PH.setCell τ ((ptr f).add 3) (.slice a n c))) (PH.set ω b (.cells #[.slice x m k,.slice x' m' k'] 33)):=by
 have hkn:=h.kn
 obtain ⟨vs,h1,h2,h3⟩:=h.ok
 refine pushRows t33.1 t33.2.1 t33.2.2 rfl (by decide) h1 hb (m:=2) (news:=[.slice x m k,.slice x' m' k']) rfl ?_ (by omega) ?_
 · intro v hv; simp at hv; rcases hv with rfl | rfl <;> trivial
 · intro a' c1 τ hO hst hnew
   have Bτ:=h.blk.keep hst (by rintro ⟨p,hp,e⟩; exact h.nK h.blk (by decide) p hp e)
   have st2:Step (·=f) τ (τ.setCell ((ptr f).add 3) (.slice a' (K.n + 2) c1)):=setCell_step.weaken fun b hb => hb.trans (add_block _ _)
   refine ⟨_,_,_,rfl,⟨_,Bτ.get (i:=3) rfl⟩,Bτ.froz 3,hR ⟨a',K.n + 2,c1⟩ _ ⟨⟨?_,?_,h.anew,?_,?_⟩,Bτ.set 3 _,h.fnew⟩⟩
   · refine sub_step_new (sub_step_new h.sub hst ?_) st2 (by rintro b rfl; exact h.fnew)
     rintro b ⟨p,hp,rfl⟩; exact h.knew p hp
   · refine (h.oa.keep hst ?_).keep st2 fun p hp hm => h.nA h.blk (by decide) p hp hm.symm
     rintro p hp ⟨q,hq,e⟩
     obtain ⟨arr,ha⟩:=h.oa.obj hp
     exact h.nK ha (by decide) q hq e
   · refine ⟨vs ++ [.slice x m k,.slice x' m' k'],hO.keep st2 fun p hp hm => ?_,by simp [h2],fun i c0 hc0 => ?_⟩
     · obtain ⟨arr,ha⟩:=hO.obj hp
       exact ne_ty Bτ ha (by decide) hm.symm
     · by_cases hi:i < cs.length
       · rw [List.getElem?_append_left hi] at hc0
         obtain ⟨y,m2,k2,g1,g2⟩:=h3 i c0 hc0
         exact ⟨y,m2,k2,by rw [List.getElem?_append_left (by omega)]; exact g1,g2⟩
       · rw [List.getElem?_append_right (by omega)] at hc0
         rw [List.getElem?_append_right (by omega),h2]
         match hj:i - cs.length,hc0 with
         | 0,hc0 => cases hc0; exact ⟨x,m,k,rfl,hI⟩
         | 1,hc0 => cases hc0; exact ⟨x',m',k',rfl,hI'⟩
         | j + 2,hc0 => simp at hc0
   · intro p hp
     rcases hnew p hp with ⟨p',g1,g2⟩ | g1
     · rw [g2]; exact h.knew p' g1
     · exact new_of h.sub g1
def prL (i j k:Nat):Int:=((i * k + (if i < j then j - 1 else j) + 1:Nat):Int)
theorem quiet24 {i j k:Nat} (hi:i≤10) (hj:j≤10) (hk:k≤10) (σ:PH):quiet C 24 #[.int .i64 (i:Int),.int .i64 (j:Int),.int .i64 (k:Int)] (.int .i64 (prL i j k)) [] σ:=by
 refine ⟨by simp,go (E24_0 _ _ _ _ _ _) ?_⟩
 unfold S24_0
 have h1:(i:Int) * (k:Int)=((i * k:Nat):Int):=by simp
 have h2:i * k≤100:=Nat.le_trans (Nat.mul_le_mul hi hk) (by decide)
 rw [h1,w64 (n:=((i * k:Nat):Int)) (by omega) (by omega)]
 refine br_dec.2 ⟨fun h => ⟨?_,?_⟩,fun h => ⟨?_,?_⟩⟩
 · rw [w64 (n:=(j:Int) - 1) (by omega) (by omega),w64 (n:=_ + ((j:Int) - 1)) (by omega) (by omega),w64 (by omega) (by omega)]
   unfold prL; rw [if_pos (by omega)]; congr 1; omega
 · exact fun b o hb => by simp [PH.only] at hb
 · rw [w64 (n:=_ + (j:Int)) (by omega) (by omega),w64 (by omega) (by omega)]
   unfold prL; rw [if_neg (by omega)]; congr 1
 · exact fun b o hb => by simp [PH.only] at hb
def pgRow (i j:Nat):List Dif:=(List.range j).flatMap fun (j':Nat) => if i=j' then [] else [((i:Int),(j':Int),(-1:Int))]
def pgAt (i k:Nat):List Dif:=(List.range i).flatMap fun (i':Nat) => pgRow i' (k + 1)
def pcRow (i m k:Nat):List (List Int):=(List.range m).map fun (t:Nat) => [prL i (i + 1 + t) k,prL (i + 1 + t) i k]
def pcAt (i k:Nat):List (List Int):=(List.range i).flatMap fun (i':Nat) => pcRow i' (k - i') k
def p3 (k:Nat):Nat→List Dif × List (List Int)
 | 0 => (pgAt (k + 1) k,pcAt (k + 1) k)
 | i + 1 => ((p3 k i).1 ++ [((i:Int),(k:Int) + 1,(k:Int) - 1),((k:Int) + 1,(i:Int),0)],(p3 k i).2 ++ [[((p3 k i).1.length:Int) + 1],[((p3 k i).1.length:Int) + 2]])
def pgF (k:Nat):Fm:=⟨k + 2,(p3 k (k + 1)).1.length,(p3 k (k + 1)).1,(p3 k (k + 1)).2⟩
theorem pgRow_succ {i j:Nat}:pgRow i (j + 1)=pgRow i j ++ if i=j then [] else [((i:Int),(j:Int),(-1:Int))]:=by unfold pgRow; rw [List.range_succ,List.flatMap_append]; simp
theorem pgAt_succ {i k:Nat}:pgAt (i + 1) k=pgAt i k ++ pgRow i (k + 1):=by unfold pgAt; rw [List.range_succ,List.flatMap_append]; simp
theorem pcRow_succ {i m k:Nat}:pcRow i (m + 1) k=pcRow i m k ++ [[prL i (i + 1 + m) k,prL (i + 1 + m) i k]]:=by unfold pcRow; rw [List.range_succ,List.map_append]; rfl
theorem pcAt_succ {i k:Nat}:pcAt (i + 1) k=pcAt i k ++ pcRow i (k - i) k:=by unfold pcAt; rw [List.range_succ,List.flatMap_append]; simp
theorem pgRow_len {i:Nat}:∀ j,(pgRow i j).length≤j
 | 0 => Nat.le_refl _
 | j + 1 => by
   rw [pgRow_succ,List.length_append]
   have:=pgRow_len (i:=i) j
   split <;> simp <;> omega
theorem pgAt_len {k:Nat} (hk:k≤3):∀ i,(pgAt i k).length≤i * 4
 | 0 => Nat.le_refl _
 | i + 1 => by
   rw [pgAt_succ,List.length_append]
   have:=pgAt_len hk i
   have:=pgRow_len (i:=i) (k + 1)
   omega
theorem pcRow_len {i m k:Nat}:(pcRow i m k).length=m:=by unfold pcRow; simp
theorem pcAt_len {k:Nat} (hk:k≤3):∀ i,(pcAt i k).length≤i * 3
 | 0 => Nat.le_refl _
 | i + 1 => by
   rw [pcAt_succ,List.length_append,pcRow_len]
   have:=pcAt_len hk i
   omega
theorem p3_len {k:Nat} (hk:k≤3):∀ i,(p3 k i).1.length≤16 + 2 * i∧(p3 k i).2.length≤12 + 2 * i
 | 0 => ⟨by have:=pgAt_len hk (k + 1); show (pgAt (k + 1) k).length≤_; omega,by have:=pcAt_len hk (k + 1); show (pcAt (k + 1) k).length≤_; omega⟩
 | i + 1 => by
   obtain ⟨h1,h2⟩:=p3_len hk i
   rw [p3]
   dsimp only
   rw [List.length_append,List.length_append]
   simp only [List.length_cons,List.length_nil]
   omega
theorem sat_lit {F:Fm} {bl:List Bool} {x:Nat→Int} (h:SatM F bl x) {i:Nat} {d:Dif} (hd:F.atoms[i]?=some d) (hl:litT bl ((i:Int) + 1)):x (dX d) - x (dY d)≤d.2.2:=by
 unfold litT at hl
 rw [if_pos (by omega),show ((i:Int) + 1 - 1).toNat=i by omega] at hl
 exact (h.at' i d hd).1 hl
theorem sat_pair {F:Fm} {bl:List Bool} {x:Nat→Int} (h:SatM F bl x) {i j:Nat} {d e:Dif} (hc:[(i:Int) + 1,(j:Int) + 1] ∈ F.clauses) (hd:F.atoms[i]?=some d) (he:F.atoms[j]?=some e):x (dX d) - x (dY d)≤d.2.2 ∨ x (dX e) - x (dY e)≤e.2.2:=by
 obtain ⟨y,hy,hl⟩:=h.cl _ hc
 simp at hy
 rcases hy with rfl | rfl
 · exact .inl (sat_lit h hd hl)
 · exact .inr (sat_lit h he hl)
theorem sat_unit {F:Fm} {bl:List Bool} {x:Nat→Int} (h:SatM F bl x) {i:Nat} {d:Dif} (hc:[(i:Int) + 1] ∈ F.clauses) (hd:F.atoms[i]?=some d):x (dX d) - x (dY d)≤d.2.2:=by
 obtain ⟨y,hy,hl⟩:=h.cl _ hc
 simp at hy
 subst hy
 exact sat_lit h hd hl
theorem pg_no1 (bl:List Bool) (x:Nat→Int):¬ SatM (pgF 1) bl x:=by
 intro h
 have a:=sat_pair h (i:=0) (j:=1) (d:=(0,1,-1)) (e:=(1,0,-1)) (by decide) rfl rfl
 have b0:=sat_unit h (i:=2) (d:=(0,2,0)) (by decide) rfl
 have b1:=sat_unit h (i:=3) (d:=(2,0,0)) (by decide) rfl
 have b2:=sat_unit h (i:=4) (d:=(1,2,0)) (by decide) rfl
 have b3:=sat_unit h (i:=5) (d:=(2,1,0)) (by decide) rfl
 simp only [dX,dY,Int.toNat_zero,show (1:Int).toNat=1 from rfl,show (2:Int).toNat=2 from rfl] at a b0 b1 b2 b3
 omega
theorem pg_no2 (bl:List Bool) (x:Nat→Int):¬ SatM (pgF 2) bl x:=by
 intro h
 have a0:=sat_pair h (i:=0) (j:=2) (d:=(0,1,-1)) (e:=(1,0,-1)) (by decide) rfl rfl
 have a1:=sat_pair h (i:=1) (j:=4) (d:=(0,2,-1)) (e:=(2,0,-1)) (by decide) rfl rfl
 have a2:=sat_pair h (i:=3) (j:=5) (d:=(1,2,-1)) (e:=(2,1,-1)) (by decide) rfl rfl
 have b0:=sat_unit h (i:=6) (d:=(0,3,1)) (by decide) rfl
 have b1:=sat_unit h (i:=7) (d:=(3,0,0)) (by decide) rfl
 have b2:=sat_unit h (i:=8) (d:=(1,3,1)) (by decide) rfl
 have b3:=sat_unit h (i:=9) (d:=(3,1,0)) (by decide) rfl
 have b4:=sat_unit h (i:=10) (d:=(2,3,1)) (by decide) rfl
 have b5:=sat_unit h (i:=11) (d:=(3,2,0)) (by decide) rfl
 simp only [dX,dY,Int.toNat_zero,show (1:Int).toNat=1 from rfl,show (2:Int).toNat=2 from rfl,show (3:Int).toNat=3 from rfl] at a0 a1 a2 b0 b1 b2 b3 b4 b5
 omega
theorem pg_no3 (bl:List Bool) (x:Nat→Int):¬ SatM (pgF 3) bl x:=by
 intro h
 have a0:=sat_pair h (i:=0) (j:=3) (d:=(0,1,-1)) (e:=(1,0,-1)) (by decide) rfl rfl
 have a1:=sat_pair h (i:=1) (j:=6) (d:=(0,2,-1)) (e:=(2,0,-1)) (by decide) rfl rfl
 have a2:=sat_pair h (i:=2) (j:=9) (d:=(0,3,-1)) (e:=(3,0,-1)) (by decide) rfl rfl
 have a3:=sat_pair h (i:=4) (j:=7) (d:=(1,2,-1)) (e:=(2,1,-1)) (by decide) rfl rfl
 have a4:=sat_pair h (i:=5) (j:=10) (d:=(1,3,-1)) (e:=(3,1,-1)) (by decide) rfl rfl
 have a5:=sat_pair h (i:=8) (j:=11) (d:=(2,3,-1)) (e:=(3,2,-1)) (by decide) rfl rfl
 have b0:=sat_unit h (i:=12) (d:=(0,4,2)) (by decide) rfl
 have b1:=sat_unit h (i:=13) (d:=(4,0,0)) (by decide) rfl
 have b2:=sat_unit h (i:=14) (d:=(1,4,2)) (by decide) rfl
 have b3:=sat_unit h (i:=15) (d:=(4,1,0)) (by decide) rfl
 have b4:=sat_unit h (i:=16) (d:=(2,4,2)) (by decide) rfl
 have b5:=sat_unit h (i:=17) (d:=(4,2,0)) (by decide) rfl
 have b6:=sat_unit h (i:=18) (d:=(3,4,2)) (by decide) rfl
 have b7:=sat_unit h (i:=19) (d:=(4,3,0)) (by decide) rfl
 simp only [dX,dY,Int.toNat_zero,show (1:Int).toNat=1 from rfl,show (2:Int).toNat=2 from rfl,show (3:Int).toNat=3 from rfl,show (4:Int).toNat=4 from rfl] at a0 a1 a2 a3 a4 a5 b0 b1 b2 b3 b4 b5 b6 b7
 omega
def pgM (k v:Nat):Int:=if v=2 then 1 - (k:Int) else if v=3∧k=3 then -1 else -(k:Int)
def pgX (k v:Nat):Int:=if v=k + 1 then -(k:Int) else pgM k v
def pgB (k:Nat):List Bool:=(pgF k).atoms.map fun d => decide (pgX k (dX d) - pgX k (dY d)≤d.2.2)
def okLit (bl:List Bool) (y:Int):Bool:=if 0 < y then bl.getD (y - 1).toNat false else !bl.getD (-y - 1).toNat false
theorem okLit_T {bl:List Bool} {y:Int} (h:okLit bl y=true):litT bl y:=by
 unfold okLit at h
 unfold litT
 split at h
 · rw [if_pos (by assumption)]; exact h
 · rw [if_neg (by assumption)]; simpa using h
theorem pg_sat {k:Nat} (hk:k=1 ∨ k=2 ∨ k=3):SatM ⟨(pgF k).ints,(pgF k).bools,(pgF k).atoms,(pgF k).clauses.tail⟩ (pgB k) (pgX k):=by
 refine ⟨by unfold pgB; rw [List.length_map]; rfl,fun c hc => ?_,fun i d hd => ?_,fun v hv => ?_⟩
 · have hall:((pgF k).clauses.tail.all fun c => c.any (okLit (pgB k)))=true:=by
     rcases hk with rfl | rfl | rfl <;> decide
   have:=List.all_eq_true.1 hall c hc
   obtain ⟨y,hy,h⟩:=List.any_eq_true.1 this
   exact ⟨y,hy,okLit_T h⟩
 · have hd':(pgF k).atoms[i]?=some d:=hd
   unfold pgB
   rw [List.getD_eq_getElem?_getD,List.getElem?_map,hd']
   simp
 · unfold pgX pgM
   split
   · omega
   · split
     · omega
     · split <;> omega
theorem pg_ok {k:Nat} (hk:k=1 ∨ k=2 ∨ k=3):FOk (pgF k)∧(pgF k).bools≤40∧∀ c ∈ (pgF k).clauses,c.length≤1000000:=by
 rcases hk with rfl | rfl | rfl <;> refine ⟨⟨by decide,by decide,by decide,by decide,by unfold LitN; decide,by decide⟩,by decide,by decide⟩
theorem pg_no {k:Nat} (hk:k=1 ∨ k=2 ∨ k=3) (bl:List Bool) (x:Nat→Int):¬ SatM (pgF k) bl x:=by
 rcases hk with rfl | rfl | rfl
 · exact pg_no1 bl x
 · exact pg_no2 bl x
 · exact pg_no3 bl x
theorem FR.tail {φ ω:PH} {A K:Sli} {atoms:List Dif} {cs:List (List Int)} (h:FR φ ω A K atoms cs) (h1:1≤K.n):Lists ω (cutAt K.a K.c 1 1) (K.n - 1) cs.tail:=by
 obtain ⟨vs,o1,o2,o3⟩:=h.ok
 have hkn:=h.kn
 refine ⟨by rw [List.length_tail]; omega,fun i c hc => ?_⟩
 rw [List.getElem?_tail] at hc
 obtain ⟨x,m,k,q1,q2⟩:=o3 (i + 1) c hc
 obtain ⟨p,hp,hcell⟩:=Go.Sl.cut_get o1 (m:=1) (i:=i) h1 (by rw [Nat.add_comm]; exact q1)
 exact ⟨p,x,m,k,hp,hcell,(own_ints q2).sub h.sub,q2.le⟩
theorem c8 {σ:PH} {u:Int} (hu:0≤u∧u < 256) {Q:Value→PH→Prop} (hQ:∀ τ,σ.sub τ→Q (.bool true) τ):C 8 #[.int .u8 u] Q σ:=by
 refine go (E8_0 _ _ _ _) ?_
 unfold S8_0
 have e0:∀ b:Nat,(Addr.mk b 0 none).add 0=⟨b,0,none⟩:=fun b => rfl
 obtain ⟨u1,u2⟩:=tm hu.1 (show (0:Int) < 3 by omega)
 obtain ⟨k,hk⟩:∃ k:Nat,k=(1 + u.tmod 3).toNat:=⟨_,rfl⟩
 have wk0:IntKind.wrap .i64 ((1:Int) + Int.tmod (IntKind.wrap .i64 u) 3)=(k:Int):=by rw [wi hu,w64 (by omega) (by omega)]; omega
 have hk3:k=1 ∨ k=2 ∨ k=3:=by omega
 have hkle:k≤3:=by omega
 have wk2:IntKind.wrap .i64 ((k:Int) + 2)=((k + 2:Nat):Int):=by rw [w64 (by omega) (by omega)]; omega
 clear hk u1 u2
 refine ⟨by omega,rfl,fun f hf => ?_⟩
 rw [wk0,wk2]
 clear wk0 wk2
 simp only [newSet,newSet0,newCell,newCell0,newFroz,newFroz0,List.setIfInBounds_toArray,List.set_cons_zero,List.set_cons_succ,List.getElem?_toArray,List.getElem?_cons_zero,List.getElem?_cons_succ,Option.some.injEq,exists_eq',true_and,exists_eq_left']
 have sf:=PH.sub_set (o:=.cells #[.int .i64 ((k + 2:Nat):Int),.int .i64 0,.slice none 0 0,.slice none 0 0] 29) hf
 have hF0:FB σ (σ.set f (.cells #[.int .i64 ((k + 2:Nat):Int),.int .i64 0,.slice none 0 0,.slice none 0 0] 29)) f ((k + 2:Nat):Int) 0 ⟨none,0,0⟩ ⟨none,0,0⟩ (pgAt 0 k) []:=⟨⟨sf,own_nil,by simp,⟨[],own_nil,rfl,by simp⟩,by simp⟩,set_self,hf⟩
 generalize σ.set f (.cells #[.int .i64 ((k + 2:Nat):Int),.int .i64 0,.slice none 0 0,.slice none 0 0] 29)=ω0 at *
 unfold S8_1
 refine iloopS_for (G:=Sli) (fun i _ => (((k:Int),ptr f,(i:Int)):T8_1)) (fun i A ω => FB σ ω f ((k + 2:Nat):Int) 0 A ⟨none,0,0⟩ (pgAt i k) []) (k + 1) ?_ (g:=⟨none,0,0⟩) hF0
 clear hF0
 rintro i A ω hi hF R hR
 unfold S8_2
 dsimp only
 refine br_dec.2 ⟨fun hlt => ?_,fun hge => ?_⟩
 · unfold S8_3
   refine iloopS_for (G:=Sli) (fun j _ => (((k:Int),ptr f,(i:Int),(j:Int)):T8_3)) (fun j A ω => FB σ ω f ((k + 2:Nat):Int) 0 A ⟨none,0,0⟩ (pgAt i k ++ pgRow i j) []) (k + 1) ?_ (g:=A) (by simpa [pgRow] using hF)
   clear hF
   rintro j A ω hj hF R3 hR3
   unfold S8_4
   dsimp only
   have hl1:=pgAt_len hkle i
   have hl2:=pgRow_len (i:=i) j
   refine br_dec.2 ⟨fun hlt2 => br_iff.2 ⟨fun hne => ?_,fun he => ?_⟩,fun hge2 => ?_⟩
   · have hne:i ≠ j:=by
       have:(i:Int) ≠ (j:Int):=by simpa using hne
       omega
     refine ⟨_,hF.blk.get (i:=2) rfl,_,_,_,rfl,fun b hb => ?_⟩
     refine hF.atom ((i:Int),(j:Int),-1) (by rw [List.length_append]; omega) hb fun A' τ hF1 _ => ?_
     rw [wnat (by omega)]
     refine hR3 A' τ (by omega) ?_
     rw [pgRow_succ,if_neg hne,← List.append_assoc]
     exact hF1
   · have he:i=j:=by
       have:(i:Int)=(j:Int):=by simpa using he
       omega
     rw [wnat (by omega)]
     refine hR3 A ω (by omega) ?_
     rw [pgRow_succ,if_pos he,List.append_nil]
     exact hF
   · have:j=k + 1:=by omega
     subst this
     rw [wnat (by omega)]
     refine hR A ω (by omega) ?_
     rw [pgAt_succ]
     exact hF
 · have hik:i=k + 1:=by omega
   subst hik
   clear hge hi hR R
   unfold S8_5
   refine iloopS_for (G:=Unit) (fun i _ => (((k:Int),ptr f,(i:Int)):T8_5)) (fun i _ ω => ∃ φ K,σ.sub φ∧FB φ ω f ((k + 2:Nat):Int) 0 A K (pgAt (k + 1) k) (pcAt i k)) (k + 1) ?_ (g:=()) ⟨σ,_,.refl _,hF⟩
   clear hF ω
   rintro i _ ω hi ⟨φ,K,hφ,hF⟩ R hR
   unfold S8_6
   dsimp only
   refine br_dec.2 ⟨fun hlt => ?_,fun hge => ?_⟩
   · unfold S8_7
     rw [wnat (by omega)]
     have hst0:(((k:Int),ptr f,(i:Int),((i + 1:Nat):Int)):T8_7)=(fun (t:Nat) (_:Unit) => (((k:Int),ptr f,(i:Int),((i + 1 + t:Nat):Int)):T8_7)) 0 ():=rfl
     rw [hst0]
     refine iloopS_for (G:=Unit) (fun (t:Nat) (_:Unit) => (((k:Int),ptr f,(i:Int),((i + 1 + t:Nat):Int)):T8_7)) (fun t _ ω => ∃ φ K,σ.sub φ∧FB φ ω f ((k + 2:Nat):Int) 0 A K (pgAt (k + 1) k) (pcAt i k ++ pcRow i t k)) (k - i) ?_ (g:=()) ⟨φ,K,hφ,by simpa [pcRow] using hF⟩
     clear hF hφ K φ ω hst0
     rintro t _ ω ht ⟨φ,K,hφ,hF⟩ R7 hR7
     unfold S8_8
     dsimp only
     have hl1:=pcAt_len hkle i
     refine br_dec.2 ⟨fun hlt2 => ?_,fun hge2 => ?_⟩
     · refine ⟨_,[],_,[],_,hF.blk.get (i:=3) rfl,_,_,_,rfl,quiet24 (by omega) (by omega) (by omega) _,quiet24 (by omega) (by omega) (by omega) _,fun b54 h54 b55 h55 => ?_⟩
       generalize hx:prL i (i + 1 + t) k=x at *
       generalize hy:prL (i + 1 + t) i k=y at *
       have s54:=PH.sub_set (o:=.cells #[.int .i64 x,.int .i64 y] 3) h54
       have B54:Blk (ω.set b54 (.cells #[.int .i64 x,.int .i64 y] 3)) b54 3 (ints [x,y]):=set_self
       generalize ω.set b54 (.cells #[.int .i64 x,.int .i64 y] 3)=ω2 at *
       obtain ⟨φ',f1,f2,_,f4⟩:=(hF.sub' s54).freeze (fun _ => False) (by simp)
       have hO:Own φ' 3 1 (some (ptr b54)) 2 2 (ints [x,y]):=by
         refine blk_own (b:=b54) ?_ rfl
         unfold Blk
         rw [f4 b54 (ne_ty B54 f2.blk (by decide)) (f2.nA B54 (by decide)) (f2.nK B54 (by decide)) (fun h => h)]
         exact B54
       refine f2.clause hO (by rw [List.length_append,pcRow_len]; omega) h55 fun K' τ5 hF5 _ => ?_
       rw [wnat (by omega)]
       refine hR7 () τ5 (by omega) ⟨φ',K',hφ.trans f1,?_⟩
       rw [pcRow_succ,hx,hy,← List.append_assoc]
       exact hF5
     · have:t=k - i:=by omega
       subst this
       rw [wnat (by omega)]
       refine hR () ω (by omega) ⟨φ,K,hφ,?_⟩
       rw [pcAt_succ]
       exact hF
   · have hik:i=k + 1:=by omega
     subst hik
     clear hge hi hR R
     unfold S8_9
     refine iloopS_for (G:=Unit) (fun i _ => (((k:Int),ptr f,(i:Int)):T8_9)) (fun i _ ω => ∃ φ A K,σ.sub φ∧FB φ ω f ((k + 2:Nat):Int) 0 A K (p3 k i).1 (p3 k i).2) (k + 1) ?_ (g:=()) ⟨φ,A,K,hφ,hF⟩
     clear hF hφ K φ ω A
     rintro i _ ω hi ⟨φ,A,K,hφ,hF⟩ R hR
     unfold S8_10
     dsimp only
     obtain ⟨hl1,hl2⟩:=p3_len hkle i
     have han:=hF.an
     refine br_dec.2 ⟨fun hlt => ?_,fun hge => ?_⟩
     · have wk1:IntKind.wrap .i64 ((k:Int) + 1)=(k:Int) + 1:=w64 (by omega) (by omega)
       have wk2:IntKind.wrap .i64 ((k:Int) - 1)=(k:Int) - 1:=w64 (by omega) (by omega)
       rw [wk1,wk2,wnat (k:=i) (by omega)]
       clear wk1 wk2
       refine ⟨_,hF.blk.get (i:=2) rfl,_,_,_,rfl,fun b72 h72 => ?_⟩
       refine hF.atoms2 ((i:Int),(k:Int) + 1,(k:Int) - 1) ((k:Int) + 1,(i:Int),0) (by omega) h72 fun A' τ hF1 => ?_
       have han1:=hF1.an
       rw [List.length_append] at han1
       have han2:A'.n=(p3 k i).1.length + 2:=han1
       generalize τ.setCell ((ptr f).add 2) A'.v=ω1 at *
       refine ⟨_,hF1.blk.get (i:=3) rfl,_,_,_,rfl,_,hF1.blk.get (i:=2) rfl,_,_,_,rfl,fun b87 h87 => ?_⟩
       have w1:IntKind.wrap .i64 ((A'.n:Int) - 1)=((p3 k i).1.length:Int) + 1:=by rw [w64 (by omega) (by omega)]; omega
       have w2:(A'.n:Int)=((p3 k i).1.length:Int) + 2:=by omega
       rw [w1]
       clear w1
       generalize hx:((p3 k i).1.length:Int) + 1=x at *
       have s87:=PH.sub_set (o:=.cells #[.int .i64 x] 3) h87
       have B87:Blk (ω1.set b87 (.cells #[.int .i64 x] 3)) b87 3 (ints [x]):=set_self
       generalize ω1.set b87 (.cells #[.int .i64 x] 3)=ω2 at *
       have hF2:=hF1.sub' s87
       refine ⟨_,hF2.blk.get (i:=2) rfl,_,_,_,rfl,fun b92 h92 => ?_⟩
       rw [w2]
       generalize hy:((p3 k i).1.length:Int) + 2=y at *
       intro b93 h93
       have s92:=PH.sub_set (o:=.cells #[.int .i64 y] 3) h92
       have B92:Blk (ω2.set b92 (.cells #[.int .i64 y] 3)) b92 3 (ints [y]):=set_self
       generalize ω2.set b92 (.cells #[.int .i64 y] 3)=ω3 at *
       have B87':Blk ω3 b87 3 (ints [x]):=s92 _ _ B87
       obtain ⟨φ',f1,f2,_,f4⟩:=(hF2.sub' s92).freeze (fun _ => False) (by simp)
       have hO:Own φ' 3 1 (some (ptr b87)) 1 1 (ints [x]):=by
         refine blk_own (b:=b87) ?_ rfl
         unfold Blk
         rw [f4 b87 (ne_ty B87' f2.blk (by decide)) (f2.nA B87' (by decide)) (f2.nK B87' (by decide)) (fun h => h)]
         exact B87'
       have hO':Own φ' 3 1 (some (ptr b92)) 1 1 (ints [y]):=by
         refine blk_own (b:=b92) ?_ rfl
         unfold Blk
         rw [f4 b92 (ne_ty B92 f2.blk (by decide)) (f2.nA B92 (by decide)) (f2.nK B92 (by decide)) (fun h => h)]
         exact B92
       refine f2.clauses2 hO hO' (by omega) h93 fun K' τ5 hF5 => hR () τ5 (by omega) ⟨φ',A',K',hφ.trans f1,?_⟩
       rw [p3,hx,hy]
       exact hF5
     · have hik:i=k + 1:=by omega
       subst hik
       clear hge hi hR R
       obtain ⟨hok,h40,hlen⟩:=pg_ok hk3
       refine ⟨_,hF.blk.get (i:=2) rfl,_,_,_,rfl,⟨_,hF.blk.get (i:=1) rfl⟩,hF.blk.froz 1,?_⟩
       have hFb:=hF.setBools (A.n:Int)
       generalize ω.setCell ((ptr f).add 1) (.int .i64 (A.n:Int))=ω1 at *
       have hF1:FB φ ω1 f (pgF k).ints (pgF k).bools A K (pgF k).atoms (pgF k).clauses:=by
         have e:((pgF k).bools:Int)=(A.n:Int):=by rw [han]; rfl
         rw [e]; exact hFb
       clear hF hFb
       have g0:=hF1.blk.get (i:=0) rfl
       rw [e0] at g0
       have e1:((k + 2:Nat):Int)=((pgF k).ints:Int):=rfl
       have e2:(A.n:Int)=((pgF k).bools:Int):=by rw [han]; rfl
       refine ⟨_,g0,_,hF1.blk.get (i:=1) rfl,_,hF1.blk.get (i:=2) rfl,_,hF1.blk.get (i:=3) rfl,_,_,_,_,_,_,_,_,rfl,?_⟩
       refine c17r (F:=pgF k) hok h40 hlen hF1.atoms hF1.lists hF1.oa.le hF1.toFR.kc fun τ ma mn mc xa xn xc la ln lc ok hs hRes => ?_
       have hno:=hRes.false_of (pg_no hk3)
       subst hno
       refine ⟨τ,.refl _,_,_,_,_,_,_,_,_,_,_,rfl,fun b64 h64 => ?_⟩
       have hF2:=hF1.sub' hs
       simp only [newSet,newSet0,newCell,newCell0,newFroz,newFroz0,List.setIfInBounds_toArray,List.set_cons_zero,List.set_cons_succ,List.getElem?_toArray,List.getElem?_cons_zero,List.getElem?_cons_succ,Option.some.injEq,exists_eq',true_and,exists_eq_left']
       refine br_iff.2 ⟨fun h => (by cases h),fun _ => ?_⟩
       have s64:=PH.sub_set (o:=.cells #[.slice ma mn mc,.slice xa xn xc] 35) h64
       have B64:Blk (τ.set b64 (.cells #[.slice ma mn mc,.slice xa xn xc] 35)) b64 35 [.slice ma mn mc,.slice xa xn xc]:=set_self
       have n64:φ b64=none:=new_of hF2.sub h64
       generalize τ.set b64 (.cells #[.slice ma mn mc,.slice xa xn xc] 35)=τ2 at *
       have hF3:=hF2.sub' s64
       have g0:=hF3.blk.get (i:=0) rfl
       rw [e0] at g0
       refine ⟨_,g0,_,hF3.blk.get (i:=1) rfl,_,hF3.blk.get (i:=2) rfl,_,hF3.blk.get (i:=3) rfl,_,_,_,_,_,_,_,_,rfl,_,_,_,_,_,_,rfl,?_⟩
       refine c18r (F:=pgF k) hok hlen hF3.atoms hF3.lists (hRes.sub s64) fun τ3 hs3 => ⟨τ3,.refl _,true,rfl,br_iff.2 ⟨fun h => (by cases h),fun _ => ?_⟩⟩
       have hF4:=hF3.sub' hs3
       have B64a:Blk τ3 b64 35 [.slice ma mn mc,.slice xa xn xc]:=hs3 _ _ B64
       have hkn:=hF4.kn
       have hpos:1≤(pgF k).clauses.length:=by rcases hk3 with rfl | rfl | rfl <;> decide
       have hkc:=hF4.toFR.kc
       have t1:Int.toNat (1:Int)=1:=rfl
       rw [t1]
       refine ⟨_,hF4.blk.get (i:=3) rfl,_,_,_,rfl,by omega,by omega,⟨_,hF4.blk.get (i:=3) rfl⟩,hF4.blk.froz 3,?_⟩
       have hT:=hF4.toFR.tail (by omega)
       have st:Step (·=f) τ3 (τ3.setCell ((ptr f).add 3) (.slice (cutAt K.a K.c 1 1) (K.n - 1) (K.c - 1))):=setCell_step.weaken fun b hb => hb.trans (add_block _ _)
       have Bf:=hF4.blk.set 3 (.slice (cutAt K.a K.c 1 1) (K.n - 1) (K.c - 1))
       have hR5:=hF4.toFR.keep st (by rintro b rfl; exact ⟨hF4.fnew,hF4.nA hF4.blk (by decide),hF4.nK hF4.blk (by decide)⟩)
       have hT5:=hR5.tail (by omega)
       have B64b:=B64a.keep st (ne_ty B64a hF4.blk (by decide))
       have hsub5:σ.sub (τ3.setCell ((ptr f).add 3) (.slice (cutAt K.a K.c 1 1) (K.n - 1) (K.c - 1))):=hφ.trans hR5.sub
       generalize τ3.setCell ((ptr f).add 3) (.slice (cutAt K.a K.c 1 1) (K.n - 1) (K.c - 1))=τ5 at *
       have g0:=Bf.get (i:=0) rfl
       rw [e0] at g0
       refine ⟨_,g0,_,Bf.get (i:=1) rfl,_,Bf.get (i:=2) rfl,_,Bf.get (i:=3) rfl,_,_,_,_,_,_,_,_,rfl,?_⟩
       have hok2:FOk ⟨(pgF k).ints,(pgF k).bools,(pgF k).atoms,(pgF k).clauses.tail⟩:=⟨hok.ints,hok.bools,hok.atoms,hok.at',fun c hc => hok.cl c (List.mem_of_mem_tail hc),by have:=hok.cn; show (pgF k).clauses.tail.length≤32768; rw [List.length_tail]; omega⟩
       have hlen2:∀ c ∈ (pgF k).clauses.tail,c.length≤1000000:=fun c hc => hlen c (List.mem_of_mem_tail hc)
       refine c17r (F:=⟨(pgF k).ints,(pgF k).bools,(pgF k).atoms,(pgF k).clauses.tail⟩) hok2 h40 hlen2 hR5.atoms hT5 hR5.oa.le (by omega) fun τ6 ma mn mc xa xn xc la ln lc ok hs6 hRes => ?_
       have hyes:=hRes.true_of hok2 (pg_sat hk3)
       subst hyes
       have B64d:=hs6 _ _ B64b
       have m0:=Blk.get (i:=0) B64d rfl
       rw [e0] at m0
       have z0:=Blk.froz B64d 0
       rw [e0] at z0
       have M1:Blk (τ6.setCell (ptr b64) (.slice ma mn mc)) b64 35 [.slice ma mn mc,_]:=Blk.set B64d 0 (.slice ma mn mc)
       have M2:Blk ((τ6.setCell (ptr b64) (.slice ma mn mc)).setCell ((ptr b64).add 1) (.slice xa xn xc)) b64 35 [.slice ma mn mc,.slice xa xn xc]:=M1.set 1 (.slice xa xn xc)
       have w1:∀ {x:PH} {j:Nat} {v:Value},Step (·=b64) x (x.setCell ((ptr b64).add j) v):=fun {x j v} => setCell_step.weaken fun b hb => hb.trans (add_block _ _)
       have sR:Step (·=b64) τ6 ((τ6.setCell (ptr b64) (.slice ma mn mc)).setCell ((ptr b64).add 1) (.slice xa xn xc)):=(w1 (j:=0)).trans w1
       have Bf6:=hs6 _ _ Bf
       have hR6:=hR5.grow hs6
       have Bf7:=Blk.keep sR (ne_ty Bf6 B64d (by decide)) Bf6
       have hR7:=hR6.keep sR (by rintro b rfl; exact ⟨n64,hR6.nA B64d (by decide),hR6.nK B64d (by decide)⟩)
       have hT7:=hR7.tail (by omega)
       have hRes':=hRes.keep B64d (by decide) sR
       have hsub7:σ.sub ((τ6.setCell (ptr b64) (.slice ma mn mc)).setCell ((ptr b64).add 1) (.slice xa xn xc)):=hφ.trans hR7.sub
       refine ⟨τ6,.refl _,_,_,_,_,_,_,_,_,_,_,rfl,⟨_,m0⟩,z0,⟨_,M1.get (i:=1) rfl⟩,M1.froz 1,br_iff.2 ⟨fun _ => ?_,fun h => (by cases h)⟩⟩
       generalize (τ6.setCell (ptr b64) (.slice ma mn mc)).setCell ((ptr b64).add 1) (.slice xa xn xc)=τ7 at *
       have g0:=Bf7.get (i:=0) rfl
       rw [e0] at g0
       have m0:=M2.get (i:=0) rfl
       rw [e0] at m0
       refine ⟨_,g0,_,Bf7.get (i:=1) rfl,_,Bf7.get (i:=2) rfl,_,Bf7.get (i:=3) rfl,_,_,_,_,_,_,_,_,rfl,_,m0,_,M2.get (i:=1) rfl,_,_,_,_,_,_,rfl,?_⟩
       refine c18r (F:=⟨(pgF k).ints,(pgF k).bools,(pgF k).atoms,(pgF k).clauses.tail⟩) hok2 hlen2 hR7.atoms hT7 hRes' fun τ8 hs8 => ⟨τ8,.refl _,true,rfl,br_iff.2 ⟨fun _ => ?_,fun h => (by cases h)⟩⟩
       exact c20' fun τ9 hs9 => hQ τ9 ((hsub7.trans hs8).trans hs9)
def PH.whole (W:World):PH:=fun b => W.heap[b]?
theorem whole_le (W:World):PH.le (PH.whole W) W:=fun _ _ h => h
section
variable {H:Type} {enc:TypeId × Value→H} {W:World} {sp:Nat→Bool} {held:Bool}
end
section
variable {H:Type} {enc:TypeId × Value→H} {W:World} {sp:Nat→Bool} {held:Bool}
theorem u5:prog.underlying 5=some (.int .u8):=by kernel_rfl
theorem wf_u8 {n:Int} (h:(Lit.int .u8 n).wf=true):0≤n∧n < 256:=by
 simp [Lit.wf,IntKind.min,IntKind.max,IntKind.signed,IntKind.bits] at h
 omega
theorem trod_u8 {fuel:Nat} {cs:List Value} {x:DataW H × List MemPlace} (h:DataW.trod enc prog W 0 sp held fuel 5 cs=some x):∃ n:Int,cs=[.int .u8 n]∧0≤n∧n < 256:=by
 obtain ⟨n,h1,_,h2⟩:=DataW.trod_int u5 h
 exact ⟨n,h1,wf_u8 h2⟩
end
end Go.Proofs.Ythfnjogadngfiaa
namespace Go.Proofs.Ythfnjogadngfiaa.SolvePigeons
open Go.ChangeShapes Go.WideShapes Go.ChangeAt Go.RowKit Go.Sl Go.Sv
theorem own:ownKnob Try.prog.godebug=none:=by kernel_rfl
theorem laidOut:laidOutB Try.prog=true:=by kernel_rfl
theorem walkOf {f:FuncId} {args:Array Value} {W:World} (h:C f args (fun v τ => v=.bool true∧(PH.whole W).sub τ) (PH.whole W)):Calls Try.prog f args W fun e w' => e=.returned (.bool true)∧Below W.heap.size W w':=by
 have hm:prog.follows .mixedOrders=true:=by kernel_rfl
 refine ((ICall.calls hm SemCall.hc) _ _ _ _ W h (whole_le W)).mono fun e w' hcp => ?_
 obtain ⟨v,τ,rfl,⟨rfl,hs⟩,hle,hfr⟩:=hcp
 refine ⟨rfl,hfr.os,hfr.tape,hfr.output,hfr.size,fun k hk => ?_⟩
 have hg:W.heap[k]?=some W.heap[k]:=Array.getElem?_eq_getElem hk
 rw [hg]
 exact hle _ _ (hs _ _ hg)
theorem lifted (os:Os) (started:os.Started) (H:Type) (enc:TypeId × Value→H) :
   ReturnsInHanded {} Try.checked os 8 .any (Rows.solvePigeonsSpec.pre6 enc Try.prog Try.f8 Rows.solvePigeonsRow.domain false) (Rows.solvePigeonsSpec.post enc Try.prog Try.f8 false true false false):=by
 refine returnsInHanded_of_change_sized (C:=Try.checked) own started (by kernel_rfl) Try.func8
   (ChangeSpec.witness6 (enc:=enc) (C:=Try.checked) false ⟨#[],#[.int .u8 0],[]⟩ 8 (by kernel_rfl) (by kernel_rfl) (by kernel_rfl) (by kernel_rfl)) ?_
 intro W base args ds gs before hval0 hW hcnd0 hsz0 _
 clear hsz0
 have hval:∀ (j:Nat) t v,Try.f8.params[j]?=some t→args[j]?=some v→Value.okWide Try.prog W .any base t v:=hval0
 have hW':=hW
 obtain ⟨p,q,hA0,hV,rfl,hfz,hnd⟩:=hW
 have hA:DataW.TrodAll enc Try.prog W 0 (fun _ => true) true Try.f8.params.toList args.toList ds p:=hA0
 rw [Try.params8] at hA hval
 obtain ⟨v0,vs0,d0,ds0,p0,q0,hargs0,rfl,rfl,h0,r0⟩:=trodAll_cons hA
 obtain ⟨rfl,rfl,rfl⟩:=trodAll_nil r0
 obtain rfl:args=#[v0]:=by cases args; simp_all
 obtain ⟨rfl,rfl⟩:=trodVars_none hV
 obtain ⟨n0,rfl⟩:=okWide_int Try.underlying5 (hval 0 5 v0 rfl rfl)
 have k0:=h0
 have lt0:∀ x ∈ p0,x.block < W.heap.size:=by obtain ⟨m,hm⟩:=k0; exact DataW.trod_lt m _ _ _ hm
 have b0:0≤n0∧n0 < 256:=by
   obtain ⟨fu,hm⟩:=h0
   obtain ⟨z,e,r⟩:=trod_u8 hm
   simp [Value.cells] at e
   subst e; exact r
 clear hA0 hval0
 refine (walkOf (c8 b0 fun τ hs => ⟨rfl,hs⟩)).mono fun e W' ⟨he,bel⟩ => ?_
 subst he
 exact ⟨_,rfl,_,_,_,[],_,[],hW',trodAll_mk1 (shut_bool Try.underlying4 _),trodAll_cons_mk (Below.trod laidOut (by kernel_rfl) (of_decide_eq_true (by kernel_rfl)) k0 bel lt0) trodAll_mk0,rfl,bel.frame _,fun h => by cases h⟩
theorem over:Rows.solvePigeonsRow.holds Try.pinned (OpenSpec.ofChange Rows.solvePigeonsSpec) :=
 OpenClaim.holds_of_wide 8 Try.f8 rfl rfl rfl rfl rfl rfl rfl ⟨rfl,rfl,rfl,rfl,rfl⟩ rfl rfl rfl rfl rfl (by kernel_rfl) Try.func8 (by kernel_rfl)
   (of_decide_eq_true (by kernel_rfl)) (by unfold Func.isWrapper; first | (rw [if_pos (by decide +kernel)]; kernel_rfl) | (rw [if_neg (by decide +kernel)]; exact ⟨rfl,rfl⟩))
   (fun os started H enc _ => lifted os started H enc)
theorem proved:Rows.SolvePigeonsSaid:=over
end Go.Proofs.Ythfnjogadngfiaa.SolvePigeons
