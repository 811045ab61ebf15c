/- A part of the proof: see the last text, YthfnjogadngfiaaXi14. -/
import Derived.Test.YthfnjogadngfiaaXi9
set_option maxRecDepth 100000
set_option linter.unusedVariables false
set_option linter.unusedSimpArgs false
namespace Go.Proofs.Ythfnjogadngfiaa
open Go.Sl Go.Sv
theorem c83 {σ:PH} {B:Nat} {la:Option Addr} {ln lc:Nat} {l:List Dif} {n:Nat} {by':Nat→Int} (ha:Atoms σ la ln l) (hB:Blk σ B 3 (ints (tab n by'))) (hl:∀ (j:Nat) d,l[j]?=some d→DOk n d) (hn:n≤1000) {p:Nat→Nat}
   (hp:∀ j,p j < n∧∃ d,0≤by' (p j)∧l[(by' (p j)).toNat]?=some d∧dX d=p j∧p (j + 1)=dY d) {m:Nat} (hm:1≤m) (hmn:m≤n) (hret:p (n + m)=p n)
   {Q:Value→PH→Prop} (hQ:∀ (sl:Sli) τ t,1≤t→t≤n→parW l by' (p n) (stepsJ by' p n t) (p n)→σ.sub τ→Own τ 3 1 sl.a sl.n sl.c (ints (stepsJ by' p n t))→(∀ q,sl.a=some q→σ q.block=none)→Q sl.v τ) :
   C 83 #[.slice la ln lc,.slice (some (ptr B)) n n,.int .i64 (p 0:Nat)] Q σ:=by
 refine go (E83_0 _ _ _ _ _ _ _ _ _ _) ?_
 unfold S83_0 S83_1
 have hln:=ha.1
 have read:∀ j,σ.cell? ((ptr B).add (p j))=some (.int .i64 (by' (p j))):=fun j => hB.get (i:=p j) (by simp [ints,tab_get (hp j).1])
 have bnd:∀ j,0≤by' (p j)∧by' (p j) < ln:=by
   intro j
   obtain ⟨_,d,w2,w3,_⟩:=hp j
   have:=(List.getElem?_eq_some_iff.1 w3).1
   omega
 refine iloopS_for (G:=Unit) (fun k _ => (la,ln,lc,some (ptr B),n,n,((p k:Nat):Int),((n:Nat):Int),(k:Int))) (fun k _ υ => σ=υ) n ?_ (g:=()) rfl
 rintro k _ _ hk rfl R hR
 unfold S83_2
 dsimp only
 refine br_dec.2 ⟨fun hlt => ?_,fun hge => ?_⟩
 · obtain ⟨w1,d,w2,w3,w4,w5⟩:=hp k
   have hdo:=hl _ _ w3
   obtain ⟨q,hq,a0,a1,a2⟩:=ha.2 _ d w3
   refine ⟨_,rfl,by omega,by omega,_,by rw [Int.toNat_natCast,Nat.mul_one]; exact read k,_,rfl,q,hq,(bnd k).1,(bnd k).2,_,a1,_,rfl,?_⟩
   rw [wnat (by omega),← hdo.y.2,← w5]
   exact hR () σ (by omega) rfl
 · have hkn:k=n:=by omega
   subst hkn
   unfold S83_3
   refine iloopS_ind (fun k' x υ => ∃ (t:Nat) (sl:Sli),k'=m - t∧t < m∧(∀ i,1≤i→i≤t→p (k + i) ≠ p k)∧x=(la,ln,lc,some (ptr B),k,k,((p k:Nat):Int),sl.a,sl.n,sl.c,((p (k + t):Nat):Int))∧σ.sub υ∧Own υ 3 1 sl.a sl.n sl.c (ints (stepsJ by' p k t))∧(∀ q,sl.a=some q→σ q.block=none)) ?_
     (n:=m) ⟨0,⟨none,0,0⟩,rfl,hm,fun i h1 h2 => by omega,rfl,PH.sub.refl _,own_nil,fun q hq => by cases hq⟩
   rintro k' x υ ⟨t,sl,rfl,ht,hne,rfl,hs,hO,hf⟩ R2 hR2
   unfold S83_4
   dsimp only
   obtain ⟨w1,d,w2,w3,w4,w5⟩:=hp (k + t)
   have hdo:=hl _ _ w3
   obtain ⟨q,hq,a0,a1,a2⟩:=ha.2 _ d w3
   have hol:=own_len hO
   have hjl:(stepsJ by' p k t).length=t:=by unfold stepsJ; simp
   refine ⟨_,rfl,by omega,by omega,_,by rw [Int.toNat_natCast,Nat.mul_one]; exact hs.cell (read _),_,rfl,fun b hbn => ?_⟩
   refine pushRow t3.1 t3.2.1 t3.2.2 rfl (by decide) hO hbn (news:=[.int .i64 (by' (p (k + t)))]) rfl ?_ (by omega) ?_
   · intro v hv; simp at hv; subst hv; trivial
   · intro a' c' τ hO' hst hnew
     have hsτ:σ.sub τ:=sub_step_new hs hst (by rintro q ⟨p',h1,rfl⟩; exact hf p' h1)
     have hfτ:∀ q,a'=some q→σ q.block=none:=by
       intro q hq'
       rcases hnew q hq' with ⟨p',h1,h2⟩ | h1
       · rw [h2]; exact hf p' h1
       · cases hσ:σ q.block with
         | none => rfl
         | some o => rw [hs _ _ hσ] at h1; cases h1
     have hOτ:Own τ 3 1 a' (sl.n + 1) c' (ints (stepsJ by' p k (t + 1))):=by
       have e:stepsJ by' p k (t + 1)=stepsJ by' p k t ++ [by' (p (k + t))]:=by unfold stepsJ; rw [List.range_succ,List.map_append]; rfl
       rw [e]
       simpa [ints] using hO'
     refine ⟨_,_,_,rfl,_,rfl,by omega,by omega,_,by rw [Int.toNat_natCast,Nat.mul_one]; exact hsτ.cell (read _),_,rfl,q,hq,(bnd _).1,(bnd _).2,_,hsτ.cell a1,_,rfl,?_⟩
     rw [← hdo.y.2,← w5]
     refine br_iff.2 ⟨fun he => ?_,fun he => ?_⟩
     · have he:p (k + (t + 1))=p k:=by
         have he:((p (k + t + 1):Nat):Int)=((p k:Nat):Int):=by simpa using he
         rw [show k + (t + 1)=k + t + 1 from by omega]; omega
       refine hQ ⟨a',sl.n + 1,c'⟩ τ (t + 1) (by omega) (by omega) ?_ hsτ hOτ hfτ
       have:=stepsJ_walk hp (t + 1) k
       rwa [he] at this
     · have he:p (k + (t + 1)) ≠ p k:=by
         intro e
         rw [show k + (t + 1)=k + t + 1 from by omega] at e
         simp [e] at he
       have ht1:t + 1 < m:=by
         rcases Nat.lt_or_ge (t + 1) m with h | h
         · exact h
         · have:t + 1=m:=by omega
           rw [this] at he; exact absurd hret he
       refine hR2 (m - (t + 1)) _ _ (by omega) ⟨t + 1,⟨a',sl.n + 1,c'⟩,rfl,ht1,fun i h1 h2 => ?_,?_,hsτ,hOτ,hfτ⟩
       · by_cases e:i=t + 1
         · subst e; exact he
         · exact hne i h1 (by omega)
       · rw [show k + (t + 1)=k + t + 1 from by omega]
theorem zeros_ints (n:Nat):zeros (.int .i64 0) n=(ints (tab n fun _ => 0)).toArray:=by
 apply Array.ext_getElem?
 intro i
 unfold zeros Builtin.zeroCells ints tab
 simp only [List.getElem?_toArray,List.getElem?_map,Array.getElem?_map]
 by_cases h:i < n
 · simp [Value.cells,h,Nat.mod_one]
 · simp [Value.cells,h]
structure DNo (σ:PH) (l:List Dif) (n:Nat) (sl:Sli) (c:List Int) (τ:PH):Prop where
 sub:σ.sub τ
 own:Own τ 3 1 sl.a sl.n sl.c (ints c)
 new:∀ q,sl.a=some q→σ q.block=none
 rng:∀ j ∈ c,0≤j∧j < l.length
 ring:ring (c.map fun j => l.getD j.toNat (0,0,0))
 len:c.length≤n
theorem c59 {σ:PH} {la:Option Addr} {ln lc:Nat} {l:List Dif} {n:Nat} (ha:Atoms σ la ln l) (hl:∀ (j:Nat) d,l[j]?=some d→DOk n d) (hn:n≤32) (hln:ln≤1000000)
   {Q:Value→PH→Prop} (hok:∀ τ X (x:Nat→Int),σ.sub τ→σ X=none→Blk τ X 3 (ints (tab n x))→(∀ d ∈ l,x (dX d) - x (dY d)≤d.2.2)→(∀ v,v < n→-1000000000000000≤x v∧x v≤0)→Q (.tuple #[.slice (some (ptr X)) n n,.slice none 0 0,.bool true]) τ)
   (hno:∀ τ sl c,DNo σ l n sl c τ→Q (.tuple #[.slice none 0 0,sl.v,.bool false]) τ) :
   C 59 #[.int .i64 n,.slice la ln lc] Q σ:=by
 refine go (E59_0 _ _ _ _ _ _ _) ?_
 unfold S59_0
 intro bl hbl
 have e0:∀ b:Nat,(Addr.mk b 0 none).add 0=⟨b,0,none⟩:=fun b => rfl
 have hll:=ha.1
 refine br_dec.2 ⟨fun h => by omega,fun _ => br_dec.2 ⟨fun h => by omega,fun _ => ?_⟩⟩
 have B0:Blk (σ.set bl (.cells #[.slice la ln lc] 26)) bl 26 [.slice la ln lc]:=set_self
 refine ⟨_,e0 bl ▸ B0.get (i:=0) rfl,_,_,_,rfl,?_⟩
 unfold S59_1
 refine iloopS_for (G:=Unit) (fun k _ => ((n:Int),ptr bl,la,ln,lc,((ln:Nat):Int),(k:Int))) (fun k _ υ => σ.sub υ∧Blk υ bl 26 [.slice la ln lc]) ln ?_ (g:=()) ⟨PH.sub_set hbl,B0⟩
 rintro k _ υ hk ⟨hs,hB⟩ R hR
 unfold S59_2
 dsimp only
 refine br_dec.2 ⟨fun hlt => ?_,fun hge => ?_⟩
 · have hkl:k < l.length:=by omega
   obtain ⟨p,hp,a0,a1,a2⟩:=ha.2 k _ (List.getElem?_eq_getElem hkl)
   obtain ⟨g1,g2,g3,g4,_⟩:=hl k _ (List.getElem?_eq_getElem hkl)
   refine ⟨p,hp,by omega,by omega,_,hs.cell a0,_,hs.cell a1,_,hs.cell a2,_,_,_,rfl,fun b hbn => ?_⟩
   simp only [newSet,newSet0,newCell,newCell0,newFroz,newFroz0,List.setIfInBounds_toArray,List.set_cons_zero,List.set_cons_succ,List.getElem?_toArray,List.getElem?_cons_zero,List.getElem?_cons_succ,Option.some.injEq,exists_eq',true_and,Value.int.injEq,exists_eq_left']
   refine br_dec.2 ⟨fun h => by omega,fun _ => br_dec.2 ⟨fun h => by omega,fun _ => br_dec.2 ⟨fun h => by omega,fun _ => br_dec.2 ⟨fun h => by omega,fun _ => ?_⟩⟩⟩⟩
   rw [wnat (by omega)]
   have sb:=PH.sub_set (o:=.cells #[.int .i64 l[k].1,.int .i64 l[k].2.1,.int .i64 l[k].2.2] 50) hbn
   exact hR () _ (by omega) ⟨hs.trans sb,sb _ _ hB⟩
 · refine ⟨by omega,Int.le_refl _,by omega,by omega,fun X hX => ?_⟩
   rw [Int.toNat_natCast,zeros_ints]
   intro bx hbx
   simp only [newSet,newSet0,newCell,newCell0,newFroz,newFroz0,List.setIfInBounds_toArray,List.set_cons_zero,List.set_cons_succ,List.getElem?_toArray,List.getElem?_cons_zero,List.getElem?_cons_succ,Option.some.injEq,exists_eq',true_and]
   refine ⟨_,rfl,_,_,_,rfl,by omega,Int.le_refl _,by omega,by omega,fun B hBn => ?_⟩
   rw [Int.toNat_natCast,zeros_ints]
   intro bb hbb
   refine ⟨_,rfl,_,_,_,rfl,?_⟩
   have s1:=PH.sub_set (o:=.cells (ints (tab n fun _ => 0)).toArray 3) hX
   have s2:=PH.sub_set (o:=.cells #[.slice (some (ptr X)) n n] 33) hbx
   have s3:=PH.sub_set (o:=.cells (ints (tab n fun _ => 0)).toArray 3) hBn
   have s4:=PH.sub_set (o:=.cells #[.slice (some (ptr B)) n n] 33) hbb
   have kl1:=s4 _ _ (s3 _ _ (s2 _ _ (s1 _ _ hB)))
   have kX:=s4 _ _ (s3 _ _ (s2 X _ set_self))
   have kbx:=s4 _ _ (s3 bx _ set_self)
   have kB:=s4 B (.cells (ints (tab n fun _ => 0)).toArray 3 (0,0)) set_self
   have n1:bl ≠ X:=by rintro rfl; rw [hB] at hX; cases hX
   have n2:bx ≠ X:=by rintro rfl; rw [set_self] at hbx; cases hbx
   have n3:bl ≠ B:=by rintro rfl; have:=s2 _ _ (s1 _ _ hB); rw [this] at hBn; cases hBn
   have n4:bx ≠ B:=by rintro rfl; rw [set_self] at hBn; cases hBn
   have n5:X ≠ B:=by rintro rfl; have:=s2 X _ set_self; rw [this] at hBn; cases hBn
   have n6:bb ≠ X:=by rintro rfl; have:=s3 _ _ (s2 bb _ set_self); rw [this] at hbb; cases hbb
   have n7:bb ≠ B:=by rintro rfl; rw [set_self] at hbb; cases hbb
   have hsub:=hs.trans (s1.trans (s2.trans (s3.trans s4)))
   have fX:σ X=none:=by
     cases h:σ X with
     | none => rfl
     | some o => rw [hs _ _ h] at hX; cases hX
   have fB:σ B=none:=by
     cases h:σ B with
     | none => rfl
     | some o => rw [s2 _ _ (s1 _ _ (hs _ _ h))] at hBn; cases hBn
   have BM0:BM ((((υ.set X (.cells (ints (tab n fun _ => 0)).toArray 3)).set bx (.cells #[.slice (some (ptr X)) n n] 33)).set B (.cells (ints (tab n fun _ => 0)).toArray 3)).set bb (.cells #[.slice (some (ptr B)) n n] 33)) bl bx bb X B la ln lc l n (tab n fun _ => 0) (tab n fun _ => 0):=by
     refine ⟨ha.sub hsub,fun hz p hp => ?_,kl1,kbx,set_self,kX,kB,n1,n3,n2,n4,n6,n7,n5⟩
     · obtain ⟨q,hq,c0,_⟩:=ha.2 0 _ (List.getElem?_eq_getElem (List.length_pos_iff.2 hz))
       rw [hp] at hq; cases hq
       have:σ p.block ≠ none:=by
         intro h
         unfold PH.cell? at c0
         rw [add_block,h] at c0
         cases c0
       exact ⟨by rintro h; exact this (h ▸ fX),by rintro h; exact this (h ▸ fB)⟩
   have fbl:σ bl=none:=hbl
   generalize ((((υ.set X (.cells (ints (tab n fun _ => 0)).toArray 3)).set bx (.cells #[.slice (some (ptr X)) n n] 33)).set B (.cells (ints (tab n fun _ => 0)).toArray 3)).set bb (.cells #[.slice (some (ptr B)) n n] 33))=ω0 at *
   clear s1 s2 s3 s4 kl1 kX kbx kB hbx hBn hbb
   unfold S59_3
   refine iloopS_for (G:=Nat→Int) (fun k _ => ((n:Int),ptr bl,ptr bx,ptr bb,((n:Nat):Int),(k:Int))) (fun k by' υ => σ.sub υ∧BM υ bl bx bb X B la ln lc l n (tab n fun _ => 0) (tab n by')∧∀ v,v < k→by' v=-1) n ?_ (g:=fun _ => 0) ⟨hsub,BM0,fun v hv => by omega⟩
   rintro k2 by' υ2 hk2 ⟨hs2,m2,hby⟩ R2 hR2
   unfold S59_4
   dsimp only
   refine br_dec.2 ⟨fun hlt => ?_,fun hge => ?_⟩
   · have hkn:k2 < n:=by omega
     have c1:=m2.hB.get (i:=k2) (v:=.int .i64 (by' k2)) (by simp [ints,tab_get hkn])
     have st2:Step (·=B) υ2 (υ2.setCell ((ptr B).add k2) (.int .i64 (-1))):=setCell_step.weaken fun b hb => hb.trans (add_block _ _)
     refine ⟨_,e0 bb ▸ m2.hb.get (i:=0) rfl,_,_,_,rfl,_,rfl,by omega,by omega,⟨_,by rw [Int.toNat_natCast,Nat.mul_one]; exact c1⟩,by rw [Int.toNat_natCast,Nat.mul_one]; exact m2.hB.froz _,?_⟩
     rw [Int.toNat_natCast,Nat.mul_one,wnat (by omega)]
     refine hR2 (upd by' k2 (-1)) _ hkn ⟨sub_step_new hs2 st2 (by rintro b rfl; exact fB),⟨?_,m2.fl,?_,?_,?_,?_,?_,m2.ne⟩,fun v hv => ?_⟩
     · refine ⟨m2.atoms.1,fun i d hd => ?_⟩
       exact (m2.atoms.keep st2 fun p hp => (m2.fl (by rintro rfl; simp at hd) p hp).2).2 i d hd
     · exact m2.hl.keep st2 n3
     · exact m2.hx.keep st2 n4
     · exact m2.hb.keep st2 n7
     · exact m2.hX.keep st2 n5
     · rw [← tab_set,ints_set]; exact m2.hB.set _ _
     · unfold upd
       split
       · rfl
       · exact hby v (by omega)
   · have hkn:k2=n:=by omega
     subst hkn
     have eby:tab k2 by'=tab k2 fun _ => (-1:Int):=by
       unfold tab
       apply List.map_congr_left
       intro v hv
       exact hby v (List.mem_range.1 hv)
     rw [eby] at m2
     unfold S59_5
     refine iloopS_ind (fun K x υ => ∃ (r:Nat) (last:Int) (x' by2:Nat→Int) (tm:Nat→Nat),K=k2 + 1 - r∧r≤k2 + 1∧x=((k2:Int),ptr bl,ptr bx,ptr bb,ptr bl,ptr bx,ptr bb,last,(r:Int))∧σ.sub υ∧BM υ bl bx bb X B la ln lc l k2 (tab k2 x') (tab k2 by2)∧BF k2 l x' by2 tm r 0∧(r=0 ∨ ∃ v,v < k2∧last=(v:Int)∧r≤tm v)) ?_
       (n:=k2 + 1) ⟨0,-1,_,_,_,rfl,by omega,rfl,hs2,m2,BF.start,.inl rfl⟩
     rintro K x υ3 ⟨r,last,x',by2,tm,rfl,hr,rfl,hs3,m3,bf,hlast⟩ R3 hR3
     unfold S59_6
     dsimp only
     refine br_dec.2 ⟨fun hle => ?_,fun hgt => ?_⟩
     · have hrn:r≤k2:=by omega
       refine ⟨_,e0 bl ▸ m3.hl.get (i:=0) rfl,_,_,_,rfl,?_⟩
       unfold S59_7
       have big:∀ (x'' by3:Nat→Int) (tm':Nat→Nat) (i:Nat),i≤ln→BF k2 l x'' by3 tm' r i→∀ v,v < k2→-1000000000000000≤x'' v∧x'' v≤0:=by
         intro x'' by3 tm' i hi h v hv
         obtain ⟨h1,h2⟩:=h.bnd v hv
         have h3:(r:Int) * l.length≤32 * 1000000:=by
           have:(r:Int) * l.length≤32 * (l.length:Int):=Int.mul_le_mul_of_nonneg_right (by omega) (by omega)
           have:32 * (l.length:Int)≤32 * 1000000:=by omega
           omega
         generalize (r:Int) * l.length=M at *
         omega
       refine iloopS_for (G:=Int × (Nat→Int) × (Nat→Int) × (Nat→Nat)) (fun i g => ((k2:Int),ptr bl,ptr bx,ptr bb,ptr bl,ptr bx,ptr bb,g.1,(r:Int),la,ln,lc,((ln:Nat):Int),(i:Int)))
         (fun i g υ => σ.sub υ∧BM υ bl bx bb X B la ln lc l k2 (tab k2 g.2.1) (tab k2 g.2.2.1)∧BF k2 l g.2.1 g.2.2.1 g.2.2.2 r i∧((g.1=-1∧∀ j d,j < i→l[j]?=some d→¬ g.2.1 (dY d) + d.2.2 < g.2.1 (dX d)) ∨ ∃ v,v < k2∧g.1=(v:Int)∧r + 1≤g.2.2.2 v)) ln ?_
         (g:=(-1,x',by2,tm)) ⟨hs3,m3,bf,.inl ⟨rfl,fun j d hj => by omega⟩⟩
       rintro i ⟨lst,x1,by1,tm1⟩ υ4 hi ⟨hs4,m4,bf4,hl4⟩ R4 hR4
       simp only at hs4 m4 bf4 hl4
       unfold S59_8
       dsimp only
       refine br_dec.2 ⟨fun hlt => ?_,fun hge2 => ?_⟩
       · have hil:i < l.length:=by omega
         have hid:=List.getElem?_eq_getElem hil
         generalize l[i]=d at hid
         obtain ⟨p,hp,a0,a1,a2⟩:=ha.2 i d hid
         refine ⟨p,hp,by omega,by omega,_,hs4.cell a0,_,hs4.cell a1,_,hs4.cell a2,_,_,_,rfl,fun b hbn => ?_⟩
         simp only [newSet,newSet0,newCell,newCell0,newFroz,newFroz0,List.setIfInBounds_toArray,List.set_cons_zero,List.set_cons_succ,List.getElem?_toArray,List.getElem?_cons_zero,List.getElem?_cons_succ,Option.some.injEq,exists_eq',true_and]
         have sb:=PH.sub_set (o:=.cells #[.int .i64 d.1,.int .i64 d.2.1,.int .i64 d.2.2] 50) hbn
         have m5:=m4.keep (M:=fun _ => False) (PH.sub.step sb) (fun _ _ h => h)
         have hbX:¬ (b=X ∨ b=B):=by
           rintro (rfl | rfl)
           · rw [m4.hX] at hbn; cases hbn
           · rw [m4.hB] at hbn; cases hbn
         have Bb:Blk (υ4.set b (.cells #[.int .i64 d.1,.int .i64 d.2.1,.int .i64 d.2.2] 50)) b 50 [.int .i64 d.1,.int .i64 d.2.1,.int .i64 d.2.2]:=set_self
         have hdo:=hl i d hid
         refine c82 m5 hid hdo (big x1 by1 tm1 i (by omega) bf4) ?_
         rintro v τ x2 by2' m6 st6 hcase
         have hs6:σ.sub τ:=sub_step_new (hs4.trans sb) st6 (by rintro q (rfl | rfl); exact fX; exact fB)
         refine ⟨τ,PH.sub.refl _,?_⟩
         rw [wnat (by omega)]
         rcases hcase with ⟨rfl,h1,rfl,rfl⟩ | ⟨rfl,h1,rfl,rfl⟩
         · refine ⟨_,rfl,br_false rfl ?_⟩
           refine hR4 (lst,_,_,tm1) _ (by omega) ⟨hs6,m6,bf4.skip hid h1,?_⟩
           rcases hl4 with ⟨q1,q2⟩ | q
           · refine .inl ⟨q1,fun j d' hj hd' => ?_⟩
             by_cases e:j=i
             · subst e; rw [hid] at hd'; cases hd'; exact h1
             · exact q2 j d' (by omega) hd'
           · exact .inr q
         · refine ⟨_,rfl,br_true rfl ⟨_,e0 b ▸ (Bb.keep st6 hbX).get (i:=0) rfl,_,rfl,?_⟩⟩
           refine hR4 (d.1,_,_,updN tm1 (dX d) (r + 1)) _ (by omega) ⟨hs6,m6,bf4.lower hl hid h1,.inr ⟨dX d,hdo.x.1,hdo.x.2.symm,?_⟩⟩
           show r + 1≤(if dX d=dX d then r + 1 else _)
           rw [if_pos rfl]; exact Nat.le_refl _
       · have hil:i=l.length:=by omega
         subst hil
         rcases hl4 with ⟨q1,q2⟩ | ⟨v,q1,q2,q3⟩
         · subst q1
           refine br_dec.2 ⟨fun _ => ?_,fun h => by omega⟩
           unfold S59_9
           refine br_dec.2 ⟨fun _ => ?_,fun h => by omega⟩
           refine ⟨_,(by have:=m4.hx.get (i:=0) rfl; rw [e0] at this; exact this),_,_,_,rfl,hok _ X x1 hs4 fX m4.hX (fun d hd => ?_) (big x1 by1 tm1 _ (by omega) bf4)⟩
           obtain ⟨j,hj⟩:=List.mem_iff_getElem?.1 hd
           have:=q2 j d (List.getElem?_eq_some_iff.1 hj).1 hj
           omega
         · subst q2
           refine br_dec.2 ⟨fun h => by omega,fun _ => ?_⟩
           rw [wnat (by omega)]
           exact hR3 (k2 + 1 - (r + 1)) _ _ (by omega) ⟨r + 1,(v:Int),x1,by1,tm1,rfl,by omega,rfl,hs4,m4,bf4.round,.inr ⟨v,q1,rfl,q3⟩⟩
     · have hrn:r=k2 + 1:=by omega
       subst hrn
       rcases hlast with h | ⟨v,q1,rfl,q3⟩
       · omega
       · unfold S59_9
         refine br_dec.2 ⟨fun h => by omega,fun _ => ?_⟩
         obtain ⟨p,p0,hp,m,hm1,hm2,hm3⟩:=bf.ring hl q1 q3
         refine ⟨_,e0 bl ▸ m3.hl.get (i:=0) rfl,_,_,_,rfl,_,e0 bb ▸ m3.hb.get (i:=0) rfl,_,_,_,rfl,?_⟩
         rw [← p0]
         refine c83 m3.atoms m3.hB hl (by omega) hp hm1 hm2 hm3 ?_
         intro sl τ t ht1 ht2 hw hsτ hO hf
         have hjl:(stepsJ by2 p k2 t).length=t:=by unfold stepsJ; simp
         obtain ⟨hch,hrg⟩:=parW_chain hl _ _ _ hw
         refine ⟨τ,PH.sub.refl _,_,_,_,rfl,hno τ sl _ ⟨hs3.trans hsτ,hO,fun q hq => ?_,fun j hj => hrg j hj,⟨_,hch,?_⟩,by omega⟩⟩
         · cases hσ:σ q.block with
           | none => rfl
           | some o => have:=hf q hq; rw [hs3 _ _ hσ] at this; cases this
         · rw [sumJ_sumC]
           exact bf.cyc _ _ (by rintro e; rw [e] at hjl; simp at hjl; omega) hw
end Go.Proofs.Ythfnjogadngfiaa
namespace Go.Sv
def far:Int:=1152921504606846976
def Ptr (l:List Dif) (bd:Nat→Nat→Int) (fs:Nat→Nat→Int) (h:Nat→Nat→Nat) (a b:Nat):Prop :=
 ∃ d,0≤fs a b∧l[(fs a b).toNat]?=some d∧dX d=a ∧
   ((dY d=b∧d.2.2≤bd a b) ∨ (dY d ≠ b∧bd (dY d) b ≠ far∧(d.2.2 + bd (dY d) b < bd a b ∨ (d.2.2 + bd (dY d) b=bd a b∧h (dY d) b < h a b))))
structure FW (n:Nat) (l:List Dif) (x:Nat→Int) (bd fs:Nat→Nat→Int) (h:Nat→Nat→Nat) (M:Nat) (K:Int):Prop where
 diag:∀ a,a < n→bd a a=0
 pot:∀ a b,a < n→b < n→bd a b ≠ far→x a - x b≤bd a b
 bnd:∀ a b,a < n→b < n→bd a b ≠ far→bd a b≤K
 ptr:∀ a b,a < n→b < n→a ≠ b→bd a b ≠ far→Ptr l bd fs h a b
 hM:∀ a b,a < n→b < n→h a b < M
def upd2 (f:Nat→Nat→Int) (a b:Nat) (y:Int):Nat→Nat→Int:=fun u v => if u=a∧v=b then y else f u v
theorem FW.start {n:Nat} {l:List Dif} {x:Nat→Int} {fs:Nat→Nat→Int}:FW n l x (fun a b => if a=b then 0 else far) fs (fun _ _ => 0) 1 1048577:=by
 refine ⟨fun a _ => if_pos rfl,fun a b _ _ h => ?_,fun a b _ _ h => ?_,fun a b _ _ hab h => ?_,fun _ _ _ _ => by omega⟩
 · by_cases e:a=b
   · subst e; rw [if_pos rfl]; omega
   · rw [if_neg e] at h; exact absurd rfl h
 · by_cases e:a=b
   · rw [if_pos e]; omega
   · rw [if_neg e] at h; exact absurd rfl h
 · rw [if_neg hab] at h; exact absurd rfl h
theorem FW.edge {n:Nat} {l:List Dif} {x:Nat→Int} {bd fs:Nat→Nat→Int} (hl:∀ (j:Nat) d,l[j]?=some d→DOk n d) (hx:∀ (j:Nat) d,l[j]?=some d→x (dX d) - x (dY d)≤d.2.2) (hne:∀ (j:Nat) d,l[j]?=some d→dX d ≠ dY d)
   (h:FW n l x bd fs (fun _ _ => 0) 1 1048577) (h1:∀ a b,a < n→b < n→a ≠ b→bd a b ≠ far→∃ d,0≤fs a b∧l[(fs a b).toNat]?=some d∧dX d=a∧dY d=b∧d.2.2≤bd a b) {i:Nat} {d:Dif} (hd:l[i]?=some d) :
   FW n l x (upd2 bd (dX d) (dY d) d.2.2) (upd2 fs (dX d) (dY d) i) (fun _ _ => 0) 1 1048577∧∀ a b,a < n→b < n→a ≠ b→upd2 bd (dX d) (dY d) d.2.2 a b ≠ far→∃ d',0≤upd2 fs (dX d) (dY d) i a b∧l[(upd2 fs (dX d) (dY d) i a b).toNat]?=some d'∧dX d'=a∧dY d'=b∧d'.2.2≤upd2 bd (dX d) (dY d) d.2.2 a b:=by
 have hdo:=hl i d hd
 have key:∀ a b,a < n→b < n→a ≠ b→upd2 bd (dX d) (dY d) d.2.2 a b ≠ far→∃ d',0≤upd2 fs (dX d) (dY d) i a b∧l[(upd2 fs (dX d) (dY d) i a b).toNat]?=some d'∧dX d'=a∧dY d'=b∧d'.2.2≤upd2 bd (dX d) (dY d) d.2.2 a b:=by
   intro a b ha hb hab hf
   unfold upd2 at hf ⊢
   by_cases e:a=dX d∧b=dY d
   · rw [if_pos e,if_pos e]
     exact ⟨d,by omega,by rw [Int.toNat_natCast]; exact hd,e.1.symm,e.2.symm,Int.le_refl _⟩
   · rw [if_neg e] at hf
     rw [if_neg e,if_neg e]
     exact h1 a b ha hb hab hf
 refine ⟨⟨fun a ha => ?_,fun a b ha hb hf => ?_,fun a b ha hb hf => ?_,fun a b ha hb hab hf => ?_,fun _ _ _ _ => by omega⟩,key⟩
 · unfold upd2
   rw [if_neg (by rintro ⟨h1,h2⟩; exact hne i d hd (h1.symm.trans h2))]
   exact h.diag a ha
 · unfold upd2 at hf ⊢
   by_cases e:a=dX d∧b=dY d
   · rw [if_pos e,e.1,e.2]; exact hx i d hd
   · rw [if_neg e] at hf ⊢; exact h.pot a b ha hb hf
 · unfold upd2 at hf ⊢
   by_cases e:a=dX d∧b=dY d
   · rw [if_pos e]; obtain ⟨_,_,_,_,_,q⟩:=hdo; exact q
   · rw [if_neg e] at hf ⊢; exact h.bnd a b ha hb hf
 · obtain ⟨d',q1,q2,q3,q4,q5⟩:=key a b ha hb hab hf
   exact ⟨d',q1,q2,q3,.inl ⟨q4,q5⟩⟩
def better (bd:Nat→Nat→Int) (k a b:Nat):Prop:=bd a k ≠ far∧bd k b ≠ far∧bd a k + bd k b < bd a b
instance (bd:Nat→Nat→Int) (k a b:Nat):Decidable (better bd k a b):=by unfold better; exact inferInstance
def bdN (bd:Nat→Nat→Int) (k a b:Nat):Int:=if better bd k a b then bd a k + bd k b else bd a b
def fsN (bd fs:Nat→Nat→Int) (k a b:Nat):Int:=if better bd k a b then fs a k else fs a b
theorem FW.row {n:Nat} {l:List Dif} {x:Nat→Int} {bd fs:Nat→Nat→Int} {h:Nat→Nat→Nat} {M:Nat} {K:Int} (f:FW n l x bd fs h M K) {k:Nat} (hk:k < n) (b:Nat):¬ better bd k k b:=by
 rintro ⟨_,_,h3⟩; rw [f.diag k hk] at h3; omega
theorem FW.col {n:Nat} {l:List Dif} {x:Nat→Int} {bd fs:Nat→Nat→Int} {h:Nat→Nat→Nat} {M:Nat} {K:Int} (f:FW n l x bd fs h M K) {k:Nat} (hk:k < n) (a:Nat):¬ better bd k a k:=by
 rintro ⟨_,_,h3⟩; rw [f.diag k hk] at h3; omega
theorem FW.stage {n:Nat} {l:List Dif} (hl:∀ (j:Nat) d,l[j]?=some d→DOk n d) {x:Nat→Int} {bd fs:Nat→Nat→Int} {h:Nat→Nat→Nat} {M:Nat} {K:Int} (f:FW n l x bd fs h M K) (hK:0≤K) (hKf:K * 2 < far) {k:Nat} (hk:k < n) :
   FW n l x (bdN bd k) (fsN bd fs k) (fun a b => if better bd k a b then M + h a k else h a b) (M + M) (K * 2):=by
 have sub:∀ a b,bdN bd k a b≤bd a b:=by
   intro a b; unfold bdN; split
   · rename_i hb; have:=hb.2.2; omega
   · exact Int.le_refl _
 have nf:∀ a b,a < n→b < n→bd a b ≠ far→bdN bd k a b ≠ far:=by
   intro a b ha hb hf
   have:=sub a b
   have:=f.bnd a b ha hb hf
   omega
 have nf2:∀ a b,a < n→b < n→better bd k a b→bdN bd k a b ≠ far:=by
   intro a b ha hb hbt
   unfold bdN
   rw [if_pos hbt]
   have:=f.bnd a k ha hk hbt.1
   have:=f.bnd k b hk hb hbt.2.1
   omega
 refine ⟨fun a ha => ?_,fun a b ha hb hf => ?_,fun a b ha hb hf => ?_,fun a b ha hb hab hf => ?_,fun a b ha hb => ?_⟩
 · have:¬ better bd k a a:=by
     rintro ⟨h1,h2,h3⟩
     rw [f.diag a ha] at h3
     have:=f.pot a k ha hk h1
     have:=f.pot k a hk ha h2
     omega
   unfold bdN; rw [if_neg this]; exact f.diag a ha
 · unfold bdN at hf ⊢
   split
   · rename_i hbt
     have:=f.pot a k ha hk hbt.1
     have:=f.pot k b hk hb hbt.2.1
     omega
   · rename_i hbt
     rw [if_neg hbt] at hf
     exact f.pot a b ha hb hf
 · unfold bdN at hf ⊢
   split
   · rename_i hbt
     have:=f.bnd a k ha hk hbt.1
     have:=f.bnd k b hk hb hbt.2.1
     omega
   · rename_i hbt
     rw [if_neg hbt] at hf
     have:=f.bnd a b ha hb hf
     omega
 · by_cases hbt:better bd k a b
   · have hak:a ≠ k:=by rintro rfl; exact f.row hk b hbt
     have hbk:k ≠ b:=by rintro rfl; exact f.col hk a hbt
     obtain ⟨d,p1,p2,p3,p4⟩:=f.ptr a k ha hk hak hbt.1
     have hdo:=hl _ _ p2
     have efs:fsN bd fs k a b=fs a k:=if_pos hbt
     have ebd:bdN bd k a b=bd a k + bd k b:=if_pos hbt
     refine ⟨d,by rw [efs]; exact p1,by rw [efs]; exact p2,p3,?_⟩
     rw [ebd]
     rcases p4 with ⟨q1,q2⟩ | ⟨q1,q2,q3⟩
     ·
       right
       rw [q1]
       have er:bdN bd k k b=bd k b:=if_neg (f.row hk b)
       rw [er]
       refine ⟨hbk,hbt.2.1,?_⟩
       rcases Int.lt_or_eq_of_le q2 with q3 | q3
       · left; omega
       · right
         refine ⟨by omega,?_⟩
         dsimp only
         rw [if_neg (f.row hk b),if_pos hbt]
         have:=f.hM k b hk hb
         omega
     · by_cases e:dY d=b
       · left
         refine ⟨e,?_⟩
         rw [e] at q2 q3
         have:=f.pot b k hb hk q2
         have:=f.pot k b hk hb hbt.2.1
         rcases q3 with q3 | ⟨q3,_⟩ <;> omega
       · right
         have hYn:=hdo.y.1
         have hY:bdN bd k (dY d) b≤bd (dY d) k + bd k b:=by
           unfold bdN
           split
           · exact Int.le_refl _
           · rename_i hnb
             apply Classical.byContradiction
             intro hc
             exact hnb ⟨q2,hbt.2.1,by omega⟩
         have hYf:bdN bd k (dY d) b ≠ far:=by
           have:=f.bnd (dY d) k hYn hk q2
           have:=f.bnd k b hk hb hbt.2.1
           omega
         refine ⟨e,hYf,?_⟩
         rcases q3 with q3 | ⟨q3,q4⟩
         · left; omega
         · rcases Int.lt_or_eq_of_le hY with h1 | h1
           · left; omega
           · right
             refine ⟨by omega,?_⟩
             dsimp only
             rw [if_pos hbt]
             by_cases hb2:better bd k (dY d) b
             · rw [if_pos hb2]; omega
             · rw [if_neg hb2]
               have:=f.hM (dY d) b hYn hb
               omega
   · have ebd:bdN bd k a b=bd a b:=if_neg hbt
     have efs:fsN bd fs k a b=fs a b:=if_neg hbt
     rw [ebd] at hf
     obtain ⟨d,p1,p2,p3,p4⟩:=f.ptr a b ha hb hab hf
     have hdo:=hl _ _ p2
     refine ⟨d,by rw [efs]; exact p1,by rw [efs]; exact p2,p3,?_⟩
     rw [ebd]
     rcases p4 with q | ⟨q1,q2,q3⟩
     · exact .inl q
     · right
       have hYn:=hdo.y.1
       refine ⟨q1,nf _ _ hYn hb q2,?_⟩
       have hs:=sub (dY d) b
       rcases q3 with q3 | ⟨q3,q4⟩
       · left; omega
       · by_cases hb2:better bd k (dY d) b
         · left
           have:bdN bd k (dY d) b < bd (dY d) b:=by unfold bdN; rw [if_pos hb2]; exact hb2.2.2
           omega
         · right
           have e2:bdN bd k (dY d) b=bd (dY d) b:=if_neg hb2
           dsimp only
           rw [e2,if_neg hbt,if_neg hb2]
           exact ⟨q3,q4⟩
 · split
   · have:=f.hM a k ha hk; omega
   · have:=f.hM a b ha hb; omega
def fwM (x:Nat→Int) (bd:Nat→Nat→Int) (h:Nat→Nat→Nat) (M b a:Nat):Nat:=(bd a b - (x a - x b)).toNat * (M + 1) + h a b
theorem FW.falls {n:Nat} {l:List Dif} (hl:∀ (j:Nat) d,l[j]?=some d→DOk n d) {x:Nat→Int} (hx:∀ (j:Nat) d,l[j]?=some d→x (dX d) - x (dY d)≤d.2.2) {bd fs:Nat→Nat→Int} {h:Nat→Nat→Nat} {M:Nat} {K:Int} (f:FW n l x bd fs h M K)
   {a b:Nat} (ha:a < n) (hb:b < n) (hab:a ≠ b) (hf:bd a b ≠ far):∃ d,0≤fs a b∧l[(fs a b).toNat]?=some d∧dX d=a∧((dY d=b∧d.2.2≤bd a b) ∨ (dY d ≠ b∧bd (dY d) b ≠ far∧d.2.2 + bd (dY d) b≤bd a b∧fwM x bd h M b (dY d) < fwM x bd h M b a)):=by
 obtain ⟨d,p1,p2,p3,p4⟩:=f.ptr a b ha hb hab hf
 refine ⟨d,p1,p2,p3,?_⟩
 rcases p4 with q | ⟨q1,q2,q3⟩
 · exact .inl q
 · right
   have hdo:=hl _ _ p2
   have hYn:=hdo.y.1
   have hxd:=hx _ _ p2
   rw [p3] at hxd
   have pa:=f.pot a b ha hb hf
   have py:=f.pot (dY d) b hYn hb q2
   have hM1:=f.hM (dY d) b hYn hb
   have hM2:=f.hM a b ha hb
   refine ⟨q1,q2,by rcases q3 with q3 | q3 <;> omega,?_⟩
   unfold fwM
   rcases q3 with q3 | ⟨q3,q4⟩
   · have:(bd (dY d) b - (x (dY d) - x b)).toNat + 1≤(bd a b - (x a - x b)).toNat:=by omega
     have:=Nat.mul_le_mul_right (M + 1) this
     rw [Nat.add_mul,Nat.one_mul] at this
     omega
   · have:(bd (dY d) b - (x (dY d) - x b)).toNat≤(bd a b - (x a - x b)).toNat:=by omega
     have:=Nat.mul_le_mul_right (M + 1) this
     omega
end Go.Sv
namespace Go.Proofs.Ythfnjogadngfiaa
open Go.Sl Go.Sv
inductive PTag where
 | no | p0 | b | f | rb (a:Nat) | rf (a:Nat)
deriving DecidableEq
theorem t33:sizeT prog 33=some 1∧bytesT prog 33=some 24∧zeroT prog 33=some (.slice none 0 0):=⟨by kernel_rfl,by kernel_rfl,by kernel_rfl⟩
def rowsV (m n:Nat) (R:Nat→Nat):List Value:=tab m fun a => .slice (some (ptr (R a))) n n
structure PM (σ υ:PH) (G:Nat→PTag) (r:Nat) (la:Option Addr) (ln lc m n:Nat) (sb sf:Sli) (vb vf:Value) (mb mf:Nat) (RB RF:Nat→Nat) (bd fs:Nat→Nat→Int):Prop where
 sub:σ.sub υ
 blk:Blk υ r 152 [.slice la ln lc,vb,vf]
 ob:Own υ 33 1 sb.a sb.n sb.c (rowsV mb n RB)
 of:Own υ 33 1 sf.a sf.n sf.c (rowsV mf n RF)
 rb:∀ a,a < mb→Blk υ (RB a) 3 (ints (tab n (bd a)))
 rf:∀ a,a < mf→Blk υ (RF a) 3 (ints (tab n (fs a)))
 gr:G r=.p0
 gb:∀ p,sb.a=some p→G p.block=.b
 gf:∀ p,sf.a=some p→G p.block=.f
 grb:∀ a,a < mb→G (RB a)=.rb a
 grf:∀ a,a < mf→G (RF a)=.rf a
 new:∀ b,G b ≠ .no→σ b=none
theorem rowsV_len {m n:Nat} {R:Nat→Nat}:(rowsV m n R).length=m:=tab_len
theorem PM.nb {σ υ:PH} {G:Nat→PTag} {r:Nat} {la:Option Addr} {ln lc m n:Nat} {sb sf:Sli} {vb vf:Value} {mb mf:Nat} {RB RF:Nat→Nat} {bd fs:Nat→Nat→Int} (h:PM σ υ G r la ln lc m n sb sf vb vf mb mf RB RF bd fs):sb.n=mb∧sf.n=mf:=by
 have h1:=h.ob.len
 have h2:=h.of.len
 rw [rowsV_len] at h1 h2
 omega
theorem PM.keep {M:Nat→Prop} {σ υ τ:PH} {G:Nat→PTag} {r:Nat} {la:Option Addr} {ln lc m n:Nat} {sb sf:Sli} {vb vf:Value} {mb mf:Nat} {RB RF:Nat→Nat} {bd fs:Nat→Nat→Int} (h:PM σ υ G r la ln lc m n sb sf vb vf mb mf RB RF bd fs) (hs:Step M υ τ) (hm:∀ b,υ b ≠ none→¬ M b):PM σ τ G r la ln lc m n sb sf vb vf mb mf RB RF bd fs:=by
 have hsub:υ.sub τ:=fun b o hb => hs.same b o hb (hm b (by rw [hb]; simp))
 refine ⟨h.sub.trans hsub,hsub _ _ h.blk,?_,?_,fun a ha => hsub _ _ (h.rb a ha),fun a ha => hsub _ _ (h.rf a ha),h.gr,h.gb,h.gf,h.grb,h.grf,h.new⟩
 · exact h.ob.keep (M:=fun _ => False) hsub.step fun _ _ h => h
 · exact h.of.keep (M:=fun _ => False) hsub.step fun _ _ h => h
theorem PM.regrow {σ υ:PH} {G:Nat→PTag} {r:Nat} {la:Option Addr} {ln lc m n:Nat} {sb sf:Sli} {vb vf:Value} {mb mf:Nat} {RB RF:Nat→Nat} {bd fs:Nat→Nat→Int} (h:PM σ υ G r la ln lc m n sb sf vb vf mb mf RB RF bd fs) {b:Nat} (hb:υ b=none) (t:PTag) :
   PM σ υ (fun q => if q=b then t else G q) r la ln lc m n sb sf vb vf mb mf RB RF bd fs:=by
 have ne:∀ q,υ q ≠ none→q ≠ b:=by rintro q hq rfl; exact hq hb
 refine ⟨h.sub,h.blk,h.ob,h.of,h.rb,h.rf,?_,fun p hp => ?_,fun p hp => ?_,fun a ha => ?_,fun a ha => ?_,fun q hq => ?_⟩
 · rw [if_neg (ne r h.blk.known)]; exact h.gr
 · rw [if_neg (ne _ (h.ob.known hp))]; exact h.gb p hp
 · rw [if_neg (ne _ (h.of.known hp))]; exact h.gf p hp
 · rw [if_neg (ne _ (h.rb a ha).known)]; exact h.grb a ha
 · rw [if_neg (ne _ (h.rf a ha).known)]; exact h.grf a ha
 · by_cases e:q=b
   · rw [e]
     cases hσ:σ b with
     | none => rfl
     | some o => rw [h.sub _ _ hσ] at hb; cases hb
   · rw [if_neg e] at hq; exact h.new q hq
theorem PM.setB {σ υ:PH} {G:Nat→PTag} {r:Nat} {la:Option Addr} {ln lc m n:Nat} {sb sf:Sli} {vb vf:Value} {mb mf:Nat} {RB RF:Nat→Nat} {bd fs:Nat→Nat→Int} (h:PM σ υ G r la ln lc m n sb sf vb vf mb mf RB RF bd fs) {a b:Nat} (ha:a < mb) (y:Int) :
   PM σ (υ.setCell ((ptr (RB a)).add b) (.int .i64 y)) G r la ln lc m n sb sf vb vf mb mf RB RF (upd2 bd a b y) fs:=by
 have st:Step (·=RB a) υ (υ.setCell ((ptr (RB a)).add b) (.int .i64 y)):=setCell_step.weaken fun b hb => hb.trans (add_block _ _)
 have ne:∀ q t,G q=t→t ≠ .rb a→¬ q=RB a:=by
   rintro q t h1 h2 rfl
   exact h2 (h1.symm.trans (h.grb a ha))
 refine ⟨sub_step_new h.sub st (by rintro q rfl; exact h.new _ (by rw [h.grb a ha]; simp)),h.blk.keep st (ne _ _ h.gr (by simp)),h.ob.keep st fun p hp => ne _ _ (h.gb p hp) (by simp),h.of.keep st fun p hp => ne _ _ (h.gf p hp) (by simp),fun a' ha' => ?_,fun a' ha' => (h.rf a' ha').keep st (ne _ _ (h.grf a' ha') (by simp)),h.gr,h.gb,h.gf,h.grb,h.grf,h.new⟩
 by_cases e:a'=a
 · subst e
   have:=(h.rb a' ha').set b (.int .i64 y)
   rw [← ints_set,tab_set] at this
   have e2:upd2 bd a' b y a'=upd (bd a') b y:=by funext v; unfold upd2 upd; simp
   rw [e2]; exact this
 · have e2:upd2 bd a b y a'=bd a':=by funext v; unfold upd2; rw [if_neg (fun h => e h.1)]
   rw [e2]
   exact (h.rb a' ha').keep st (ne _ _ (h.grb a' ha') (by simpa using e))
theorem PM.setF {σ υ:PH} {G:Nat→PTag} {r:Nat} {la:Option Addr} {ln lc m n:Nat} {sb sf:Sli} {vb vf:Value} {mb mf:Nat} {RB RF:Nat→Nat} {bd fs:Nat→Nat→Int} (h:PM σ υ G r la ln lc m n sb sf vb vf mb mf RB RF bd fs) {a b:Nat} (ha:a < mf) (y:Int) :
   PM σ (υ.setCell ((ptr (RF a)).add b) (.int .i64 y)) G r la ln lc m n sb sf vb vf mb mf RB RF bd (upd2 fs a b y):=by
 have st:Step (·=RF a) υ (υ.setCell ((ptr (RF a)).add b) (.int .i64 y)):=setCell_step.weaken fun b hb => hb.trans (add_block _ _)
 have ne:∀ q t,G q=t→t ≠ .rf a→¬ q=RF a:=by
   rintro q t h1 h2 rfl
   exact h2 (h1.symm.trans (h.grf a ha))
 refine ⟨sub_step_new h.sub st (by rintro q rfl; exact h.new _ (by rw [h.grf a ha]; simp)),h.blk.keep st (ne _ _ h.gr (by simp)),h.ob.keep st fun p hp => ne _ _ (h.gb p hp) (by simp),h.of.keep st fun p hp => ne _ _ (h.gf p hp) (by simp),fun a' ha' => (h.rb a' ha').keep st (ne _ _ (h.grb a' ha') (by simp)),fun a' ha' => ?_,h.gr,h.gb,h.gf,h.grb,h.grf,h.new⟩
 by_cases e:a'=a
 · subst e
   have:=(h.rf a' ha').set b (.int .i64 y)
   rw [← ints_set,tab_set] at this
   have e2:upd2 fs a' b y a'=upd (fs a') b y:=by funext v; unfold upd2 upd; simp
   rw [e2]; exact this
 · have e2:upd2 fs a b y a'=fs a':=by funext v; unfold upd2; rw [if_neg (fun h => e h.1)]
   rw [e2]
   exact (h.rf a' ha').keep st (ne _ _ (h.grf a' ha') (by simpa using e))
theorem PM.getB {σ υ:PH} {G:Nat→PTag} {r:Nat} {la:Option Addr} {ln lc m n:Nat} {sb sf:Sli} {vb vf:Value} {mb mf:Nat} {RB RF:Nat→Nat} {bd fs:Nat→Nat→Int} (h:PM σ υ G r la ln lc m n sb sf vb vf mb mf RB RF bd fs) {a:Nat} (ha:a < mb) :
   ∃ p,sb.a=some p∧υ.cell? (p.add a)=some (.slice (some (ptr (RB a))) n n)∧∀ b,b < n→υ.cell? ((ptr (RB a)).add b)=some (.int .i64 (bd a b)):=by
 obtain ⟨p,hp,hc⟩:=h.ob.get (i:=a) (v:=.slice (some (ptr (RB a))) n n) (tab_get ha)
 exact ⟨p,hp,hc,fun b hb => (h.rb a ha).get (by simp [ints,tab_get hb])⟩
theorem PM.getF {σ υ:PH} {G:Nat→PTag} {r:Nat} {la:Option Addr} {ln lc m n:Nat} {sb sf:Sli} {vb vf:Value} {mb mf:Nat} {RB RF:Nat→Nat} {bd fs:Nat→Nat→Int} (h:PM σ υ G r la ln lc m n sb sf vb vf mb mf RB RF bd fs) {a:Nat} (ha:a < mf) :
   ∃ p,sf.a=some p∧υ.cell? (p.add a)=some (.slice (some (ptr (RF a))) n n)∧∀ b,b < n→υ.cell? ((ptr (RF a)).add b)=some (.int .i64 (fs a b)):=by
 obtain ⟨p,hp,hc⟩:=h.of.get (i:=a) (v:=.slice (some (ptr (RF a))) n n) (tab_get ha)
 exact ⟨p,hp,hc,fun b hb => (h.rf a ha).get (by simp [ints,tab_get hb])⟩
theorem PM.congr {σ υ:PH} {G:Nat→PTag} {r:Nat} {la:Option Addr} {ln lc m n:Nat} {sb sf:Sli} {vb vf:Value} {mb mf:Nat} {RB RF:Nat→Nat} {bd fs bd' fs':Nat→Nat→Int} (h:PM σ υ G r la ln lc m n sb sf vb vf mb mf RB RF bd fs) (e1:∀ a b,a < mb→b < n→bd' a b=bd a b) (e2:∀ a b,a < mf→b < n→fs' a b=fs a b) :
   PM σ υ G r la ln lc m n sb sf vb vf mb mf RB RF bd' fs':=by
 refine ⟨h.sub,h.blk,h.ob,h.of,fun a ha => ?_,fun a ha => ?_,h.gr,h.gb,h.gf,h.grb,h.grf,h.new⟩
 · have:tab n (bd' a)=tab n (bd a):=List.map_congr_left fun b hb => e1 a b ha (List.mem_range.1 hb)
   rw [this]; exact h.rb a ha
 · have:tab n (fs' a)=tab n (fs a):=List.map_congr_left fun b hb => e2 a b ha (List.mem_range.1 hb)
   rw [this]; exact h.rf a ha
theorem PM.pushB {σ υ:PH} {G:Nat→PTag} {r:Nat} {la:Option Addr} {ln lc m n:Nat} {sb sf:Sli} {vb vf:Value} {mb mf:Nat} {RB RF:Nat→Nat} {bd fs:Nat→Nat→Int} (h:PM σ υ G r la ln lc m n sb sf vb vf mb mf RB RF bd fs) (hm:mb≤1000000) {b1:Nat} (hb1:υ b1=none) {b2:Nat} (hb2:(υ.set b1 (.cells (ints (tab n fun _ => 0)).toArray 3)) b2=none)
   {Q:Value→PH→Prop} (hQ:∀ a' c' τ,(∃ G',PM σ τ G' r la ln lc m n ⟨a',sb.n + 1,c'⟩ sf vb vf (mb + 1) mf (fun a => if a=mb then b1 else RB a) RF (fun a => if a=mb then fun _ => 0 else bd a) fs)→Q (.slice a' (sb.n + 1) c') τ) :
   iappend prog 33 (.slice sb.a sb.n sb.c) (.slice (some ⟨b2,0,none⟩) 1 1) Q ((υ.set b1 (.cells (ints (tab n fun _ => 0)).toArray 3)).set b2 (.cells #[.slice (some ⟨b1,0,none⟩) n n] 33)):=by
 have s1:=PH.sub_set (o:=.cells (ints (tab n fun _ => 0)).toArray 3) hb1
 have h0:=h.regrow hb1 (.rb mb)
 have h1:=h0.keep (M:=fun _ => False) s1.step (fun _ _ h => h)
 have hnb:=h.nb.1
 refine pushRow t33.1 t33.2.1 t33.2.2 rfl (by decide) h1.ob hb2 (news:=[.slice (some ⟨b1,0,none⟩) n n]) rfl ?_ (by omega) ?_
 · intro v hv; simp at hv; subst hv; trivial
 · intro a' c' τ hO hst hnew
   obtain ⟨G2,hG2,hG2b⟩:∃ G2:Nat→PTag,(∀ q,(υ.set b1 (.cells (ints (tab n fun _ => 0)).toArray 3)) q ≠ none→G2 q=if q=b1 then .rb mb else G q)∧(∀ p,a'=some p→G2 p.block=.b)∧∀ q,G2 q ≠ .no→σ q=none:=by
     cases ha:a' with
     | none => exact ⟨_,fun q _ => rfl,(fun p hp => by cases hp),h1.new⟩
     | some p =>
       rcases hnew p ha with ⟨p',q1,q2⟩ | q1
       · refine ⟨_,fun q _ => rfl,fun p2 hp2 => ?_,h1.new⟩
         cases hp2
         rw [q2]; exact h1.gb p' q1
       · refine ⟨fun q => if q=p.block then .b else if q=b1 then .rb mb else G q,fun q hq => ?_,fun p2 hp2 => ?_,fun q hq => ?_⟩
         · exact if_neg (by rintro rfl; exact hq q1)
         · cases hp2; exact if_pos rfl
         · by_cases e:q=p.block
           · rw [e]
             cases hσ:σ p.block with
             | none => rfl
             | some o => rw [h1.sub _ _ hσ] at q1; cases q1
           · dsimp only at hq
             rw [if_neg e] at hq; exact h1.new q hq
   have up:∀ q t,(υ.set b1 (.cells (ints (tab n fun _ => 0)).toArray 3)) q ≠ none→(if q=b1 then PTag.rb mb else G q)=t→G2 q=t:=fun q t hq ht => (hG2 q hq).trans ht
   have hnt:∀ q t,(if q=b1 then PTag.rb mb else G q)=t→t ≠ .b→¬ ∃ p,sb.a=some p∧q=p.block:=by
     rintro q t h3 h4 ⟨p,h5,rfl⟩
     exact h4 (h3.symm.trans (h1.gb p h5))
   have hb1k:Blk (υ.set b1 (.cells (ints (tab n fun _ => 0)).toArray 3)) b1 3 (ints (tab n fun _ => 0)):=set_self
   refine hQ a' c' τ ⟨G2,?_,h1.blk.keep hst (hnt _ _ h1.gr (by simp)),?_,?_,fun a ha => ?_,fun a ha => ?_,up _ _ h1.blk.known h1.gr,hG2b.1,fun p hp => ?_,fun a ha => ?_,fun a ha => ?_,hG2b.2⟩
   · exact sub_step_new h1.sub hst (by rintro q ⟨p,h3,rfl⟩; exact h1.new _ (by rw [h1.gb p h3]; simp))
   · have e:rowsV (mb + 1) n (fun a => if a=mb then b1 else RB a)=rowsV mb n RB ++ [.slice (some ⟨b1,0,none⟩) n n]:=by
       unfold rowsV tab
       rw [List.range_succ,List.map_append]
       congr 1
       · apply List.map_congr_left
         intro a ha
         have ha:=List.mem_range.1 ha
         dsimp only
         rw [if_neg (show ¬ a=mb by omega)]
       · simp
     rw [e]; exact hO
   · exact h1.of.keep hst fun p hp => hnt _ _ (h1.gf p hp) (by simp)
   · by_cases e:a=mb
     · subst e
       try dsimp only
       rw [if_pos rfl,if_pos rfl]
       exact hb1k.keep hst (hnt _ _ (if_pos rfl) (by simp))
     · try dsimp only
       rw [if_neg e,if_neg e]
       have ha':a < mb:=by omega
       exact (h1.rb a ha').keep hst (hnt _ _ (h1.grb a ha') (by simp))
   · exact (h1.rf a ha).keep hst (hnt _ _ (h1.grf a ha) (by simp))
   · exact up _ _ (h1.of.known hp) (h1.gf p hp)
   · by_cases e:a=mb
     · subst e
       try dsimp only
       rw [if_pos rfl]
       exact up _ _ hb1k.known (if_pos rfl)
     · try dsimp only
       rw [if_neg e]
       have ha':a < mb:=by omega
       exact up _ _ (h1.rb a ha').known (h1.grb a ha')
   · exact up _ _ (h1.rf a ha).known (h1.grf a ha)
def PTag.flip:PTag→PTag
 | .no => .no | .p0 => .p0 | .b => .f | .f => .b | .rb a => .rf a | .rf a => .rb a
theorem PM.pushF {σ υ:PH} {G:Nat→PTag} {r:Nat} {la:Option Addr} {ln lc m n:Nat} {sb sf:Sli} {vb vf:Value} {mb mf:Nat} {RB RF:Nat→Nat} {bd fs:Nat→Nat→Int} (h:PM σ υ G r la ln lc m n sb sf vb vf mb mf RB RF bd fs) (hm:mf≤1000000) {b1:Nat} (hb1:υ b1=none) {b2:Nat} (hb2:(υ.set b1 (.cells (ints (tab n fun _ => 0)).toArray 3)) b2=none)
   {Q:Value→PH→Prop} (hQ:∀ a' c' τ,(∃ G',PM σ τ G' r la ln lc m n sb ⟨a',sf.n + 1,c'⟩ vb vf mb (mf + 1) RB (fun a => if a=mf then b1 else RF a) bd (fun a => if a=mf then fun _ => 0 else fs a))→Q (.slice a' (sf.n + 1) c') τ) :
   iappend prog 33 (.slice sf.a sf.n sf.c) (.slice (some ⟨b2,0,none⟩) 1 1) Q ((υ.set b1 (.cells (ints (tab n fun _ => 0)).toArray 3)).set b2 (.cells #[.slice (some ⟨b1,0,none⟩) n n] 33)):=by
 have sw:∀ {τ:PH} {G:Nat→PTag} {sb sf:Sli} {mb mf:Nat} {RB RF:Nat→Nat} {bd fs:Nat→Nat→Int},PM σ τ G r la ln lc m n sb sf vb vf mb mf RB RF bd fs→PM σ τ (fun q => (G q).flip) r la ln lc m n sf sb vb vf mf mb RF RB fs bd:=by
   intro τ G sb sf mb mf RB RF bd fs h
   refine ⟨h.sub,h.blk,h.of,h.ob,h.rf,h.rb,?_,fun p hp => ?_,fun p hp => ?_,fun a ha => ?_,fun a ha => ?_,fun q hq => h.new q fun e => ?_⟩
   · rw [h.gr]; rfl
   · rw [h.gf p hp]; rfl
   · rw [h.gb p hp]; rfl
   · rw [h.grf a ha]; rfl
   · rw [h.grb a ha]; rfl
   · rw [e] at hq; exact hq rfl
 refine (sw h).pushB hm hb1 hb2 ?_
 rintro a' c' τ ⟨G',h'⟩
 exact hQ a' c' τ ⟨_,sw h'⟩
theorem PM.store {σ υ:PH} {G:Nat→PTag} {r:Nat} {la:Option Addr} {ln lc m n:Nat} {sb sf:Sli} {vb vf:Value} {mb mf:Nat} {RB RF:Nat→Nat} {bd fs:Nat→Nat→Int} (h:PM σ υ G r la ln lc m n sb sf vb vf mb mf RB RF bd fs) (wb wf:Value) :
   PM σ ((υ.setCell ((ptr r).add 1) wb).setCell ((ptr r).add 2) wf) G r la ln lc m n sb sf wb wf mb mf RB RF bd fs:=by
 have hrb:∀ i,((ptr r).add i).block=r:=fun i => add_block _ _
 have st1:Step (·=r) υ (υ.setCell ((ptr r).add 1) wb):=setCell_step.weaken fun b hb => hb.trans (hrb 1)
 have st2:Step (·=r) (υ.setCell ((ptr r).add 1) wb) ((υ.setCell ((ptr r).add 1) wb).setCell ((ptr r).add 2) wf):=setCell_step.weaken fun b hb => hb.trans (hrb 2)
 have st:=st1.trans st2
 have ne:∀ q t,G q=t→t ≠ .p0→¬ q=r:=by rintro q t h3 h4 rfl; exact h4 (h3.symm.trans h.gr)
 refine ⟨sub_step_new h.sub st (by rintro q rfl; exact h.new _ (by rw [h.gr]; simp)),?_,h.ob.keep st fun p hp => ne _ _ (h.gb p hp) (by simp),h.of.keep st fun p hp => ne _ _ (h.gf p hp) (by simp),fun a ha => (h.rb a ha).keep st (ne _ _ (h.grb a ha) (by simp)),fun a ha => (h.rf a ha).keep st (ne _ _ (h.grf a ha) (by simp)),h.gr,h.gb,h.gf,h.grb,h.grf,h.new⟩
 have:=(h.blk.set 1 wb).set 2 wf
 exact this
def Paths (σ τ:PH) (r:Nat) (la:Option Addr) (ln lc n:Nat) (bd fs:Nat→Nat→Int):Prop :=
 ∃ G sb sf RB RF,PM σ τ G r la ln lc n n sb sf sb.v sf.v n n RB RF bd fs
theorem c97 {σ:PH} {la:Option Addr} {ln lc:Nat} {l:List Dif} {n:Nat} (ha:Atoms σ la ln l) (hl:∀ (j:Nat) d,l[j]?=some d→DOk n d) (hn:n≤32) (hln:ln≤1000000) {x:Nat→Int} (hx:∀ (j:Nat) d,l[j]?=some d→x (dX d) - x (dY d)≤d.2.2) (hne:∀ (j:Nat) d,l[j]?=some d→dX d ≠ dY d)
   (hxb:∀ v,v < n→-1000000000000000≤x v∧x v≤0)
   {Q:Value→PH→Prop} (hQ:∀ τ r bd fs h M K,σ r=none→Paths σ τ r la ln lc n bd fs→FW n l x bd fs h M K→Q (.pointer (some (ptr r))) τ) :
   C 97 #[.int .i64 n,.slice la ln lc] Q σ:=by
 refine go (E97_0 _ _ _ _ _ _ _) ?_
 unfold S97_0
 intro r hr0
 have hll:=ha.1
 have P0:PM σ (σ.set r (.cells #[.slice la ln lc,.slice none 0 0,.slice none 0 0] 152)) (fun q => if q=r then .p0 else .no) r la ln lc n n ⟨none,0,0⟩ ⟨none,0,0⟩ (.slice none 0 0) (.slice none 0 0) 0 0 (fun _ => 0) (fun _ => 0) (fun a b => if a=b then 0 else far) (fun _ _ => 0):=by
   refine ⟨PH.sub_set hr0,set_self,own_nil,own_nil,fun a h => by omega,fun a h => by omega,if_pos rfl,fun p hp => (by cases hp),fun p hp => (by cases hp),fun a h => by omega,fun a h => by omega,fun q hq => ?_⟩
   by_cases e:q=r
   · rw [e]; exact hr0
   · rw [if_neg e] at hq; exact absurd rfl hq
 unfold S97_1
 refine iloopS_for (G:=Unit) (fun k _ => ((n:Int),la,ln,lc,ptr r,((n:Nat):Int),(k:Int)))
   (fun k _ υ => ∃ G sb sf RB RF fs,PM σ υ G r la ln lc n n sb sf sb.v sf.v k k RB RF (fun a b => if a=b then 0 else far) fs) n ?_ (g:=()) ⟨_,⟨none,0,0⟩,⟨none,0,0⟩,_,_,_,P0⟩
 rintro k _ υ hk ⟨G,sb,sf,RB,RF,fs,P⟩ R hR
 unfold S97_2
 dsimp only
 refine br_dec.2 ⟨fun hlt => ?_,fun hge => ?_⟩
 ·
   have hkn:k < n:=by omega
   refine ⟨_,rfl,_,P.blk.get (i:=1) rfl,_,_,_,rfl,by omega,Int.le_refl _,by omega,by omega,fun b1 hb1 => ?_⟩
   rw [Int.toNat_natCast,zeros_ints]
   intro b2 hb2
   refine P.pushB (by omega) hb1 hb2 ?_
   rintro a' c' τ ⟨G1,P1⟩
   refine ⟨_,_,_,rfl,_,rfl,fun p hp e => ?_,_,P1.blk.get (i:=2) rfl,_,_,_,rfl,by omega,Int.le_refl _,by omega,by omega,fun b3 hb3 => ?_⟩
   · rw [add_block] at e
     have:=P.gb p hp
     rw [← e] at this
     have h2:=P.gr
     dsimp only at this
     rw [this] at h2; cases h2
   intro b4 hb4
   refine P1.pushF (by omega) hb3 hb4 ?_
   rintro a'' c'' τ2 ⟨G2,P2⟩
   have P3:=P2.store (.slice a' (sb.n + 1) c') (.slice a'' (sf.n + 1) c'')
   have st1:Step (·=r) τ2 (τ2.setCell ((ptr r).add 1) (.slice a' (sb.n + 1) c')):=setCell_step.weaken fun b hb => hb.trans (add_block _ _)
   have B1:=P2.blk.set 1 (.slice a' (sb.n + 1) c')
   refine ⟨_,_,_,rfl,_,rfl,⟨_,P2.blk.get (i:=1) rfl⟩,P2.blk.froz 1,_,rfl,⟨_,B1.get (i:=2) rfl⟩,B1.froz 2,?_⟩
   unfold S97_3
   refine iloopS_for (G:=Nat→Nat→Int) (fun b _ => ((n:Int),la,ln,lc,ptr r,(k:Int),((n:Nat):Int),(k:Int),((n:Nat):Int),(b:Int)))
     (fun b bd υ => ∃ G sb sf RB RF fs,PM σ υ G r la ln lc n n sb sf sb.v sf.v (k + 1) (k + 1) RB RF bd fs∧(∀ a c,a < k→bd a c=if a=c then 0 else far)∧(∀ c,c < b→bd k c=if k=c then 0 else far)∧(∀ c,b≤c→bd k c=0)) n ?_
     (g:=_) ⟨G2,⟨a',sb.n + 1,c'⟩,⟨a'',sf.n + 1,c''⟩,_,_,_,P3,fun a c ha => ?_,fun c hc => by omega,fun c _ => ?_⟩
   · rintro b bd υ3 hb ⟨G3,sb3,sf3,RB3,RF3,fs3,P4,q1,q2,q3⟩ R3 hR3
     unfold S97_4
     dsimp only
     refine br_dec.2 ⟨fun hlt2 => ?_,fun hge2 => ?_⟩
     · have hbn:b < n:=by omega
       rw [wnat (by omega)]
       refine br_iff.2 ⟨fun hne' => ?_,fun heq => ?_⟩
       · have hkb:k ≠ b:=by
           intro e; subst e; simp at hne'
         obtain ⟨p,hp,hc,hcc⟩:=P4.getB (a:=k) (by omega)
         have nb:=P4.nb.1
         refine ⟨_,rfl,_,P4.blk.get (i:=1) rfl,_,_,_,rfl,p,hp,by omega,by omega,_,by rw [Int.toNat_natCast,Nat.mul_one]; exact hc,_,_,_,rfl,_,rfl,by omega,by omega,⟨_,by rw [Int.toNat_natCast,Nat.mul_one]; exact hcc b hbn⟩,by rw [Int.toNat_natCast,Nat.mul_one]; exact (P4.rb k (by omega)).froz _,?_⟩
         rw [Int.toNat_natCast,Nat.mul_one]
         refine hR3 (upd2 bd k b far) _ hbn ⟨G3,sb3,sf3,RB3,RF3,fs3,P4.setB (by omega) far,fun a c ha => ?_,fun c hc => ?_,fun c hc => ?_⟩
         · unfold upd2; rw [if_neg (by omega)]; exact q1 a c ha
         · unfold upd2
           by_cases e:c=b
           · rw [if_pos ⟨rfl,e⟩,if_neg (by omega)]
           · rw [if_neg (by omega)]; exact q2 c (by omega)
         · unfold upd2; rw [if_neg (by omega)]; exact q3 c (by omega)
       · have hkb:k=b:=by
           simp at heq; omega
         refine hR3 bd _ hbn ⟨G3,sb3,sf3,RB3,RF3,fs3,P4,q1,fun c hc => ?_,fun c hc => q3 c (by omega)⟩
         by_cases e:c=b
         · subst e; subst hkb; rw [if_pos rfl]; exact q3 k (Nat.le_refl _)
         · exact q2 c (by omega)
     · have hbn:b=n:=by omega
       subst hbn
       rw [wnat (by omega)]
       refine hR () _ hkn ⟨G3,sb3,sf3,RB3,RF3,fs3,P4.congr (fun a c ha hc => ?_) fun _ _ _ _ => rfl⟩
       by_cases e:a=k
       · subst e; exact (q2 c hc).symm
       · exact (q1 a c (by omega)).symm
   · show (if a=k then (fun _:Nat => (0:Int)) else fun b => if a=b then 0 else far) c=_
     rw [if_neg (by omega)]
   · exact congrFun (if_pos rfl) c
 · have hkn:k=n:=by omega
   subst hkn
   unfold S97_5
   refine iloopS_for (G:=(Nat→Nat→Int) × (Nat→Nat→Int)) (fun i _ => ((k:Int),ptr r,la,ln,lc,((ln:Nat):Int),(i:Int)))
     (fun i g υ => ∃ G,PM σ υ G r la ln lc k k sb sf sb.v sf.v k k RB RF g.1 g.2∧FW k l x g.1 g.2 (fun _ _ => 0) 1 1048577∧∀ a b,a < k→b < k→a ≠ b→g.1 a b ≠ far→∃ d,0≤g.2 a b∧l[(g.2 a b).toNat]?=some d∧dX d=a∧dY d=b∧d.2.2≤g.1 a b) ln ?_
     (g:=((fun a b => if a=b then 0 else far),fs)) ⟨G,P,FW.start,fun a b _ _ hab h => (h (if_neg hab)).elim⟩
   rintro i ⟨bd,fs2⟩ υ2 hi ⟨G2,P2,F2,E2⟩ R2 hR2
   simp only at P2 F2 E2
   unfold S97_6
   dsimp only
   refine br_dec.2 ⟨fun hlt => ?_,fun hge2 => ?_⟩
   · have hil:i < l.length:=by omega
     have hid:=List.getElem?_eq_getElem hil
     generalize l[i]=d at hid
     obtain ⟨p,hp,a0,a1,a2⟩:=ha.2 i d hid
     have hdo:=hl i d hid
     obtain ⟨xl,xe⟩:=hdo.x
     obtain ⟨yl,ye⟩:=hdo.y
     obtain ⟨g1,g2,g3,g4,g5,g6⟩:=id hdo
     have hYt:d.2.1.toNat=dY d:=rfl
     have hXt:d.1.toNat=dX d:=rfl
     refine ⟨p,hp,by omega,by omega,_,P2.sub.cell a0,_,P2.sub.cell a1,_,P2.sub.cell a2,_,_,_,rfl,fun b hbn => ?_⟩
     simp only [newSet,newSet0,newCell,newCell0,newFroz,newFroz0,List.setIfInBounds_toArray,List.set_cons_zero,List.set_cons_succ,List.getElem?_toArray,List.getElem?_cons_zero,List.getElem?_cons_succ,Option.some.injEq,exists_eq',true_and,Value.int.injEq,exists_eq_left']
     have sb2:=PH.sub_set (o:=.cells #[.int .i64 d.1,.int .i64 d.2.1,.int .i64 d.2.2] 50) hbn
     have P3:=P2.keep (M:=fun _ => False) (PH.sub.step sb2) (fun _ _ h => h)
     have Bb:Blk (υ2.set b (.cells #[.int .i64 d.1,.int .i64 d.2.1,.int .i64 d.2.2] 50)) b 50 [.int .i64 d.1,.int .i64 d.2.1,.int .i64 d.2.2]:=set_self
     have hbR:RB (dX d) ≠ b:=by
       rintro e
       have:=P2.rb (dX d) xl
       rw [e] at this
       rw [this] at hbn; cases hbn
     generalize υ2.set b (.cells #[.int .i64 d.1,.int .i64 d.2.1,.int .i64 d.2.2] 50)=ω at *
     obtain ⟨q,hq,hc,hcc⟩:=P3.getB (a:=dX d) xl
     obtain ⟨q',hq',hc',hcc'⟩:=P3.getF (a:=dX d) xl
     have nb:=P3.nb
     refine ⟨_,P3.blk.get (i:=1) rfl,_,_,_,rfl,q,hq,g1,by omega,_,by rw [hXt,Nat.mul_one]; exact hc,_,_,_,rfl,_,rfl,g3,g4,_,by rw [hYt,Nat.mul_one]; exact hcc _ yl,_,rfl,?_⟩
     rw [wnat (by omega)]
     refine br_dec.2 ⟨fun hlt2 => ?_,fun hge3 => ?_⟩
     · obtain ⟨F3,E3⟩:=F2.edge hl hx hne E2 hid
       have P4:=P3.setB (a:=dX d) (b:=dY d) xl d.2.2
       have P5:=P4.setF (a:=dX d) (b:=dY d) xl i
       refine ⟨_,P3.blk.get (i:=1) rfl,_,_,_,rfl,q,hq,g1,by omega,_,by rw [hXt,Nat.mul_one]; exact hc,_,_,_,rfl,_,P3.blk.get (i:=2) rfl,_,_,_,rfl,q',hq',g1,by omega,_,by rw [hXt,Nat.mul_one]; exact hc',_,_,_,rfl,_,rfl,g3,g4,?_,?_,?_,_,rfl,g3,g4,?_,?_,?_⟩
       · rintro ⟨h1,_⟩; rw [add_block,add_block] at h1; exact hbR h1
       · exact ⟨_,by rw [hYt,Nat.mul_one]; exact hcc _ yl⟩
       · rw [hYt,Nat.mul_one]; exact (P3.rb _ xl).froz _
       · rw [hYt,Nat.mul_one]
         obtain ⟨_,_,_,hcc2⟩:=P4.getF (a:=dX d) xl
         exact ⟨_,hcc2 _ yl⟩
       · rw [hYt,Nat.mul_one]; exact (P4.rf _ xl).froz _
       · rw [hYt,Nat.mul_one]
         exact hR2 (_,_) _ (by omega) ⟨G2,P5,F3,E3⟩
     · exact hR2 (bd,fs2) _ (by omega) ⟨G2,P3,F2,E2⟩
   ·
     unfold S97_7
     refine iloopS_for (G:=(Nat→Nat→Int) × (Nat→Nat→Int) × (Nat→Nat→Nat) × Nat) (fun j _ => ((k:Int),ptr r,((k:Nat):Int),(j:Int)))
       (fun j g υ => ∃ G,PM σ υ G r la ln lc k k sb sf sb.v sf.v k k RB RF g.1 g.2.1∧FW k l x g.1 g.2.1 g.2.2.1 g.2.2.2 (1048577 * 2 ^ j)) k ?_
       (g:=(bd,fs2,fun _ _ => 0,1)) ⟨G2,P2,by simpa using F2⟩
     rintro j ⟨bd3,fs3,h3,M3⟩ υ3 hj ⟨G3,P3,F3⟩ R3 hR3
     simp only at P3 F3
     unfold S97_8
     dsimp only
     refine br_dec.2 ⟨fun hlt2 => ?_,fun hge3 => hQ _ _ _ _ _ _ _ hr0 ⟨G3,sb,sf,RB,RF,P3⟩ F3⟩
     have hjk:j < k:=by omega
     have hK:(2:Int) ^ j≤2 ^ 31:=by
       have:(2:Nat) ^ j≤2 ^ 31:=Nat.pow_le_pow_right (by decide) (by omega)
       exact_mod_cast this
     have hK0:(0:Int) < 2 ^ j:=Int.pow_pos (by decide)
     have hK31:(2:Int) ^ 31=2147483648:=by decide
     have hFs:=F3.stage hl (by omega) (by unfold far; omega) hjk
     have hKK:(1048577:Int) * 2 ^ j * 2=1048577 * 2 ^ (j + 1):=by rw [Int.pow_succ,Int.mul_assoc]
     rw [hKK] at hFs
     unfold S97_9
     refine iloopS_for (G:=Unit) (fun a _ => ((k:Int),ptr r,(j:Int),((k:Nat):Int),(j:Int),((k:Nat):Int),(a:Int)))
       (fun a _ υ => PM σ υ G3 r la ln lc k k sb sf sb.v sf.v k k RB RF (fun u v => if u < a then bdN bd3 j u v else bd3 u v) (fun u v => if u < a then fsN bd3 fs3 j u v else fs3 u v)) k ?_ (g:=())
       (P3.congr (fun a b _ _ => if_neg (by omega)) fun a b _ _ => if_neg (by omega))
     rintro a _ υ4 ha' P4 R4 hR4
     unfold S97_10
     dsimp only
     refine br_dec.2 ⟨fun hlt3 => ?_,fun hge4 => ?_⟩
     · have hak:a < k:=by omega
       unfold S97_11
       refine iloopS_for (G:=Unit) (fun b _ => ((k:Int),ptr r,(j:Int),(a:Int),((k:Nat):Int),(j:Int),((k:Nat):Int),(a:Int),((k:Nat):Int),(b:Int)))
         (fun b _ υ => PM σ υ G3 r la ln lc k k sb sf sb.v sf.v k k RB RF (fun u v => if u < a ∨ (u=a∧v < b) then bdN bd3 j u v else bd3 u v) (fun u v => if u < a ∨ (u=a∧v < b) then fsN bd3 fs3 j u v else fs3 u v)) k ?_ (g:=())
         (P4.congr (fun u v _ _ => by simp) fun u v _ _ => by simp)
       rintro b _ υ5 hb' P5 R5 hR5
       unfold S97_12
       dsimp only
       refine br_dec.2 ⟨fun hlt4 => ?_,fun hge5 => ?_⟩
       · have hbk:b < k:=by omega
         obtain ⟨p,hp,hc,hcc⟩:=P5.getB (a:=a) hak
         obtain ⟨p1,hp1,hc1,hcc1⟩:=P5.getB (a:=j) hjk
         obtain ⟨p2,hp2,hc2,hcc2⟩:=P5.getF (a:=a) hak
         obtain rfl:p=p1:=Option.some.inj (hp.symm.trans hp1)
         have nb:=P5.nb
         have v1:(if a < a ∨ (a=a∧j < b) then bdN bd3 j a j else bd3 a j)=bd3 a j:=by
           split
           · unfold bdN; rw [if_neg (F3.col hjk a)]
           · rfl
         have v2:(if j < a ∨ (j=a∧b < b) then bdN bd3 j j b else bd3 j b)=bd3 j b:=by
           split
           · unfold bdN; rw [if_neg (F3.row hjk b)]
           · rfl
         have v3:(if a < a ∨ (a=a∧b < b) then bdN bd3 j a b else bd3 a b)=bd3 a b:=if_neg (by omega)
         have v4:(if a < a ∨ (a=a∧j < b) then fsN bd3 fs3 j a j else fs3 a j)=fs3 a j:=by
           split
           · unfold fsN; rw [if_neg (F3.col hjk a)]
           · rfl
         have r1:=hcc j hjk
         have r2:=hcc1 b hbk
         have r3:=hcc b hbk
         have r4:=hcc2 j hjk
         rw [v1] at r1
         rw [v2] at r2
         rw [v3] at r3
         rw [v4] at r4
         have bump:¬ better bd3 j a b→PM σ υ5 G3 r la ln lc k k sb sf sb.v sf.v k k RB RF (fun u v => if u < a ∨ (u=a∧v < b + 1) then bdN bd3 j u v else bd3 u v) (fun u v => if u < a ∨ (u=a∧v < b + 1) then fsN bd3 fs3 j u v else fs3 u v):=by
           intro hnb
           have e:∀ u v,(u < a ∨ (u=a∧v < b + 1))→¬ (u < a ∨ (u=a∧v < b))→u=a∧v=b:=fun u v h1 h2 => by omega
           have e':∀ u v,(u < a ∨ (u=a∧v < b))→(u < a ∨ (u=a∧v < b + 1)):=fun u v h => by omega
           refine P5.congr (fun u v _ _ => ?_) fun u v _ _ => ?_
           · by_cases h1:u < a ∨ (u=a∧v < b)
             · rw [if_pos h1,if_pos (e' u v h1)]
             · rw [if_neg h1]
               by_cases h2:u < a ∨ (u=a∧v < b + 1)
               · obtain ⟨rfl,rfl⟩:=e u v h2 h1
                 rw [if_pos h2]; unfold bdN; rw [if_neg hnb]
               · rw [if_neg h2]
           · by_cases h1:u < a ∨ (u=a∧v < b)
             · rw [if_pos h1,if_pos (e' u v h1)]
             · rw [if_neg h1]
               by_cases h2:u < a ∨ (u=a∧v < b + 1)
               · obtain ⟨rfl,rfl⟩:=e u v h2 h1
                 rw [if_pos h2]; unfold fsN; rw [if_neg hnb]
               · rw [if_neg h2]
         have na:=@Int.toNat_natCast
         refine ⟨_,rfl,_,P5.blk.get (i:=1) rfl,_,_,_,rfl,p,hp,by omega,by omega,_,by rw [na,Nat.mul_one]; exact hc,_,_,_,rfl,_,rfl,by omega,by omega,_,by rw [na,Nat.mul_one]; exact r1,_,rfl,?_⟩
         rw [wnat (by omega)]
         refine br_iff.2 ⟨fun hf1 => hR5 () _ hbk (bump fun h => h.1 (by simpa [far] using hf1)),fun hf1 => ?_⟩
         refine ⟨_,rfl,_,P5.blk.get (i:=1) rfl,_,_,_,rfl,p,hp,by omega,by omega,_,by rw [na,Nat.mul_one]; exact hc1,_,_,_,rfl,_,rfl,by omega,by omega,_,by rw [na,Nat.mul_one]; exact r2,_,rfl,br_iff.2 ⟨fun hf2 => hR5 () _ hbk (bump fun h => h.2.1 (by simpa [far] using hf2)),fun hf2 => ?_⟩⟩
         have n1:bd3 a j ≠ far:=by simpa [far] using hf1
         have n2:bd3 j b ≠ far:=by simpa [far] using hf2
         have k1:=F3.bnd a j hak hjk n1
         have k2:=F3.bnd j b hjk hbk n2
         have k3:=F3.pot a j hak hjk n1
         have k4:=F3.pot j b hjk hbk n2
         have x1:=hxb a hak
         have x2:=hxb j hjk
         have x3:=hxb b hbk
         have w:IntKind.wrap .i64 (bd3 a j + bd3 j b)=bd3 a j + bd3 j b:=by
           generalize (2:Int) ^ j=T at *
           exact w64 (by omega) (by omega)
         refine ⟨_,rfl,_,P5.blk.get (i:=1) rfl,_,_,_,rfl,p,hp,by omega,by omega,_,by rw [na,Nat.mul_one]; exact hc,_,_,_,rfl,_,rfl,by omega,by omega,_,by rw [na,Nat.mul_one]; exact r1,_,rfl,_,rfl,_,P5.blk.get (i:=1) rfl,_,_,_,rfl,p,hp,by omega,by omega,_,by rw [na,Nat.mul_one]; exact hc1,_,_,_,rfl,_,rfl,by omega,by omega,_,by rw [na,Nat.mul_one]; exact r2,_,rfl,
           _,rfl,_,P5.blk.get (i:=1) rfl,_,_,_,rfl,p,hp,by omega,by omega,_,by rw [na,Nat.mul_one]; exact hc,_,_,_,rfl,_,rfl,by omega,by omega,_,by rw [na,Nat.mul_one]; exact r3,_,rfl,?_⟩
         rw [w]
         refine br_dec.2 ⟨fun hbt => ?_,fun hbt => hR5 () _ hbk (bump fun h => hbt h.2.2)⟩
         have hbt:better bd3 j a b:=⟨n1,n2,hbt⟩
         have P6:=P5.setB (a:=a) (b:=b) hak (bd3 a j + bd3 j b)
         have P7:=P6.setF (a:=a) (b:=b) hak (fs3 a j)
         obtain ⟨_,_,_,hcc6⟩:=P6.getF (a:=a) hak
         refine ⟨_,rfl,_,P5.blk.get (i:=1) rfl,_,_,_,rfl,p,hp,by omega,by omega,_,by rw [na,Nat.mul_one]; exact hc,_,_,_,rfl,_,rfl,_,P5.blk.get (i:=2) rfl,_,_,_,rfl,p2,hp2,by omega,by omega,_,by rw [na,Nat.mul_one]; exact hc2,_,_,_,rfl,_,rfl,_,P5.blk.get (i:=2) rfl,_,_,_,rfl,p2,hp2,by omega,by omega,_,by rw [na,Nat.mul_one]; exact hc2,_,_,_,rfl,_,rfl,by omega,by omega,_,by rw [na,Nat.mul_one]; exact r4,_,rfl,
           _,rfl,by omega,by omega,⟨_,by rw [na,Nat.mul_one]; exact r3⟩,by rw [na,Nat.mul_one]; exact (P5.rb a hak).froz _,_,rfl,by omega,by omega,⟨_,by rw [na,Nat.mul_one]; exact hcc6 b hbk⟩,by rw [na,Nat.mul_one]; exact (P6.rf a hak).froz _,?_⟩
         rw [na,Nat.mul_one]
         refine hR5 () _ hbk (P7.congr (fun u v _ _ => ?_) fun u v _ _ => ?_)
         · unfold upd2
           dsimp only
           by_cases e:u=a∧v=b
           · obtain ⟨rfl,rfl⟩:=e
             rw [if_pos (by omega),if_pos ⟨rfl,rfl⟩]
             unfold bdN; rw [if_pos hbt]
           · rw [if_neg e]
             by_cases h1:u < a ∨ (u=a∧v < b)
             · rw [if_pos h1,if_pos (by omega)]
             · rw [if_neg h1,if_neg (by omega)]
         · unfold upd2
           dsimp only
           by_cases e:u=a∧v=b
           · obtain ⟨rfl,rfl⟩:=e
             rw [if_pos (by omega),if_pos ⟨rfl,rfl⟩]
             unfold fsN; rw [if_pos hbt]
           · rw [if_neg e]
             by_cases h1:u < a ∨ (u=a∧v < b)
             · rw [if_pos h1,if_pos (by omega)]
             · rw [if_neg h1,if_neg (by omega)]
       · have hbk:b=k:=by omega
         subst hbk
         rw [wnat (by omega)]
         refine hR4 () _ hak (P5.congr (fun u v hu hv => ?_) fun u v hu hv => ?_)
         · by_cases h1:u < a ∨ (u=a∧v < b)
           · rw [if_pos h1,if_pos (by omega)]
           · rw [if_neg h1,if_neg (by omega)]
         · by_cases h1:u < a ∨ (u=a∧v < b)
           · rw [if_pos h1,if_pos (by omega)]
           · rw [if_neg h1,if_neg (by omega)]
     · have hak:a=k:=by omega
       subst hak
       rw [wnat (by omega)]
       refine hR3 (_,_,_,_) _ hjk ⟨G3,P4.congr (fun u v hu hv => (if_pos hu).symm) (fun u v hu hv => (if_pos hu).symm),hFs⟩
theorem c98 {σ:PH} {r:Nat} {q:Addr} {n c a b R:Nat} {v:Int} (h1:∃ n1 c1,σ.cell? ((ptr r).add 1)=some (.slice (some q) n1 c1)∧a < n1) (h2:σ.cell? (q.add a)=some (.slice (some (ptr R)) n c)) (hb':b < n) (h3:σ.cell? ((ptr R).add b)=some (.int .i64 v)) :
   C 98 #[.pointer (some (ptr r)),.int .i64 a,.int .i64 b] (fun u τ => u=.int .i64 v∧τ=σ) σ:=by
 obtain ⟨n1,c1,h1,ha⟩:=h1
 refine go (E98_0 _ _ _ _ _ _) ?_
 unfold S98_0
 exact ⟨_,rfl,_,h1,_,_,_,rfl,q,rfl,by omega,by omega,_,by rw [Int.toNat_natCast,Nat.mul_one]; exact h2,_,_,_,rfl,_,rfl,by omega,by omega,_,by rw [Int.toNat_natCast,Nat.mul_one]; exact h3,_,rfl,rfl,rfl⟩
theorem cell_only {bs:List Nat} {σ:PH} {p:Addr} {v:Value} (h:σ.cell? p=some v) (hb:p.block ∈ bs):(PH.only bs σ).cell? p=some v:=by
 unfold PH.cell? PH.only at *
 rw [show bs.contains p.block=true from by simpa using hb]
 exact h
theorem quiet98 {σ τ:PH} {G:Nat→PTag} {r:Nat} {la:Option Addr} {ln lc m n:Nat} {sb sf:Sli} {vf:Value} {mb mf:Nat} {RB RF:Nat→Nat} {bd fs:Nat→Nat→Int} (P:PM σ τ G r la ln lc m n sb sf sb.v vf mb mf RB RF bd fs) {ω:PH} (hs:τ.sub ω) {a b:Nat} (ha:a < mb) (hb':b < n) :
   ∃ bs,quiet C 98 #[.pointer (some (ptr r)),.int .i64 a,.int .i64 b] (.int .i64 (bd a b)) bs ω:=by
 obtain ⟨q,hq,hc,hcc⟩:=P.getB ha
 have nb:=P.nb
 have known:∀ {p:Addr} {v:Value},τ.cell? p=some v→ω p.block ≠ none:=by
   intro p v h e
   have:=hs.cell h
   unfold PH.cell? at this
   rw [e] at this; cases this
 have c1:=P.blk.get (i:=1) rfl
 refine ⟨[r,q.block,RB a],fun x hx => ?_,?_⟩
 · simp only [List.mem_cons,List.mem_nil_iff,or_false] at hx
   rcases hx with rfl | rfl | rfl
   · have:=known c1; rwa [add_block] at this
   · have:=known hc; rwa [add_block] at this
   · have:=known (hcc b hb'); rwa [add_block] at this
 · refine (c98 (q:=q) (R:=RB a) (n:=n) (c:=n) ⟨sb.n,sb.c,?_,by omega⟩ ?_ hb' ?_).mono hb fun v τ' ⟨h1,h2⟩ => ⟨h1,h2 ▸ PH.sub.refl _⟩
   · have:=cell_only (bs:=[r,q.block,RB a]) (hs.cell c1) (by rw [add_block]; simp)
     rw [← hq]; exact this
   · exact cell_only (hs.cell hc) (by rw [add_block]; simp)
   · exact cell_only (hs.cell (hcc b hb')) (by rw [add_block]; simp)
theorem c99 {σ0 σ:PH} {r:Nat} {la:Option Addr} {ln lc n:Nat} {bd fs:Nat→Nat→Int} (P:Paths σ0 σ r la ln lc n bd fs) {l:List Dif} (hA:Atoms σ la ln l) (hl:∀ (j:Nat) d,l[j]?=some d→DOk n d) {x:Nat→Int} (hx:∀ (j:Nat) d,l[j]?=some d→x (dX d) - x (dY d)≤d.2.2) {h:Nat→Nat→Nat} {M:Nat} {K:Int} (f:FW n l x bd fs h M K) (hn:n≤1000)
   {a b:Nat} (ha:a < n) (hb':b < n) (hf:bd a b ≠ far)
   {Q:Value→PH→Prop} (hQ:∀ τ (sl:Sli) (js:List Int),σ.sub τ→Own τ 3 1 sl.a sl.n sl.c (ints js)→(∀ q,sl.a=some q→σ q.block=none)→(∀ j ∈ js,0≤j∧j < l.length)→chain (a:Int) (b:Int) (js.map fun j => l.getD j.toNat (0,0,0))→sumJ l js≤bd a b→js.length≤n→Q sl.v τ) :
   C 99 #[.pointer (some (ptr r)),.int .i64 a,.int .i64 b] Q σ:=by
 obtain ⟨G,sb,sf,RB,RF,P⟩:=P
 refine go (E99_0 _ _ _ _ _ _) ?_
 unfold S99_0 S99_1
 have chain_snoc:∀ (l1:List Dif) (a b:Int) (d:Dif),chain a b l1→d.1=b→chain a d.2.1 (l1 ++ [d]):=by
   intro l1
   induction l1 with
   | nil => intro a b d h1 h2; exact ⟨h2.trans h1.symm,rfl⟩
   | cons e t ih => intro a b d h1 h2; exact ⟨h1.1,ih _ _ d h1.2 h2⟩
 refine iloopS_ind (fun k y υ => ∃ (u:Nat) (js:List Int) (sl:Sli) (vs:List Nat),k=(if u=b then 0 else fwM x bd h M b u + 1)∧y=(some (ptr r),(u:Int),(b:Int),sl.a,sl.n,sl.c)∧u < n∧(u ≠ b→bd u b ≠ far)∧σ.sub υ∧Own υ 3 1 sl.a sl.n sl.c (ints js)∧(∀ q,sl.a=some q→σ q.block=none) ∧
     (∀ j ∈ js,0≤j∧j < l.length)∧chain (a:Int) (u:Int) (js.map fun j => l.getD j.toNat (0,0,0))∧sumJ l js + (if u=b then 0 else bd u b)≤bd a b∧js.length=vs.length∧vs.Nodup∧∀ v ∈ vs,v < n∧v ≠ b∧(u ≠ b→fwM x bd h M b u < fwM x bd h M b v)) ?_
   (n:=if a=b then 0 else fwM x bd h M b a + 1) ⟨a,[],⟨none,0,0⟩,[],rfl,rfl,ha,fun _ => hf,PH.sub.refl _,own_nil,(fun q hq => by cases hq),by simp,rfl,?_,rfl,by simp,by simp⟩
 · rintro k y υ ⟨u,js,sl,vs,rfl,rfl,hu,huf,hs,hO,hnew,hrng,hch,hsum,hlen,hnd,hvs⟩ R hR
   unfold S99_2
   dsimp only
   have hvl:vs.length≤n:=by
     have:=hnd.length_le_of_subset (l₂:=List.range n) fun v hv => List.mem_range.2 (hvs v hv).1
     simpa using this
   refine br_iff.2 ⟨fun hne => ?_,fun heq => ?_⟩
   · have hub:u ≠ b:=by rintro rfl; simp at hne
     rw [if_neg hub] at hsum
     obtain ⟨d,w1,w2,w3,w4⟩:=f.falls hl hx hu hb' hub (huf hub)
     have hdo:=hl _ _ w2
     obtain ⟨q,hq,hc,hcc⟩:=P.getF hu
     obtain ⟨p,hp,a0,a1,a2⟩:=hA.2 _ d w2
     have hjl:=(List.getElem?_eq_some_iff.1 w2).1
     have hll:=hA.1
     have nb:=P.nb
     have hol:=own_len hO
     have hg:l.getD (fs u b).toNat (0,0,0)=d:=by rw [List.getD_eq_getElem?_getD,w2]; rfl
     refine ⟨_,rfl,_,hs.cell (P.blk.get (i:=2) rfl),_,_,_,rfl,q,hq,by omega,by omega,_,by rw [Int.toNat_natCast,Nat.mul_one]; exact hs.cell hc,_,_,_,rfl,_,rfl,by omega,by omega,_,by rw [Int.toNat_natCast,Nat.mul_one]; exact hs.cell (hcc b hb'),_,rfl,fun b1 hb1 => ?_⟩
     refine pushRow t3.1 t3.2.1 t3.2.2 rfl (by decide) hO hb1 (news:=[.int .i64 (fs u b)]) rfl ?_ (by omega) ?_
     · intro v hv; simp at hv; subst hv; trivial
     · intro a' c' τ hO' hst hnew'
       have hsτ:σ.sub τ:=sub_step_new hs hst (by rintro q ⟨p',h1,rfl⟩; exact hnew p' h1)
       have hfτ:∀ q,a'=some q→σ q.block=none:=by
         intro q hq'
         rcases hnew' q hq' with ⟨p',h1,h2⟩ | h1
         · rw [h2]; exact hnew p' h1
         · cases hσ:σ q.block with
           | none => rfl
           | some o => rw [hs _ _ hσ] at h1; cases h1
       have e0:(Addr.mk r 0 none).add 0=⟨r,0,none⟩:=rfl
       have hsumJ:sumJ l (js ++ [fs u b])=sumJ l js + d.2.2:=by
         unfold sumJ
         rw [List.map_append,List.sum_append,List.map_singleton,hg]; simp
       have nu:u ∉ vs:=fun hm => by have:=(hvs u hm).2.2 hub; omega
       refine ⟨_,_,_,rfl,_,rfl,_,(by have:=hsτ.cell (P.blk.get (i:=0) rfl); rw [e0] at this; exact this),_,_,_,rfl,p,hp,w1,by omega,_,hsτ.cell a1,_,rfl,?_⟩
       rw [← hdo.y.2]
       refine hR _ _ _ ?_ ⟨dY d,js ++ [fs u b],⟨a',sl.n + 1,c'⟩,u :: vs,rfl,rfl,hdo.y.1,?_,hsτ,by simpa [ints] using hO',hfτ,fun j hj => ?_,?_,?_,by simp [hlen],List.nodup_cons.2 ⟨nu,hnd⟩,fun v hv => ?_⟩
       · rw [if_neg hub]
         rcases w4 with ⟨q1,q2⟩ | ⟨q1,q2,q3,q4⟩
         · rw [if_pos q1]; omega
         · rw [if_neg q1]; omega
       · intro h1
         rcases w4 with ⟨q1,_⟩ | ⟨_,q2,_⟩
         · exact absurd q1 h1
         · exact q2
       · rcases List.mem_append.1 hj with hj | hj
         · exact hrng j hj
         · rw [List.mem_singleton] at hj; subst hj; exact ⟨w1,by omega⟩
       · rw [List.map_append,List.map_singleton,hg]
         have:=chain_snoc _ _ _ d hch (by rw [← w3]; exact hdo.x.2.symm)
         rwa [hdo.y.2]
       · rw [hsumJ]
         rcases w4 with ⟨q1,q2⟩ | ⟨q1,q2,q3,q4⟩
         · rw [if_pos q1]; omega
         · rw [if_neg q1]; omega
       · rcases List.mem_cons.1 hv with rfl | hv
         · refine ⟨hu,hub,fun h1 => ?_⟩
           rcases w4 with ⟨q1,_⟩ | ⟨_,_,_,q4⟩
           · exact absurd q1 h1
           · exact q4
         · obtain ⟨q1,q2,q3⟩:=hvs v hv
           refine ⟨q1,q2,fun h1 => ?_⟩
           have:=q3 hub
           rcases w4 with ⟨q1,_⟩ | ⟨_,_,_,q4⟩
           · exact absurd q1 h1
           · omega
   · have hub:u=b:=by simp at heq; omega
     subst hub
     rw [if_pos rfl] at hsum
     exact hQ υ sl js hs hO hnew hrng hch (by omega) (by omega)
 · by_cases e:a=b
   · rw [if_pos e]
     subst e
     rw [f.diag a ha]; simp [sumJ]
   · rw [if_neg e]; simp [sumJ]
def bndV:Option Dif→Value
 | some d => .tuple #[.agg #[.int .i64 d.1,.int .i64 d.2.1,.int .i64 d.2.2],.bool true]
 | none => .tuple #[.agg #[.int .i64 0,.int .i64 0,.int .i64 0],.bool false]
theorem bo_vr {x:Int} (h:x ≠ 0):bo x=(vr x:Int):=by unfold bo vr; split <;> omega
theorem c58 {σ:PH} {i1 i2:Int} {aa:Option Addr} {an ac:Nat} {ca:Option Addr} {cn cc:Nat} {F:Fm} (hA:Atoms σ aa an F.atoms) (hC:∀ d ∈ F.atoms,-1048576≤d.2.2∧d.2.2≤1048576) {x:Int} (hl:Lit x) {Q:Value→PH→Prop} (hQ:∀ τ,σ.sub τ→Q (bndV (bound F x)) τ) :
   C 58 #[.agg #[.int .i64 i1,.int .i64 i2,.slice aa an ac,.slice ca cn cc],.int .i64 x] Q σ:=by
 refine go (E58_0 _ _ _ _ _ _ _ _ _ _ _ _) ?_
 unfold S58_0
 intro b10 h10 b11 h11
 have e0:∀ b:Nat,(Addr.mk b 0 none).add 0=⟨b,0,none⟩:=fun b => rfl
 have s1:=PH.sub_set (o:=.cells #[.int .i64 i1,.int .i64 i2,.slice aa an ac,.slice ca cn cc] 29) h10
 have s2:=PH.sub_set (o:=.cells #[.int .i64 0,.int .i64 0,.int .i64 0] 50) h11
 have hb:=hl
 unfold Lit at hb
 have han:=hA.1
 refine ⟨bo x,[],br_iff.2 ⟨fun h0 => ?_,fun h0 => br_iff.2 ⟨fun hm => ?_,fun hm => ?_⟩⟩⟩
 · simp only [newSet,newSet0,newCell,newCell0,newFroz,newFroz0,List.setIfInBounds_toArray,List.set_cons_zero,List.set_cons_succ,List.getElem?_toArray,List.getElem?_cons_zero,List.getElem?_cons_succ,Option.some.injEq,exists_eq',true_and,exists_eq_left']
   have hx:x=0:=by simpa using h0
   have:=hQ _ (s1.trans s2)
   unfold bound at this
   rw [if_pos hx] at this
   exact this
 · have:x=-9223372036854775808:=by simpa using hm
   omega
 · have hx:x ≠ 0:=by simpa using h0
   have B10:Blk ((σ.set b10 (.cells #[.int .i64 i1,.int .i64 i2,.slice aa an ac,.slice ca cn cc] 29)).set b11 (.cells #[.int .i64 0,.int .i64 0,.int .i64 0] 50)) b10 29 [.int .i64 i1,.int .i64 i2,.slice aa an ac,.slice ca cn cc]:=s2 _ _ set_self
   refine ⟨quiet70 hl _,_,B10.get (i:=2) rfl,_,_,_,rfl,br_dec.2 ⟨fun hge => ?_,fun hlt => ?_⟩⟩
   · simp only [newSet,newSet0,newCell,newCell0,newFroz,newFroz0,List.setIfInBounds_toArray,List.set_cons_zero,List.set_cons_succ,List.getElem?_toArray,List.getElem?_cons_zero,List.getElem?_cons_succ,Option.some.injEq,exists_eq',true_and,exists_eq_left']
     have:=hQ _ (s1.trans s2)
     unfold bound at this
     rw [if_neg hx,List.getElem?_eq_none (by rw [bo_vr hx] at hge; omega)] at this
     exact this
   · rw [bo_vr hx] at hlt
     have hv:vr x < F.atoms.length:=by omega
     have hat:=List.getElem?_eq_getElem hv
     have hCm:=hC _ (List.getElem_mem hv)
     generalize F.atoms[vr x]=d at hat hCm
     obtain ⟨p,hp,a0,a1,a2⟩:=hA.2 _ d hat
     have sub:=s1.trans s2
     have hbt:(bo x).toNat=vr x:=by rw [bo_vr hx]; omega
     refine ⟨bo x,[],_,B10.get (i:=2) rfl,_,_,_,rfl,quiet70 hl _,p,hp,by rw [bo_vr hx]; omega,by rw [bo_vr hx]; omega,_,by rw [hbt]; exact sub.cell a0,_,by rw [hbt]; exact sub.cell a1,_,by rw [hbt]; exact sub.cell a2,_,_,_,rfl,fun b49 h49 => ?_⟩
     have ne49:b49 ≠ b11:=by rintro rfl; rw [set_self] at h49; cases h49
     have s3:=PH.sub_set (o:=.cells #[.int .i64 d.1,.int .i64 d.2.1,.int .i64 d.2.2] 50) h49
     have hb11:((σ.set b10 (.cells #[.int .i64 i1,.int .i64 i2,.slice aa an ac,.slice ca cn cc] 29)).set b11 (.cells #[.int .i64 0,.int .i64 0,.int .i64 0] 50)) b11=some (.cells #[.int .i64 0,.int .i64 0,.int .i64 0] 50 (0,0)):=set_self
     have B11:Blk (((σ.set b10 (.cells #[.int .i64 i1,.int .i64 i2,.slice aa an ac,.slice ca cn cc] 29)).set b11 (.cells #[.int .i64 0,.int .i64 0,.int .i64 0] 50)).set b49 (.cells #[.int .i64 d.1,.int .i64 d.2.1,.int .i64 d.2.2] 50)) b11 50 [.int .i64 0,.int .i64 0,.int .i64 0]:=s3 _ _ hb11
     have B49:Blk (((σ.set b10 (.cells #[.int .i64 i1,.int .i64 i2,.slice aa an ac,.slice ca cn cc] 29)).set b11 (.cells #[.int .i64 0,.int .i64 0,.int .i64 0] 50)).set b49 (.cells #[.int .i64 d.1,.int .i64 d.2.1,.int .i64 d.2.2] 50)) b49 50 [.int .i64 d.1,.int .i64 d.2.1,.int .i64 d.2.2]:=set_self
     have n11:σ b11=none:=by
       cases hσ:σ b11 with
       | none => rfl
       | some o => rw [s1 _ _ hσ] at h11; cases h11
     have sub3:=sub.trans s3
     simp only [newSet,newSet0,newCell,newCell0,newFroz,newFroz0,List.setIfInBounds_toArray,List.set_cons_zero,List.set_cons_succ,List.getElem?_toArray,List.getElem?_cons_zero,List.getElem?_cons_succ,Option.some.injEq,exists_eq',true_and,Value.int.injEq,exists_eq_left']
     generalize ((σ.set b10 (.cells #[.int .i64 i1,.int .i64 i2,.slice aa an ac,.slice ca cn cc] 29)).set b11 (.cells #[.int .i64 0,.int .i64 0,.int .i64 0] 50)).set b49 (.cells #[.int .i64 d.1,.int .i64 d.2.1,.int .i64 d.2.2] 50)=ω at *
     have st:∀ (ω:PH) i v,Step (·=b11) ω (ω.setCell ((ptr b11).add i) v):=fun ω i v => setCell_step.weaken fun b hb => hb.trans (add_block _ _)
     have fin:∀ v0 v1 v2:Int,bound F x=some (v0,v1,v2)→Q (.tuple #[.agg #[.int .i64 v0,.int .i64 v1,.int .i64 v2],.bool true]) (((ω.setCell (ptr b11) (.int .i64 v0)).setCell ((ptr b11).add 1) (.int .i64 v1)).setCell ((ptr b11).add 2) (.int .i64 v2)):=by
       intro v0 v1 v2 hbd
       have:=hQ (((ω.setCell (ptr b11) (.int .i64 v0)).setCell ((ptr b11).add 1) (.int .i64 v1)).setCell ((ptr b11).add 2) (.int .i64 v2)) ?_
       · rw [hbd] at this; exact this
       · exact sub_step_new (sub_step_new (sub_step_new sub3 (st ω 0 _) (by rintro b rfl; exact n11)) (st _ 1 _) (by rintro b rfl; exact n11)) (st _ 2 _) (by rintro b rfl; exact n11)
     have g0:=B11.get (i:=0) rfl
     have f0:=B11.froz 0
     rw [e0] at g0 f0
     have chainB:∀ v0 v1 v2:Int,Blk (ω.setCell (ptr b11) (.int .i64 v0)) b11 50 [.int .i64 v0,.int .i64 0,.int .i64 0]∧Blk ((ω.setCell (ptr b11) (.int .i64 v0)).setCell ((ptr b11).add 1) (.int .i64 v1)) b11 50 [.int .i64 v0,.int .i64 v1,.int .i64 0]∧Blk (((ω.setCell (ptr b11) (.int .i64 v0)).setCell ((ptr b11).add 1) (.int .i64 v1)).setCell ((ptr b11).add 2) (.int .i64 v2)) b11 50 [.int .i64 v0,.int .i64 v1,.int .i64 v2]:=by
       intro v0 v1 v2
       have k0:=B11.set 0 (.int .i64 v0)
       have k1:=k0.set 1 (.int .i64 v1)
       have k2:=k1.set 2 (.int .i64 v2)
       exact ⟨k0,k1,k2⟩
     refine br_dec.2 ⟨fun hneg => ?_,fun hpos => ?_⟩
     · have w:IntKind.wrap .i64 (IntKind.wrap .i64 (0 - d.2.2) - 1)=-d.2.2 - 1:=by rw [w64 (n:=0 - d.2.2) (by omega) (by omega),w64 (by omega) (by omega)]; omega
       rw [w]
       obtain ⟨k0,k1,k2⟩:=chainB d.2.1 d.1 (-d.2.2 - 1)
       have r0:=k2.get (i:=0) rfl
       rw [e0] at r0
       refine ⟨⟨_,g0⟩,f0,⟨_,k0.get (i:=1) rfl⟩,k0.froz 1,⟨_,k1.get (i:=2) rfl⟩,k1.froz 2,_,r0,_,k2.get (i:=1) rfl,_,k2.get (i:=2) rfl,fin _ _ _ ?_⟩
       unfold bound
       rw [if_neg hx,hat]
       dsimp only
       rw [if_neg (by omega)]
     · have r49:=B49.get (i:=0) rfl
       rw [e0] at r49
       obtain ⟨k0,k1,k2⟩:=chainB d.1 d.2.1 d.2.2
       have r0:=k2.get (i:=0) rfl
       rw [e0] at r0
       have hbd:bound F x=some (d.1,d.2.1,d.2.2):=by
         unfold bound
         rw [if_neg hx,hat]
         dsimp only
         rw [if_pos (by omega)]
       exact ⟨_,_,_,rfl,⟨_,g0⟩,f0,⟨_,k0.get (i:=1) rfl⟩,k0.froz 1,⟨_,k1.get (i:=2) rfl⟩,k1.froz 2,_,r0,_,k2.get (i:=1) rfl,_,k2.get (i:=2) rfl,fin _ _ _ hbd⟩
end Go.Proofs.Ythfnjogadngfiaa
namespace Go.Sv
theorem Inv.newR {F:Fm} {n:Nat} {st:St} (h:Inv F n st) {r:Nat} (hr:st.R r=none) {rc:RC} (hg:∀ cs,stepsOf F st.steps=some cs→RGood F n cs rc):Inv F n (st.setR r rc):=by
 obtain ⟨cs,hcs,hR⟩:=h.stp
 refine ⟨h.tr,h.wlen,⟨cs,hcs,fun q y hq => ?_⟩,fun pre x post e hl => ?_⟩
 · replace hq:(if q=r then some rc else st.R q)=some y:=hq
   by_cases e:q=r
   · rw [if_pos e] at hq; cases hq; exact hg cs hcs
   · rw [if_neg e] at hq; exact hR q y hq
 · obtain ⟨q,y,h1,h2,h3,h4⟩:=h.imp pre x post e hl
   refine ⟨q,y,h1,?_,h3,h4⟩
   show (if q=r then some rc else st.R q)=some y
   rw [if_neg (by rintro rfl; rw [hr] at h2; cases h2)]
   exact h2
theorem Inv.assign {F:Fm} {n:Nat} {st:St} (h:Inv F n st) {x:Int} (hx:LitN n x) (h1:x ∉ st.trail) (h2:-x ∉ st.trail) {r:Nat} {rc:RC} (hr:st.R r=some rc) (hm:x ∈ rc.lits) (hf:∀ y ∈ rc.lits,y ≠ x→-y ∈ st.trail):Inv F n (st.assign x (some r)):=by
 refine ⟨h.tr.assign hx h1 h2,by show (st.why.set _ _).length=n; rw [List.length_set]; exact h.wlen,h.stp,fun pre y post e hl => ?_⟩
 replace e:st.trail ++ [x]=pre ++ y :: post:=e
 replace hl:pre.length ∉ st.limits:=hl
 rcases snoc_split e with ⟨_,rfl,rfl⟩ | ⟨p',_,e'⟩
 · refine ⟨r,rc,?_,hr,hm,hf⟩
   show (st.why.set _ (some r))[_]?=_
   exact List.getElem?_set_self (by rw [h.wlen]; exact hx.vr_lt)
 · obtain ⟨q,z,q1,q2,q3,q4⟩:=h.imp pre y p' e' hl
   refine ⟨q,z,?_,q2,q3,q4⟩
   show (st.why.set (vr x) (some r))[vr y]?=_
   rw [List.getElem?_set_ne]
   · exact q1
   · intro e1
     have hy:y ∈ st.trail:=by rw [e']; simp
     rcases vr_eq hx.1 (h.tr.lit y hy).1 e1 with rfl | rfl
     · exact h1 hy
     · exact h2 hy
inductive TSeq (F:Fm) (n:Nat):St→St→Prop
 | refl (st:St):TSeq F n st st
 | snoc {a b:St} {r:Nat} {rc:RC} {x:Int}:TSeq F n a b→b.R r=none→(∀ cs,stepsOf F b.steps=some cs→RGood F n cs rc)→LitN n x→x ∉ b.trail→-x ∉ b.trail→x ∈ rc.lits→(∀ y ∈ rc.lits,y ≠ x→-y ∈ b.trail)→TSeq F n a ((b.setR r rc).assign x (some r))
theorem TSeq.inv {F:Fm} {n:Nat} {a b:St} (h:TSeq F n a b) (hI:Inv F n a):Inv F n b:=by
 induction h with
 | refl => exact hI
 | snoc h q1 q2 q3 q4 q5 q6 q7 ih => exact (ih.newR q1 q2).assign q3 q4 q5 (if_pos rfl) q6 q7
structure TSame (a b:St):Prop where
 steps:b.steps=a.steps
 clauses:b.clauses=a.clauses
 W:b.W=a.W
 limits:b.limits=a.limits
 head:b.head=a.head
 empty:b.empty=a.empty
 units:b.units=a.units
 vlen:b.value.length=a.value.length
 llen:b.level.length=a.level.length
 wlen:b.why.length=a.why.length
 R:∀ r rc,a.R r=some rc→b.R r=some rc
 trail:∃ e,b.trail=a.trail ++ e
theorem TSeq.same {F:Fm} {n:Nat} {a b:St} (h:TSeq F n a b):TSame a b:=by
 induction h with
 | refl => exact ⟨rfl,rfl,rfl,rfl,rfl,rfl,rfl,rfl,rfl,rfl,fun _ _ h => h,[],by simp⟩
 | @snoc b r rc x h q1 q2 q3 q4 q5 q6 q7 ih =>
   obtain ⟨e,he⟩:=ih.trail
   refine ⟨ih.steps,ih.clauses,ih.W,ih.limits,ih.head,ih.empty,ih.units,(List.length_set ..).trans ih.vlen,(List.length_set ..).trans ih.llen,(List.length_set ..).trans ih.wlen,fun r' rc' hr => ?_,e ++ [x],?_⟩
   · have:=ih.R r' rc' hr
     exact (if_neg (by intro e; subst e; rw [q1] at this; cases this)).trans this
   · rw [← List.append_assoc,← he]; rfl
theorem bounds_pick {F:Fm} {lits:List Int} {l:List Dif} (hb:bounds F lits=some l):∀ (c:List Int),(∀ j ∈ c,0≤j∧j < lits.length)→bounds F (c.map fun i => lits.getD i.toNat 0)=some (c.map fun j => l.getD j.toNat (0,0,0)):=by
 have at':∀ (lits:List Int) (l:List Dif),bounds F lits=some l→∀ (i:Nat) x,lits[i]?=some x→∃ d,bound F x=some d∧l[i]?=some d:=by
   intro lits
   induction lits with
   | nil => intro l _ i x hx; simp at hx
   | cons y t ih =>
     intro l hb i x hx
     unfold bounds at hb
     split at hb
     · cases hb
     · rename_i d hd
       split at hb
       · cases hb
       · rename_i l' hl'
         cases hb
         cases i with
         | zero => simp at hx; subst hx; exact ⟨d,hd,rfl⟩
         | succ i => exact ih l' hl' i x (by simpa using hx)
 intro c
 induction c with
 | nil => intro _; rfl
 | cons j c ih =>
   intro hc
   obtain ⟨h1,h2⟩:=hc j List.mem_cons_self
   obtain ⟨d,q1,q2⟩:=at' lits l hb j.toNat _ (List.getElem?_eq_getElem (by omega))
   rw [List.map_cons,List.map_cons,bounds]
   have e1:lits.getD j.toNat 0=lits[j.toNat]'(by omega):=by simp [show j.toNat < lits.length from by omega]
   have e2:l.getD j.toNat (0,0,0)=d:=by rw [List.getD_eq_getElem?_getD,q2]; rfl
   rw [e1,q1,e2]
   dsimp only
   rw [ih fun j' hj' => hc j' (List.mem_cons_of_mem _ hj')]
theorem bounds_snoc {F:Fm}:∀ {lits:List Int} {l:List Dif} {x:Int} {d:Dif},bounds F lits=some l→bound F x=some d→bounds F (lits ++ [x])=some (l ++ [d])
 | [],l,x,d,h,hd => by
   simp only [bounds,Option.some.injEq] at h
   subst h
   rw [List.nil_append,bounds,hd]; rfl
 | y :: t,l,x,d,h,hd => by
   unfold bounds at h
   split at h
   · cases h
   · rename_i d' hd'
     split at h
     · cases h
     · rename_i l' hl'
       cases h
       rw [List.cons_append,bounds,hd',bounds_snoc hl' hd]
       rfl
theorem bounds_len {F:Fm}:∀ {lits:List Int} {l:List Dif},bounds F lits=some l→l.length=lits.length
 | [],l,h => by simp only [bounds,Option.some.injEq] at h; subst h; rfl
 | y :: t,l,h => by
   unfold bounds at h
   split at h
   · cases h
   · split at h
     · cases h
     · rename_i l' hl'
       cases h
       simp [bounds_len hl']
structure FOk (F:Fm):Prop where
 ints:F.ints≤32
 bools:F.bools≤1024
 atoms:F.atoms.length≤F.bools
 at':∀ d ∈ F.atoms,0≤d.1∧d.1 < F.ints∧0≤d.2.1∧d.2.1 < F.ints∧d.1 ≠ d.2.1∧-1048576≤d.2.2∧d.2.2≤1048576
 cl:∀ c ∈ F.clauses,∀ x ∈ c,LitN F.bools x
 cn:F.clauses.length≤32768
theorem FOk.bound {F:Fm} (h:FOk F) {x:Int} {d:Dif} (hb:bound F x=some d):DOk F.ints d∧dX d ≠ dY d:=by
 unfold Go.Sv.bound at hb
 split at hb
 · cases hb
 · split at hb
   · cases hb
   · rename_i a b c hat
     obtain ⟨q1,q2,q3,q4,q5,q6,q7⟩:=h.at' _ (List.mem_of_getElem? hat)
     simp only at q1 q2 q3 q4 q5 q6 q7
     split at hb
     · cases hb
       refine ⟨⟨q1,q2,q3,q4,by dsimp only; omega,by dsimp only; omega⟩,?_⟩
       unfold dX dY; simp only; omega
     · cases hb
       refine ⟨⟨q3,q4,q1,q2,by dsimp only; omega,by dsimp only; omega⟩,?_⟩
       unfold dX dY; simp only; omega
theorem bounds_mem {F:Fm}:∀ {lits:List Int} {l:List Dif},bounds F lits=some l→∀ d ∈ l,∃ x ∈ lits,bound F x=some d
 | [],l,h,d,hd => by simp only [bounds,Option.some.injEq] at h; subst h; simp at hd
 | y :: t,l,h,d,hd => by
   unfold bounds at h
   split at h
   · cases h
   · rename_i d' hd'
     split at h
     · cases h
     · rename_i l' hl'
       cases h
       rcases List.mem_cons.1 hd with rfl | hd
       · exact ⟨y,List.mem_cons_self,hd'⟩
       · obtain ⟨x,h1,h2⟩:=bounds_mem hl' d hd
         exact ⟨x,List.mem_cons_of_mem _ h1,h2⟩
theorem RGood.ofCyc {F:Fm} {n:Nat} {cs:List (List Int)} {cyc out:List Int} (hc:cyclic F cyc=some out) (hl:∀ x ∈ cyc,LitN n x):RGood F n cs ⟨out,-1,cyc⟩:=by
 have hc':=hc
 unfold cyclic at hc'
 split at hc'
 · cases hc'
 · split at hc'
   · obtain ⟨h1,h2,h3⟩:=norm_some hc'
     have hlit:∀ x ∈ out,LitN n x:=by
       intro x hx
       obtain ⟨y,hy,rfl⟩:=List.mem_map.1 ((h2 x).1 hx)
       exact (hl y hy).neg
     refine ⟨hlit,?_,fun h => by dsimp only at h; omega,fun _ => ⟨out,hc,fun _ => Iff.rfl⟩⟩
     refine List.Pairwise.imp_of_mem ?_ h1
     intro a b ha hb hab
     have:=(hlit a ha).1
     have:=(hlit b hb).1
     unfold vr; omega
   · cases hc'
theorem getD_mem {lits:List Int} {l:List Dif} (hll:l.length=lits.length) {j:Int} (h:0≤j∧j < l.length):lits.getD j.toNat 0 ∈ lits:=by
 have:j.toNat < lits.length:=by omega
 rw [List.getD_eq_getElem?_getD,List.getElem?_eq_getElem this]
 exact List.getElem_mem _
theorem theory_imp {F:Fm} {n:Nat} {value:List Int} {level:List Nat} {trail:List Int} {limits:List Nat} (hT:Tr n value level trail limits) {lits:List Int} {l:List Dif} (hb:bounds F lits=some l) (hsub:∀ x ∈ lits,x ∈ trail) {js:List Int} (hj:∀ j ∈ js,0≤j∧j < l.length) (hjl:js.length≤900)
   (hn:n≤1024) {f:Int} (hf:LitN n f) (h1:f ∉ trail) (h2:-f ∉ trail) {a b c:Int} (hbf:bound F (-f)=some (b,a,c)) (hch:chain a b (js.map fun j => l.getD j.toNat (0,0,0))) (hs:sumJ l js + c < 0) :
   ∃ out,norm ([f] ++ (js.map fun i => lits.getD i.toNat 0).map (- ·))=some out∧cyclic F (-f :: js.map fun i => lits.getD i.toNat 0)=some out∧f ∈ out∧∀ y ∈ out,y ≠ f→-y ∈ trail:=by
 have hll:=bounds_len hb
 have hp:∀ y ∈ js.map (fun i => lits.getD i.toNat 0),y ∈ trail:=by
   intro y hy
   obtain ⟨j,hj1,rfl⟩:=List.mem_map.1 hy
   exact hsub _ (getD_mem hll (hj j hj1))
 have hcl:Clean ([f] ++ (js.map fun i => lits.getD i.toNat 0).map (- ·)):=by
   have key:∀ x ∈ [f] ++ (js.map fun i => lits.getD i.toNat 0).map (- ·),x=f ∨ -x ∈ trail:=by
     intro x hx
     rcases List.mem_append.1 hx with hx | hx
     · exact .inl (List.mem_singleton.1 hx)
     · obtain ⟨y,hy,rfl⟩:=List.mem_map.1 hx
       right; rw [Int.neg_neg]; exact hp y hy
   intro x hx
   have hlit:LitN n x:=by
     rcases key x hx with rfl | h
     · exact hf
     · have:=(hT.lit _ h).neg; rwa [Int.neg_neg] at this
   obtain ⟨l1,l2⟩:=hlit
   refine ⟨l1,by unfold minInt; omega,fun hneg => ?_⟩
   rcases key x hx with rfl | h <;> rcases key _ hneg with e | h'
   · omega
   · rw [Int.neg_neg] at h'; exact h1 h'
   · subst e; exact h1 h
   · rw [Int.neg_neg] at h'; exact hT.anti h' h
 obtain ⟨out,ho⟩:=norm_ok hcl
 obtain ⟨_,o2,_⟩:=norm_some ho
 refine ⟨out,ho,?_,(o2 f).2 (by simp),fun y hy hne => ?_⟩
 · unfold cyclic
   rw [bounds,hbf,bounds_pick hb js (fun j hj' => by have:=hj j hj'; omega)]
   dsimp only
   rw [if_pos ⟨⟨b,⟨rfl,hch⟩,by
     show (List.map _ _).sum < 0
     rw [List.map_cons,List.sum_cons]
     have:=sumJ_sumC l js
     unfold sumC at this
     dsimp only
     omega⟩,by simp; omega⟩]
   rw [List.map_cons,Int.neg_neg]
   exact ho
 · rcases List.mem_append.1 ((o2 y).1 hy) with h | h
   · exact absurd (List.mem_singleton.1 h) hne
   · obtain ⟨z,hz,rfl⟩:=List.mem_map.1 h
     rw [Int.neg_neg]; exact hp z hz
theorem theory_conf {F:Fm} {n:Nat} {value:List Int} {level:List Nat} {trail:List Int} {limits:List Nat} (hT:Tr n value level trail limits) {lits:List Int} {l:List Dif} (hb:bounds F lits=some l) (hsub:∀ x ∈ lits,x ∈ trail) {js:List Int} (hj:∀ j ∈ js,0≤j∧j < l.length) (hjl:js.length≤900)
   (hn:n≤1024) (hr:ring (js.map fun j => l.getD j.toNat (0,0,0))) :
   ∃ out,norm ((js.map fun i => lits.getD i.toNat 0).map (- ·))=some out∧cyclic F (js.map fun i => lits.getD i.toNat 0)=some out∧∀ y ∈ out,-y ∈ trail:=by
 have hll:=bounds_len hb
 have hp:∀ y ∈ js.map (fun i => lits.getD i.toNat 0),y ∈ trail:=by
   intro y hy
   obtain ⟨j,hj1,rfl⟩:=List.mem_map.1 hy
   exact hsub _ (getD_mem hll (hj j hj1))
 have hcl:Clean ((js.map fun i => lits.getD i.toNat 0).map (- ·)):=by
   intro x hx
   obtain ⟨y,hy,rfl⟩:=List.mem_map.1 hx
   obtain ⟨l1,l2⟩:=hT.lit _ (hp y hy)
   refine ⟨by omega,by unfold minInt; omega,fun h => ?_⟩
   obtain ⟨z,hz,e⟩:=List.mem_map.1 h
   have:z=-y:=by omega
   subst this
   exact hT.anti (hp y hy) (hp _ hz)
 obtain ⟨out,ho⟩:=norm_ok hcl
 obtain ⟨_,o2,_⟩:=norm_some ho
 refine ⟨out,ho,?_,fun y hy => ?_⟩
 · unfold cyclic
   rw [bounds_pick hb js (fun j hj' => by have:=hj j hj'; omega)]
   dsimp only
   rw [if_pos ⟨hr,by simp; omega⟩]
   exact ho
 · obtain ⟨z,hz,rfl⟩:=List.mem_map.1 ((o2 y).1 hy)
   rw [Int.neg_neg]; exact hp z hz
theorem bound_pos {F:Fm} {k:Nat} {d:Dif} (h:F.atoms[k]?=some d):bound F ((k:Int) + 1)=some d:=by
 have hv:vr ((k:Int) + 1)=k:=by unfold vr; omega
 unfold bound
 rw [if_neg (by omega),hv,h]
 obtain ⟨a,b,c⟩:=d
 dsimp only
 rw [if_pos (by omega)]
theorem bound_neg {F:Fm} {k:Nat} {a b c:Int} (h:F.atoms[k]?=some (a,b,c)):bound F (-((k:Int) + 1))=some (b,a,-c - 1):=by
 have hv:vr (-((k:Int) + 1))=k:=by unfold vr; omega
 unfold bound
 rw [if_neg (by omega),hv,h]
 dsimp only
 rw [if_neg (by omega)]
theorem vrs_nodup:∀ {l:List Int},(∀ x ∈ l,x ≠ 0)→(∀ pre x post,l=pre ++ x :: post→x ∉ pre∧-x ∉ pre)→(l.map vr).Nodup
 | [],_,_ => List.nodup_nil
 | y :: t,h0,h => by
   rw [List.map_cons,List.nodup_cons]
   refine ⟨fun hm => ?_,vrs_nodup (fun x hx => h0 x (List.mem_cons_of_mem _ hx)) fun pre x post e => ?_⟩
   · obtain ⟨z,hz,e⟩:=List.mem_map.1 hm
     obtain ⟨pre,post,e2⟩:=List.append_of_mem hz
     obtain ⟨q1,q2⟩:=h (y :: pre) z post (by rw [e2]; rfl)
     rcases vr_eq (h0 z (List.mem_cons_of_mem _ hz)) (h0 y List.mem_cons_self) e with rfl | rfl
     · exact q1 List.mem_cons_self
     · exact q2 List.mem_cons_self
   · obtain ⟨q1,q2⟩:=h (y :: pre) x post (by rw [e]; rfl)
     exact ⟨fun hm => q1 (List.mem_cons_of_mem _ hm),fun hm => q2 (List.mem_cons_of_mem _ hm)⟩
theorem Tr.vrs {n:Nat} {value:List Int} {level:List Nat} {trail:List Int} {limits:List Nat} (h:Tr n value level trail limits):(trail.map vr).Nodup:=vrs_nodup (fun x hx => (h.lit x hx).1) h.dis
theorem Tr.len_le {n:Nat} {value:List Int} {level:List Nat} {trail:List Int} {limits:List Nat} (h:Tr n value level trail limits):trail.length≤n:=by
 have:=h.vrs.length_le_of_subset (l₂:=List.range n) fun v hv => by
   obtain ⟨x,hx,rfl⟩:=List.mem_map.1 hv
   exact List.mem_range.2 (h.lit x hx).vr_lt
 simpa using this
end Go.Sv
namespace Go.Proofs.Ythfnjogadngfiaa
open Go.Sl Go.Sv
theorem t50:sizeT prog 50=some 3∧bytesT prog 50=some 24∧zeroT prog 50=some (.agg #[.int .i64 0,.int .i64 0,.int .i64 0]):=⟨by kernel_rfl,by kernel_rfl,by kernel_rfl⟩
def dcells (d:Dif):List Value:=[.int .i64 d.1,.int .i64 d.2.1,.int .i64 d.2.2]
def difV (l:List Dif):List Value:=l.flatMap dcells
theorem difV_len:∀ (l:List Dif),(difV l).length=l.length * 3
 | [] => rfl
 | d :: l => by unfold difV; rw [List.flatMap_cons,List.length_append]; have:=difV_len l; unfold difV at this; rw [this]; simp [dcells]; omega
theorem difV_get:∀ (l:List Dif) (i j:Nat) (d:Dif),l[i]?=some d→j < 3→(difV l)[i * 3 + j]?=(dcells d)[j]?
 | [],i,j,d,h,_ => by simp at h
 | x :: l,0,j,d,h,hj => by
   simp at h; subst h
   unfold difV
   rw [List.flatMap_cons,List.getElem?_append_left (by simp [dcells]; omega)]
   simp
 | x :: l,i + 1,j,d,h,hj => by
   unfold difV
   rw [List.flatMap_cons,List.getElem?_append_right (by simp [dcells]; omega)]
   have:=difV_get l i j d (by simpa using h) hj
   unfold difV at this
   rw [← this]
   congr 1
   simp [dcells]; omega
theorem addr_nil {b i j:Nat}:((Addr.mk b 0 none).add i).add j=(Addr.mk b 0 none).add (i + j):=by
 rw [add_off,add_off,add_off]; congr 1; omega
theorem own_atoms {σ:PH} {a:Option Addr} {n c:Nat} {l:List Dif} (o:Own σ 50 3 a n c (difV l)):Atoms σ a n l:=by
 have hlen:=o.len
 rw [difV_len] at hlen
 refine ⟨by omega,fun i d hd => ?_⟩
 have g:∀ j (v:Value),(dcells d)[j]?=some v→j < 3→∃ p,a=some p∧σ.cell? (p.add (i * 3 + j))=some v:=fun j v hv hj => o.get (by rw [difV_get l i j d hd hj]; exact hv)
 obtain ⟨p,hp,h0⟩:=g 0 _ rfl (by omega)
 obtain ⟨p1,hp1,h1⟩:=g 1 _ rfl (by omega)
 obtain ⟨p2,hp2,h2⟩:=g 2 _ rfl (by omega)
 rw [hp] at hp1 hp2; cases hp1; cases hp2
 have:∃ b,p=⟨b,0,none⟩:=by
   rcases o.row with ⟨h,_⟩ | ⟨b,arr,h,_⟩
   · rw [hp] at h; cases h
   · rw [hp] at h; cases h; exact ⟨b,rfl⟩
 obtain ⟨b,rfl⟩:=this
 exact ⟨_,hp,h0,by rw [addr_nil]; exact h1,by rw [addr_nil]; exact h2⟩
structure Col (σ υ:PH) (sl:Sli) (l:List Dif) (si:Sli) (lits:List Int):Prop where
 sub:σ.sub υ
 ol:Own υ 50 3 sl.a sl.n sl.c (difV l)
 oi:Own υ 3 1 si.a si.n si.c (ints lits)
 nl:∀ p,sl.a=some p→σ p.block=none
 ni:∀ p,si.a=some p→σ p.block=none
 ne:∀ p q,sl.a=some p→si.a=some q→p.block ≠ q.block
theorem Col.grow {σ υ τ:PH} {sl:Sli} {l:List Dif} {si:Sli} {lits:List Int} (h:Col σ υ sl l si lits) (hs:υ.sub τ):Col σ τ sl l si lits :=
 ⟨h.sub.trans hs,h.ol.keep (M:=fun _ => False) hs.step fun _ _ h => h,h.oi.keep (M:=fun _ => False) hs.step fun _ _ h => h,h.nl,h.ni,h.ne⟩
theorem new_of {σ υ:PH} (h:σ.sub υ) {b:Nat} (hb:υ b=none):σ b=none:=by
 cases hσ:σ b with
 | none => rfl
 | some o => rw [h _ _ hσ] at hb; cases hb
theorem Col.push {σ υ:PH} {sl:Sli} {l:List Dif} {si:Sli} {lits:List Int} (h:Col σ υ sl l si lits) (d:Dif) (x:Int) (hn1:l.length≤1000000) (hn2:lits.length≤1000000) {b:Nat} (hb:υ b=none) {R:Sli→Sli→PH→Prop}
   (hR:∀ sl' si' τ,Col σ τ sl' (l ++ [d]) si' (lits ++ [x])→R sl' si' τ) :
   iappend prog 50 (.slice sl.a sl.n sl.c) (.slice (some ⟨b,0,none⟩) 1 1) (fun v τ => ∃ (a:Option Addr) (n c:Nat),v=(.slice a n c)∧∀ b2:Nat,τ b2=none→iappend prog 3 (.slice si.a si.n si.c) (.slice (some ⟨b2,0,none⟩) 1 1) (fun v τ => ∃ (a':Option Addr) (n' c':Nat),v=(.slice a' n' c')∧R ⟨a,n,c⟩ ⟨a',n',c'⟩ τ) (PH.set τ b2 (.cells #[(.int .i64 x)] 3))) (PH.set υ b (.cells #[.int .i64 d.1,.int .i64 d.2.1,.int .i64 d.2.2] 50)):=by
 have l1:=h.ol.len
 rw [difV_len] at l1
 have l2:=own_len h.oi
 refine pushRow t50.1 t50.2.1 t50.2.2 rfl (by decide) h.ol hb (news:=[.int .i64 d.1,.int .i64 d.2.1,.int .i64 d.2.2]) rfl ?_ (by omega) ?_
 · intro v hv
   simp at hv
   rcases hv with rfl | rfl | rfl <;> trivial
 · intro a c τ hO hst hnew
   refine ⟨_,_,_,rfl,fun b2 hb2 => ?_⟩
   have hsτ:σ.sub τ:=sub_step_new h.sub hst (by rintro q ⟨p,h1,rfl⟩; exact h.nl p h1)
   have hi:Own τ 3 1 si.a si.n si.c (ints lits):=h.oi.keep hst (by rintro p hp ⟨q,h1,h2⟩; exact h.ne q p h1 hp h2.symm)
   have hna:∀ p,a=some p→σ p.block=none∧∀ q,si.a=some q→p.block ≠ q.block:=by
     intro p hp
     rcases hnew p hp with ⟨p',h1,h2⟩ | h1
     · rw [h2]; exact ⟨h.nl p' h1,fun q hq => h.ne p' q h1 hq⟩
     · exact ⟨new_of h.sub h1,fun q hq e => h.oi.known hq (e ▸ h1)⟩
   refine pushRow t3.1 t3.2.1 t3.2.2 rfl (by decide) hi hb2 (news:=[.int .i64 x]) rfl ?_ (by omega) ?_
   · intro v hv; simp at hv; subst hv; trivial
   · intro a' c' τ' hO' hst' hnew'
     refine ⟨_,_,_,rfl,hR _ _ _ ⟨sub_step_new hsτ hst' (by rintro q ⟨p,h1,rfl⟩; exact h.ni p h1),?_,by simpa [ints] using hO',fun p hp => (hna p hp).1,fun p hp => ?_,fun p q hp hq => ?_⟩⟩
     · have:=hO.keep hst' (by rintro p hp ⟨q,h1,h2⟩; exact (hna p hp).2 q h1 h2)
       simpa [difV,dcells] using this
     · rcases hnew' p hp with ⟨p',h1,h2⟩ | h1
       · rw [h2]; exact h.ni p' h1
       · exact new_of hsτ h1
     · rcases hnew' q hq with ⟨q',h1,h2⟩ | h1
       · rw [h2]; exact (hna p hp).2 q' h1
       · exact fun e => hO.known hp (e ▸ h1)
theorem Rep.frm {σ:PH} {T:Nat→Tag} {s:Nat} {v0 v1 v2 v3:Value} {st:St} (h:Rep σ T s [v0,v1,v2,v3] st):σ.cell? (ptr s)=some v0∧σ.cell? ((ptr s).add 1)=some v1∧σ.cell? ((ptr s).add 2)=some v2∧σ.cell? ((ptr s).add 3)=some v3:=by
 obtain ⟨g,H,hff,A⟩:=h
 obtain ⟨c0,c1,c2,c3⟩:=cellsOf_ff hff
 exact ⟨H.blk.get c0,H.blk.get c1,H.blk.get c2,H.blk.get c3⟩
end Go.Proofs.Ythfnjogadngfiaa
