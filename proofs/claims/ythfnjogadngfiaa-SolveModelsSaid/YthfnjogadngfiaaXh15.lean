/- SolveModels answers true at every input that the row lets in; no condition beyond the row's own. -/
import Derived.ChangeArms
import Derived.ChangeSlices
import Derived.DataReads
import Derived.OpenShut
import Derived.WalkKit
import Derived.ProofKit
import Derived.ShutString
import Derived.ChangeOld
import Derived.Below
import Derived.Carry
import Derived.SizedLaws
import Derived.Test.YthfnjogadngfiaaRows
import Derived.Test.YthfnjogadngfiaaXh14
set_option maxRecDepth 100000
set_option linter.unusedVariables false
set_option linter.unusedSimpArgs false
namespace Go.Sv
theorem litT_neg {bl:List Bool} {y:Int} (hy:y ≠ 0):litT bl (-y) ↔ ¬ litT bl y:=by
 unfold litT
 by_cases h:0 < y
 · rw [if_pos h,if_neg (by omega),Int.neg_neg]; simp
 · rw [if_neg h,if_pos (by omega)]; simp
theorem bound_sat {F:Fm} {bl:List Bool} {x:Nat→Int} (hM:SatM F bl x) {y:Int} {d:Dif} (hb:bound F y=some d) (hy:litT bl y):x (dX d) - x (dY d)≤d.2.2:=by
 unfold bound at hb
 split at hb
 · cases hb
 · rename_i h0
   split at hb
   · cases hb
   · rename_i a b c hat
     have:=hM.at' _ _ hat
     split at hb
     · rename_i hp
       cases hb
       unfold litT at hy
       rw [if_pos hp,show (y - 1).toNat=vr y from by unfold vr; omega] at hy
       exact this.1 hy
     · rename_i hp
       cases hb
       unfold litT at hy
       rw [if_neg hp,show (-y - 1).toNat=vr y from by unfold vr; omega] at hy
       have hn:¬ (x (dX (a,b,c)) - x (dY (a,b,c))≤c):=fun h => by
         have:=this.2 h
         rw [hy] at this; cases this
       have e1:dX (b,a,-c - 1)=dY (a,b,c):=rfl
       have e2:dY (b,a,-c - 1)=dX (a,b,c):=rfl
       rw [e1,e2]
       show _≤-c - 1
       omega
theorem sound {F:Fm} (hF:FOk F) {bl:List Bool} {x:Nat→Int} (hM:SatM F bl x) {l:List PStep} {cs:List (List Int)} (h:stepsOf F l=some cs):∀ (i:Nat) c,cs[i]?=some c→∃ y ∈ c,litT bl y:=by
 obtain ⟨hlen,hat⟩:=stepsOf_pre h
 have hlit:=steps_lit hF h
 intro i
 induction i using Nat.strongRecOn with
 | ind i ih =>
   intro c hc
   have hi:=(List.getElem?_eq_some_iff.1 hc).1
   obtain ⟨s,hs⟩:∃ s,l[i]?=some s:=⟨_,List.getElem?_eq_getElem (by omega)⟩
   obtain ⟨c',q1,q2⟩:=hat i s hs
   rw [hc] at q1; cases q1
   have fin:∀ {d:List Int},norm d=some c→(∃ y ∈ d,litT bl y)→∃ y ∈ c,litT bl y:=fun hd ⟨y,h1,h2⟩ => by
     obtain ⟨_,hm,_⟩:=norm_some hd
     exact ⟨y,(hm y).2 h1,h2⟩
   unfold stepClause at q2
   split at q2
   · split at q2
     · split at q2
       · rename_i d hd
         exact fin q2 (hM.cl d (List.mem_of_getElem? hd))
       · cases q2
     · cases q2
   · split at q2
     · obtain ⟨h1,h2⟩:=cyclic_litN hF q2
       refine fin h2 ?_
       apply Classical.byContradiction
       intro hne
       have hall:∀ y ∈ s.lits,litT bl y:=by
         intro y hy
         apply Classical.byContradiction
         intro hny
         exact hne ⟨-y,List.mem_map.2 ⟨y,hy,rfl⟩,(litT_neg (h1 y hy).1).2 hny⟩
       unfold cyclic at q2
       split at q2
       · cases q2
       · rename_i lb hb
         split at q2
         · rename_i hr
           refine ring_false (x:=x) hr.1 fun d hd => ?_
           obtain ⟨y,hy1,hy2⟩:=bounds_mem hb d hd
           exact bound_sat hM hy2 (hall y hy1)
         · cases q2
     · split at q2
       · split at q2
         · split at q2
           · rename_i a b ha hb
             rw [List.getElem?_take] at ha hb
             split at ha
             · rename_i hp
               split at hb
               · rename_i hq
                 refine fin (resolvent_some q2) ?_
                 obtain ⟨y,y1,y2⟩:=ih _ hp a ha
                 obtain ⟨z,z1,z2⟩:=ih _ hq b hb
                 by_cases hy:y=s.v + 1
                 · have hz:z ≠ -(s.v + 1):=by
                     intro hz
                     rw [hz] at z2
                     rw [hy] at y2
                     have h0:s.v + 1 ≠ 0:=by
                       have:=((hlit _ a ha).2 y y1).1
                       omega
                     exact (litT_neg h0).1 z2 y2
                   exact ⟨z,List.mem_append_right _ (List.mem_filter.2 ⟨z1,by simpa using hz⟩),z2⟩
                 · exact ⟨y,List.mem_append_left _ (List.mem_filter.2 ⟨y1,by simpa using hy⟩),y2⟩
               · cases hb
             · cases ha
           · cases q2
         · cases q2
       · cases q2
theorem sound_no {F:Fm} (hF:FOk F) {bl:List Bool} {x:Nat→Int} (hM:SatM F bl x) {l:List PStep} {cs:List (List Int)} (h:stepsOf F l=some cs) (hl:cs.getLast?=some []):False:=by
 rw [List.getLast?_eq_getElem?] at hl
 obtain ⟨y,hy,_⟩:=sound hF hM h _ _ hl
 simp at hy
end Go.Sv
namespace Go.Proofs.Ythfnjogadngfiaa
open Go.Sl Go.Sv
def aw1:Fm:=⟨0,3,[],[[-1,2],[-2,3]]⟩
def aw2:Fm:=⟨2,2,[(0,1,-1),(1,0,-1)],[[1],[2]]⟩
def aw3:Fm:=⟨2,2,[(0,1,-1),(1,0,-1)],[[1]]⟩
theorem aw1_ok:FOk aw1:=by
 refine ⟨by decide,by decide,by decide,by decide,?_,by decide⟩
 unfold LitN; decide
theorem aw2_ok:FOk aw2:=by
 refine ⟨by decide,by decide,by decide,by decide,?_,by decide⟩
 unfold LitN; decide
theorem aw3_ok:FOk aw3:=by
 refine ⟨by decide,by decide,by decide,by decide,?_,by decide⟩
 unfold LitN; decide
theorem aw_r1:roundP aw1.clauses [1,0,0] false=some ([1,1,1],true):=by decide
theorem aw_r2:roundP aw1.clauses [1,1,1] false=some ([1,1,1],false):=by decide
theorem aw_prop:∀ {r},PropR aw1.clauses [1,0,0] r→r=some [1,1,1]:=by
 have h2:∀ {r},PropR aw1.clauses [1,1,1] r→r=some [1,1,1]:=by
   intro r h
   cases h with
   | stop h => rw [aw_r2] at h; cases h
   | done h => rw [aw_r2] at h; cases h; rfl
   | go h _ => rw [aw_r2] at h; cases h
 intro r h
 cases h with
 | stop h => rw [aw_r1] at h; cases h
 | done h => rw [aw_r1] at h; cases h
 | go h hr => rw [aw_r1] at h; cases h; exact h2 hr
theorem aw2_no {bl:List Bool} {x:Nat→Int} (h:SatM aw2 bl x):False:=by
 obtain ⟨y,hy,h1⟩:=h.cl [1] (by decide)
 obtain ⟨z,hz,h2⟩:=h.cl [2] (by decide)
 simp at hy hz
 subst hy; subst hz
 have a0:=(h.at' 0 (0,1,-1) rfl).1 (by unfold litT at h1; simpa using h1)
 have a1:=(h.at' 1 (1,0,-1) rfl).1 (by unfold litT at h2; simpa using h2)
 have e0:dX (0,1,-1)=0:=rfl
 have e1:dY (0,1,-1)=1:=rfl
 have e2:dX (1,0,-1)=1:=rfl
 have e3:dY (1,0,-1)=0:=rfl
 rw [e0,e1] at a0
 rw [e2,e3] at a1
 dsimp only at a0 a1
 omega
theorem aw3_sat:SatM aw3 [true,false] (fun v => if v=0 then -1 else 0):=by
 refine ⟨rfl,fun c hc => ?_,fun i d hd => ?_,fun v _ => ?_⟩
 · have:c=[1]:=by simpa [aw3] using hc
   subst this
   exact ⟨1,by simp,by unfold litT; decide⟩
 · match i,hd with
   | 0,hd => cases hd; decide
   | 1,hd => cases hd; decide
   | i + 2,hd => simp [aw3] at hd
 · show _≤(if v=0 then (-1:Int) else 0)∧(if v=0 then (-1:Int) else 0)≤0
   split <;> omega
theorem blk_ints {ω:PH} {b:Nat} {l:List Int} {n:Nat} (h:Blk ω b 3 (ints l)) (hn:l.length=n):Ints ω (some (ptr b)) n l:=⟨hn,.inr ⟨_,rfl,fun i v hv => h.get hv⟩⟩
theorem c20 {σ:PH} {Q:Value→PH→Prop} (hQ:∀ τ,σ.sub τ→Q (.bool true) τ):C 20 #[] Q σ:=by
 refine go (E20_0 _ _ _) ?_
 unfold S20_0
 have e0:∀ b:Nat,(Addr.mk b 0 none).add 0=⟨b,0,none⟩:=fun b => rfl
 intro b1 h1
 have s1:=PH.sub_set (o:=.cells #[.int .i64 (-1),.int .i64 2] 3) h1
 have k1:Blk (σ.set b1 (.cells #[.int .i64 (-1),.int .i64 2] 3)) b1 3 (ints [-1,2]):=set_self
 generalize σ.set b1 (.cells #[.int .i64 (-1),.int .i64 2] 3)=ω1 at *
 intro b2 h2
 have s2:=PH.sub_set (o:=.cells #[.int .i64 (-2),.int .i64 3] 3) h2
 have k2:Blk (ω1.set b2 (.cells #[.int .i64 (-2),.int .i64 3] 3)) b2 3 (ints [-2,3]):=set_self
 generalize ω1.set b2 (.cells #[.int .i64 (-2),.int .i64 3] 3)=ω2 at *
 intro b3 h3
 have s3:=PH.sub_set (o:=.cells #[.slice (some ⟨b1,0,none⟩) 2 2,.slice (some ⟨b2,0,none⟩) 2 2] 33) h3
 have k3:Blk (ω2.set b3 (.cells #[.slice (some ⟨b1,0,none⟩) 2 2,.slice (some ⟨b2,0,none⟩) 2 2] 33)) b3 33 [.slice (some (ptr b1)) 2 2,.slice (some (ptr b2)) 2 2]:=set_self
 generalize ω2.set b3 (.cells #[.slice (some ⟨b1,0,none⟩) 2 2,.slice (some ⟨b2,0,none⟩) 2 2] 33)=ω3 at *
 intro b4 h4
 have s4:=PH.sub_set (o:=.cells #[.int .i64 1] 3) h4
 have k4:Blk (ω3.set b4 (.cells #[.int .i64 1] 3)) b4 3 (ints [1]):=set_self
 generalize ω3.set b4 (.cells #[.int .i64 1] 3)=ω4 at *
 have sub4:=((s1.trans s2).trans s3).trans s4
 have L1:Lists ω4 (some (ptr b3)) 2 aw1.clauses:=by
   refine ⟨rfl,fun i c hc => ?_⟩
   match i,hc with
   | 0,hc => cases hc; exact ⟨_,_,_,_,rfl,s4.cell (k3.get (i:=0) rfl),blk_ints (s4 _ _ (s3 _ _ (s2 _ _ k1))) rfl,Nat.le_refl _⟩
   | 1,hc => cases hc; exact ⟨_,_,_,_,rfl,s4.cell (k3.get (i:=1) rfl),blk_ints (s4 _ _ (s3 _ _ k2)) rfl,Nat.le_refl _⟩
   | i + 2,hc => simp [aw1] at hc
 have hset:setAll (List.replicate aw1.bools 0) [1]=some [1,0,0]:=by decide
 refine c25 (F:=aw1) aw1_ok (by decide) L1 (blk_ints k4 rfl) (by decide) (fun h => ?_) (fun v val υ7 sl hv hp hs7 hO7 hnew7 => ?_) (fun v hv => ?_)
 · exfalso
   rcases h with h | ⟨v,hv,hp⟩
   · rw [hset] at h; cases h
   · rw [hset] at hv; cases hv
     have:=aw_prop hp; cases this
 rotate_left
 · rw [hset] at hv; cases hv
   exact ⟨_,.go aw_r1 (.done aw_r2)⟩
 rw [hset] at hv; cases hv
 have hval:=aw_prop hp
 cases hval
 have hl123:litsTo [1,1,1] aw1.bools=[1,2,3]:=by decide
 rw [hl123] at hO7
 refine ⟨υ7,.refl _,_,_,_,_,rfl,?_⟩
 have σ7:=sub4.trans hs7
 have I7:=own_ints hO7
 intro b12 h12
 have s12:=PH.sub_set (o:=.cells #[.int .i64 0,.int .i64 1,.int .i64 (-1),.int .i64 1,.int .i64 0,.int .i64 (-1)] 50) h12
 have k12:Blk (υ7.set b12 (.cells #[.int .i64 0,.int .i64 1,.int .i64 (-1),.int .i64 1,.int .i64 0,.int .i64 (-1)] 50)) b12 50 (difV [(0,1,-1),(1,0,-1)]):=set_self
 generalize υ7.set b12 (.cells #[.int .i64 0,.int .i64 1,.int .i64 (-1),.int .i64 1,.int .i64 0,.int .i64 (-1)] 50)=ω12 at *
 intro b13 h13
 have s13:=PH.sub_set (o:=.cells #[.int .i64 1] 3) h13
 have k13:Blk (ω12.set b13 (.cells #[.int .i64 1] 3)) b13 3 (ints [1]):=set_self
 generalize ω12.set b13 (.cells #[.int .i64 1] 3)=ω13 at *
 intro b14 h14
 have s14:=PH.sub_set (o:=.cells #[.int .i64 2] 3) h14
 have k14:Blk (ω13.set b14 (.cells #[.int .i64 2] 3)) b14 3 (ints [2]):=set_self
 generalize ω13.set b14 (.cells #[.int .i64 2] 3)=ω14 at *
 intro b15 h15
 have s15:=PH.sub_set (o:=.cells #[.slice (some ⟨b13,0,none⟩) 1 1,.slice (some ⟨b14,0,none⟩) 1 1] 33) h15
 have k15:Blk (ω14.set b15 (.cells #[.slice (some ⟨b13,0,none⟩) 1 1,.slice (some ⟨b14,0,none⟩) 1 1] 33)) b15 33 [.slice (some (ptr b13)) 1 1,.slice (some (ptr b14)) 1 1]:=set_self
 generalize ω14.set b15 (.cells #[.slice (some ⟨b13,0,none⟩) 1 1,.slice (some ⟨b14,0,none⟩) 1 1] 33)=ω15 at *
 intro b16 h16
 simp only [newSet,newSet0,newCell,newCell0,newFroz,newFroz0,List.setIfInBounds_toArray,List.set_cons_zero,List.set_cons_succ,List.getElem?_toArray,List.getElem?_cons_zero,List.getElem?_cons_succ,Option.some.injEq,exists_eq',true_and,exists_eq_left']
 have s16:=PH.sub_set (o:=.cells #[.int .i64 2,.int .i64 2,.slice (some ⟨b12,0,none⟩) 2 2,.slice (some ⟨b15,0,none⟩) 2 2] 29) h16
 have k16:Blk (ω15.set b16 (.cells #[.int .i64 2,.int .i64 2,.slice (some ⟨b12,0,none⟩) 2 2,.slice (some ⟨b15,0,none⟩) 2 2] 29)) b16 29 [.int .i64 2,.int .i64 2,.slice (some (ptr b12)) 2 2,.slice (some (ptr b15)) 2 2]:=set_self
 generalize ω15.set b16 (.cells #[.int .i64 2,.int .i64 2,.slice (some ⟨b12,0,none⟩) 2 2,.slice (some ⟨b15,0,none⟩) 2 2] 29)=ω16 at *
 have s715:=((s12.trans s13).trans s14).trans s15
 have A2:Atoms ω15 (some (ptr b12)) 2 aw2.atoms:=(own_atoms (n:=2) (c:=2) ⟨rfl,Nat.le_refl _,.inr ⟨b12,_,rfl,k12,rfl,rfl⟩⟩).sub ((s13.trans s14).trans s15)
 have L2:Lists ω15 (some (ptr b15)) 2 aw2.clauses:=by
   refine ⟨rfl,fun i c hc => ?_⟩
   match i,hc with
   | 0,hc => cases hc; exact ⟨_,_,_,_,rfl,k15.get (i:=0) rfl,blk_ints (s15 _ _ (s14 _ _ k13)) rfl,Nat.le_refl _⟩
   | 1,hc => cases hc; exact ⟨_,_,_,_,rfl,k15.get (i:=1) rfl,blk_ints (s15 _ _ k14) rfl,Nat.le_refl _⟩
   | i + 2,hc => simp [aw2] at hc
 have n16:υ7 b16=none:=new_of s715 h16
 refine ⟨_,_,_,_,_,_,_,_,rfl,?_⟩
 refine c17 (F:=aw2) aw2_ok (by decide) (by decide) (A2.sub s16) (L2.sub s16) (Nat.le_refl _) (Nat.le_refl _) (fun τ b X bl x _ _ _ hM => (aw2_no hM).elim) fun υ35 a n c ps cs hs35 _ _ _ _ _ => ?_
 refine ⟨υ35,.refl _,_,_,_,_,_,_,_,_,_,_,rfl,?_⟩
 intro b46 h46
 have k16a:Blk υ35 b16 29 [.int .i64 2,.int .i64 2,.slice (some (ptr b12)) 2 2,.slice (some (ptr b15)) 2 2]:=hs35 _ _ k16
 have s46:=PH.sub_set (o:=.cells #[.slice none 0 0,.slice none 0 0] 35) h46
 generalize υ35.set b46 (.cells #[.slice none 0 0,.slice none 0 0] 35)=ω46 at *
 have k16b:Blk ω46 b16 29 [.int .i64 2,.int .i64 2,.slice (some (ptr b12)) 2 2,.slice (some (ptr b15)) 2 2]:=s46 _ _ k16a
 have st:Step (·=b16) ω46 (ω46.setCell ((ptr b16).add 3) (.slice (some (ptr b15)) (Int.toNat 1) 2)):=setCell_step.weaken fun b hb => hb.trans (add_block _ _)
 have k16c:=k16b.set 3 (.slice (some (ptr b15)) (Int.toNat 1) 2)
 have s1546:ω15.sub ω46:=(s16.trans hs35).trans s46
 have sN:ω15.sub (ω46.setCell ((ptr b16).add 3) (.slice (some (ptr b15)) (Int.toNat 1) 2)):=sub_step_new s1546 st (by rintro b rfl; exact h16)
 refine ⟨_,k16b.get (i:=3) rfl,_,_,_,rfl,by omega,by omega,⟨_,k16b.get (i:=3) rfl⟩,k16b.froz 3,?_⟩
 have g0:=k16c.get (i:=0) rfl
 rw [e0] at g0
 refine ⟨_,g0,_,k16c.get (i:=1) rfl,_,k16c.get (i:=2) rfl,_,k16c.get (i:=3) rfl,_,_,_,_,_,_,_,_,rfl,?_⟩
 have L3:Lists ω15 (some (ptr b15)) 1 aw3.clauses:=by
   refine ⟨rfl,fun i c hc => ?_⟩
   match i,hc with
   | 0,hc => cases hc; exact ⟨_,_,_,_,rfl,k15.get (i:=0) rfl,blk_ints (s15 _ _ (s14 _ _ k13)) rfl,Nat.le_refl _⟩
   | i + 1,hc => simp [aw3] at hc
 refine c17 (F:=aw3) aw3_ok (by decide) (by decide) (A2.sub sN) (L3.sub sN) (Nat.le_refl _) (by decide) (fun υ68 b X bl x hs68 _ _ _ => ?_) fun τ a n c ps cs _ _ _ hcs hlast _ => (sound_no aw3_ok aw3_sat hcs hlast).elim
 refine ⟨υ68,.refl _,_,_,_,_,_,_,_,_,_,_,rfl,?_⟩
 intro b79 h79
 have s768:υ7.sub υ68:=(s715.trans sN).trans hs68
 refine br_iff.2 ⟨fun _ b82 h82 => ?_,fun h => (by cases h)⟩
 have s79:=PH.sub_set (o:=.cells #[.slice (some (ptr b)) aw3.bools aw3.bools,.slice (some (ptr X)) aw3.ints aw3.ints] 35) h79
 have s82:=PH.sub_set (o:=.cells #[.int .i64 1,.int .i64 2,.int .i64 3] 3) h82
 have s7f:=(s768.trans s79).trans s82
 have k82:Blk ((υ68.set b79 (.cells #[.slice (some (ptr b)) aw3.bools aw3.bools,.slice (some (ptr X)) aw3.ints aw3.ints] 35)).set b82 (.cells #[.int .i64 1,.int .i64 2,.int .i64 3] 3)) b82 3 (ints [1,2,3]):=set_self
 have hn7:=I7.1
 refine (c27 (by unfold Len; simp at hn7; omega) (I7.sub s7f) (blk_ints k82 rfl)).mono hb ?_
 rintro _ τ ⟨rfl,eτ⟩
 obtain rfl:=eτ.symm
 exact ⟨_,.refl _,_,rfl,br_iff.2 ⟨fun _ => br_iff.2 ⟨fun _ => hQ _ (σ7.trans s7f),fun h => (by cases h)⟩,fun h => by simp at h⟩⟩
def Res (τ:PH) (F:Fm) (ma:Option Addr) (mn mc:Nat) (xa:Option Addr) (xn xc:Nat) (la:Option Addr) (ln lc:Nat) (ok:Bool):Prop :=
 (ok=true∧∃ bl x b X,ma=some (ptr b)∧Blk τ b 4 (boolsV bl)∧xa=some (ptr X)∧Blk τ X 3 (ints (tab F.ints x))∧SatM F bl x∧mn=F.bools∧xn=F.ints∧ln=0) ∨
 (ok=false∧∃ ps cs,StepsM τ la ln ps∧ln≤lc∧stepsOf F ps=some cs∧cs.getLast?=some []∧ln≤3500000000000∧ma=none∧mn=0∧mc=0∧xa=none∧xn=0∧xc=0)
theorem Res.sub {σ τ:PH} (hs:σ.sub τ) {F:Fm} {ma:Option Addr} {mn mc:Nat} {xa:Option Addr} {xn xc:Nat} {la:Option Addr} {ln lc:Nat} {ok:Bool} (h:Res σ F ma mn mc xa xn xc la ln lc ok):Res τ F ma mn mc xa xn xc la ln lc ok:=by
 rcases h with ⟨h0,bl,x,b,X,h1,h2,h3,h4,h5⟩ | ⟨h0,ps,cs,h1,h2⟩
 · exact .inl ⟨h0,bl,x,b,X,h1,hs _ _ h2,h3,hs _ _ h4,h5⟩
 · exact .inr ⟨h0,ps,cs,h1.sub hs,h2⟩
theorem Res.unsat {τ:PH} {F:Fm} (hF:FOk F) {ma:Option Addr} {mn mc:Nat} {xa:Option Addr} {xn xc:Nat} {la:Option Addr} {ln lc:Nat} (h:Res τ F ma mn mc xa xn xc la ln lc false) {bl:List Bool} {x:Nat→Int} (hM:SatM F bl x):False:=by
 rcases h with ⟨h,_⟩ | ⟨_,ps,cs,_,_,h1,h2,_⟩
 · cases h
 · exact sound_no hF hM h1 h2
theorem Res.true_of {τ:PH} {F:Fm} (hF:FOk F) {bl:List Bool} {x:Nat→Int} (hM:SatM F bl x) {ma:Option Addr} {mn mc:Nat} {xa:Option Addr} {xn xc:Nat} {la:Option Addr} {ln lc:Nat} {ok:Bool} (h:Res τ F ma mn mc xa xn xc la ln lc ok):ok=true:=by
 cases ok
 · exact (h.unsat hF hM).elim
 · rfl
theorem c17r {F:Fm} {σ:PH} (hF:FOk F) (h40:F.bools≤40) (hlen:∀ c ∈ F.clauses,c.length≤1000000) {aa ca:Option Addr} {an ac cn cc:Nat} (hA:Atoms σ aa an F.atoms) (hL:Lists σ ca cn F.clauses) (ha:an≤ac) (hcc:cn≤cc) {Q:Value→PH→Prop}
   (hQ:∀ τ ma mn mc xa xn xc la ln lc ok,σ.sub τ→Res τ F ma mn mc xa xn xc la ln lc ok→Q (.tuple #[.agg #[.slice ma mn mc,.slice xa xn xc],.slice la ln lc,.bool ok]) τ) :
   C 17 #[.agg #[.int .i64 F.ints,.int .i64 F.bools,.slice aa an ac,.slice ca cn cc]] Q σ:=by
 refine c17 hF h40 hlen hA hL ha hcc (fun τ b X bl x hs kb kX hM => ?_) fun τ a n c ps cs hs hS hnc hcs hlast hn => ?_
 · exact hQ τ _ _ _ _ _ _ _ _ _ _ hs (.inl ⟨rfl,bl,x,b,X,rfl,kb,rfl,kX,hM,rfl,rfl,rfl⟩)
 · exact hQ τ _ _ _ _ _ _ _ _ _ _ hs (.inr ⟨rfl,ps,cs,hS,hnc,hcs,hlast,hn,rfl,rfl,rfl,rfl,rfl,rfl⟩)
theorem c18r {σ:PH} {F:Fm} (hF:FOk F) (hlen:∀ c ∈ F.clauses,c.length≤1000000) {aa ca:Option Addr} {an ac cn cc:Nat} (hA:Atoms σ aa an F.atoms) (hL:Lists σ ca cn F.clauses) {ma:Option Addr} {mn mc:Nat} {xa:Option Addr} {xn xc:Nat} {la:Option Addr} {ln lc:Nat} {ok:Bool} (h:Res σ F ma mn mc xa xn xc la ln lc ok) {Q:Value→PH→Prop} (hQ:∀ τ,σ.sub τ→Q (.bool true) τ) :
   C 18 #[.agg #[.int .i64 F.ints,.int .i64 F.bools,.slice aa an ac,.slice ca cn cc],.agg #[.slice ma mn mc,.slice xa xn xc],.slice la ln lc,.bool ok] Q σ:=by
 rcases h with ⟨rfl,bl,x,b,X,rfl,h1,rfl,h2,h3,rfl,rfl,rfl⟩ | ⟨rfl,ps,cs,h1,h2,h3,h4,h5,rfl,rfl,rfl,rfl,rfl,rfl⟩
 · exact c18sat hF hlen hA hL ⟨h3.len,.inr ⟨_,rfl,fun i v hv => h1.get hv⟩⟩ (blk_ints h2 (by rw [tab_len])) h3 hQ
 · exact c18no hF hlen hA hL h1 h3 h4 h5 hQ
theorem c20' {σ:PH} {Q:Value→PH→Prop} (hQ:∀ τ,σ.sub τ→Q (.bool true) τ):C 20 #[] (fun v τ => ∃ υ:PH,υ.sub τ∧∃ q:Bool,v=.bool q∧Q (.bool q) υ) σ:=c20 fun τ hs => ⟨τ,.refl _,true,rfl,hQ τ hs⟩
theorem FR.kc {φ ω:PH} {A K:Sli} {atoms:List Dif} {cs:List (List Int)} (h:FR φ ω A K atoms cs):K.n≤K.c:=by obtain ⟨vs,o,_⟩:=h.ok; exact o.le
theorem fok_more {F:Fm} (hp:PrOk F) {cs:List (List Int)} (hcl:∀ c ∈ cs,∀ x ∈ c,LitN F.bools x) (hn:cs.length≤1000):FOk ⟨F.ints,F.bools,F.atoms,cs⟩ :=
 ⟨hp.fok.ints,hp.fok.bools,hp.fok.atoms,hp.fok.at',hcl,by show cs.length≤32768; omega⟩
structure I8s (σ:PH) (a:Option Addr) (n:Nat) (l:List Int):Prop where
 len:l.length=n
 row:Row σ a (l.map (.int .i8))
 rng:∀ x ∈ l,-128≤x∧x < 128
theorem I8s.sub {σ τ:PH} (h:σ.sub τ) {a:Option Addr} {n:Nat} {l:List Int} (u:I8s σ a n l):I8s τ a n l:=⟨u.len,u.row.sub h,u.rng⟩
structure MS (φ υ:PH) (b35 b42 b45 b46:Nat) (F:Fm) (A K:Sli) (bl:List Bool) (xs:List Int):Prop where
 fb:FB φ υ b35 F.ints F.bools A K F.atoms F.clauses
 k46:Blk υ b46 35 [.slice (some (ptr b42)) F.bools F.bools,.slice (some (ptr b45)) F.ints F.ints]
 k42:Blk υ b42 4 (boolsV bl)
 k45:Blk υ b45 3 (ints xs)
 l42:bl.length=F.bools
 l45:xs.length=F.ints
 n42:φ b42=none
 n45:φ b45=none
 r45:∀ x ∈ xs,-128≤x∧x < 128
theorem MS.setI {φ υ:PH} {b35 b42 b45 b46:Nat} {F:Fm} {A K:Sli} {bl:List Bool} {xs:List Int} (h:MS φ υ b35 b42 b45 b46 F A K bl xs) (i:Nat) {v:Int} (hv:-128≤v∧v < 128):MS φ (υ.setCell ((ptr b45).add i) (.int .i64 v)) b35 b42 b45 b46 F A K bl (xs.set i v):=by
 have st:Step (·=b45) υ (υ.setCell ((ptr b45).add i) (.int .i64 v)):=setCell_step.weaken fun b hb => hb.trans (add_block _ _)
 refine ⟨h.fb.step1 h.k45 (by decide) h.n45 st,h.k46.keep st (ne_ty h.k46 h.k45 (by decide)),h.k42.keep st (ne_ty h.k42 h.k45 (by decide)),?_,h.l42,by rw [List.length_set]; exact h.l45,h.n42,h.n45,fun x hx => ?_⟩
 · have:=h.k45.set i (.int .i64 v)
   unfold ints at this ⊢
   rwa [List.map_set]
 · rcases List.mem_or_eq_of_mem_set hx with hx | rfl
   · exact h.r45 x hx
   · exact hv
theorem MS.setB {φ υ:PH} {b35 b42 b45 b46:Nat} {F:Fm} {A K:Sli} {bl:List Bool} {xs:List Int} (h:MS φ υ b35 b42 b45 b46 F A K bl xs) (i:Nat) (v:Bool):MS φ (υ.setCell ((ptr b42).add i) (.bool v)) b35 b42 b45 b46 F A K (bl.set i v) xs:=by
 have st:Step (·=b42) υ (υ.setCell ((ptr b42).add i) (.bool v)):=setCell_step.weaken fun b hb => hb.trans (add_block _ _)
 refine ⟨h.fb.step1 h.k42 (by decide) h.n42 st,h.k46.keep st (ne_ty h.k46 h.k42 (by decide)),?_,h.k45.keep st (ne_ty h.k45 h.k42 (by decide)),by rw [List.length_set]; exact h.l42,h.l45,h.n42,h.n45,h.r45⟩
 have:=h.k42.set i (.bool v)
 unfold boolsV at this ⊢
 rwa [List.map_set]
theorem MS.getB {φ υ:PH} {b35 b42 b45 b46:Nat} {F:Fm} {A K:Sli} {bl:List Bool} {xs:List Int} (h:MS φ υ b35 b42 b45 b46 F A K bl xs) {i:Nat} (hi:i < F.bools):υ.cell? ((ptr b42).add i)=some (.bool (bl.getD i false)):=by
 have:=h.l42
 exact h.k42.get (by unfold boolsV; rw [List.getElem?_map,List.getElem?_eq_getElem (by omega),List.getD_eq_getElem?_getD,List.getElem?_eq_getElem (by omega)]; rfl)
theorem MS.getI {φ υ:PH} {b35 b42 b45 b46:Nat} {F:Fm} {A K:Sli} {bl:List Bool} {xs:List Int} (h:MS φ υ b35 b42 b45 b46 F A K bl xs) {i:Nat} (hi:i < F.ints):υ.cell? ((ptr b45).add i)=some (.int .i64 (xs.getD i 0))∧-128≤xs.getD i 0∧xs.getD i 0 < 128:=by
 have:=h.l45
 refine ⟨h.k45.get (by unfold ints; rw [List.getElem?_map,List.getElem?_eq_getElem (by omega),List.getD_eq_getElem?_getD,List.getElem?_eq_getElem (by omega)]; rfl),?_⟩
 exact h.r45 _ (by rw [List.getD_eq_getElem?_getD,List.getElem?_eq_getElem (by omega)]; exact List.getElem_mem _)
def G6a (R3:T6_3→PH→Prop) (l86:Option Addr) (len87 cap88:Nat) (r89 r90:Addr) (x91 x92:Int) (a101:Option Addr) (n102:Nat) (q:Bool) (σ:PH):Prop :=
 ∃ p154,letI h901:PH:=PH.setCell σ (p154.add (x92.toNat * 1)) (.bool q); a101=some p154∧0≤x92∧x92 < (n102:Int)∧(∃ u155,PH.cell? σ (p154.add (x92.toNat * 1))=some u155)∧PH.froz σ (p154.add (x92.toNat * 1))=some false∧∃ v156,PH.cell? h901 (r89.add 2)=some v156∧∃ a157 n158 c159,v156=.slice a157 n158 c159∧br (decide (x92 < (n158:Int))) (∃ v160,PH.cell? h901 r90=some v160∧∃ a161 n162 c163,v160=.slice a161 n162 c163∧∃ v164,PH.cell? h901 (r90.add 1)=some v164∧∃ a165 n166 c167,v164=.slice a165 n166 c167∧∃ v168,PH.cell? h901 (r89.add 2)=some v168∧∃ a169 n170 c171,v168=.slice a169 n170 c171∧∃ p172,a169=some p172∧0≤x92∧x92 < (n170:Int)∧∃ v173,PH.cell? h901 (p172.add (Int.toNat x92 * 3))=some v173∧∃ i174,v173=.int .i64 i174∧∃ p175,a165=some p175∧0≤i174∧i174 < (n166:Int)∧∃ v176,PH.cell? h901 (p175.add (i174.toNat * 1))=some v176∧∃ i177,v176=.int .i64 i177∧∃ v178,PH.cell? h901 (r90.add 1)=some v178∧∃ a179 n180 c181,v178=.slice a179 n180 c181∧∃ v182,PH.cell? h901 (r89.add 2)=some v182∧∃ a183 n184 c185,v182=.slice a183 n184 c185∧∃ p186,a183=some p186∧0≤x92∧x92 < (n184:Int)∧∃ v187,PH.cell? h901 ((p186.add (Int.toNat x92 * 3)).add 1)=some v187∧∃ i188,v187=.int .i64 i188∧∃ p189,a179=some p189∧0≤i188∧i188 < (n180:Int)∧∃ v190,PH.cell? h901 (p189.add (i188.toNat * 1))=some v190∧∃ i191,v190=.int .i64 i191∧∃ v192,PH.cell? h901 (r89.add 2)=some v192∧∃ a193 n194 c195,v192=.slice a193 n194 c195∧∃ p196,a193=some p196∧0≤x92∧x92 < (n194:Int)∧∃ v197,PH.cell? h901 ((p196.add (Int.toNat x92 * 3)).add 2)=some v197∧∃ i198,v197=.int .i64 i198∧∃ p199,a161=some p199∧0≤x92∧x92 < (n162:Int)∧(∃ u200,PH.cell? h901 (p199.add (x92.toNat * 1))=some u200)∧PH.froz h901 (p199.add (x92.toNat * 1))=some false∧R3 (l86,len87,cap88,r89,r90,x91,(IntKind.wrap .i64 (x92 + 1))) (PH.setCell h901 (p199.add (x92.toNat * 1)) (.bool (decide ((IntKind.wrap .i64 (i177 - i191))≤i198))))) (R3 (l86,len87,cap88,r89,r90,x91,(IntKind.wrap .i64 (x92 + 1))) h901)
def AtB (F:Fm) (bl:List Bool) (xs:List Int) (i:Nat):Prop:=∀ (j:Nat) d,j < i→F.atoms[j]?=some d→(bl.getD j false=true ↔ xs.getD (dX d) 0 - xs.getD (dY d) 0≤d.2.2)
theorem AtB.set {F:Fm} {bl:List Bool} {xs:List Int} {i:Nat} (h:AtB F bl xs i) (q:Bool):AtB F (bl.set i q) xs i:=by
 intro j d hj hd
 have e:(bl.set i q).getD j false=bl.getD j false:=by
   rw [List.getD_eq_getElem?_getD,List.getElem?_set,if_neg (by omega),List.getD_eq_getElem?_getD]
 rw [e]
 exact h j d hj hd
theorem g6a {φ υ:PH} {b35 b42 b45 b46:Nat} {F:Fm} {A K:Sli} {bl:List Bool} {xs:List Int} (hp:PrOk F) (h:MS φ υ b35 b42 b45 b46 F A K bl xs) {i:Nat} (hi:i < F.bools) (hAt:AtB F bl xs i) {l86:Option Addr} {len87 cap88:Nat} (q:Bool) {R3:T6_3→PH→Prop}
   (hR:∀ bl' τ,MS φ τ b35 b42 b45 b46 F A K bl' xs→AtB F bl' xs (i + 1)→R3 (l86,len87,cap88,ptr b35,ptr b46,(F.bools:Int),((i + 1:Nat):Int)) τ) :
   G6a R3 l86 len87 cap88 (ptr b35) (ptr b46) (F.bools:Int) (i:Int) (some (ptr b42)) F.bools q υ:=by
 unfold G6a
 have e0:∀ b:Nat,(Addr.mk b 0 none).add 0=⟨b,0,none⟩:=fun b => rfl
 have hpb:=hp.bools
 have wk:IntKind.wrap .i64 ((i:Int) + 1)=((i + 1:Nat):Int):=wnat (by omega)
 have h1:=h.setB i q
 have hAt1:=hAt.set q
 rw [wk,Int.toNat_natCast,Nat.mul_one]
 refine ⟨ptr b42,rfl,by omega,by omega,⟨_,h.getB hi⟩,h.k42.froz i,?_⟩
 generalize υ.setCell ((ptr b42).add i) (.bool q)=υ1 at *
 generalize bl.set i q=bl1 at *
 have han:=h1.fb.an
 refine ⟨_,h1.fb.blk.get (i:=2) rfl,_,_,_,rfl,br_dec.2 ⟨fun hlt => ?_,fun hge => ?_⟩⟩
 · obtain ⟨d,hd⟩:∃ d,F.atoms[i]?=some d:=⟨_,List.getElem?_eq_getElem (by omega)⟩
   have hdm:=List.mem_of_getElem? hd
   obtain ⟨o1,o2,o3,o4,_,_,_⟩:=hp.fok.at' d hdm
   have hdc:=hp.at' d hdm
   obtain ⟨pa,hpa,ca1,ca2,ca3⟩:=h1.fb.atoms.2 i d hd
   have g46:=h1.k46.get (i:=0) rfl
   rw [e0] at g46
   obtain ⟨gx,rx1,rx2⟩:=h1.getI (i:=dX d) (by unfold dX; omega)
   obtain ⟨gy,ry1,ry2⟩:=h1.getI (i:=dY d) (by unfold dY; omega)
   refine ⟨_,g46,_,_,_,rfl,_,h1.k46.get (i:=1) rfl,_,_,_,rfl,_,h1.fb.blk.get (i:=2) rfl,_,_,_,rfl,pa,hpa,by omega,by omega,_,ca1,_,rfl,ptr b45,rfl,o1,by omega,_,by rw [Nat.mul_one]; exact gx,_,rfl,?_⟩
   refine ⟨_,h1.k46.get (i:=1) rfl,_,_,_,rfl,_,h1.fb.blk.get (i:=2) rfl,_,_,_,rfl,pa,hpa,by omega,by omega,_,ca2,_,rfl,ptr b45,rfl,o3,by omega,_,by rw [Nat.mul_one]; exact gy,_,rfl,?_⟩
   refine ⟨_,h1.fb.blk.get (i:=2) rfl,_,_,_,rfl,pa,hpa,by omega,by omega,_,ca3,_,rfl,ptr b42,rfl,by omega,by omega,⟨_,h1.getB hi⟩,h1.k42.froz i,?_⟩
   rw [w64 (n:=xs.getD (dX d) 0 - xs.getD (dY d) 0) (by omega) (by omega)]
   refine hR _ _ (h1.setB i _) fun j d' hj hd' => ?_
   by_cases hji:j=i
   · subst hji
     rw [hd] at hd'; cases hd'
     rw [List.getD_eq_getElem?_getD,List.getElem?_set,if_pos rfl,if_pos (by rw [h1.l42]; exact hi),Option.getD_some,decide_eq_true_eq]
   · exact (hAt1.set _) j d' (by omega) hd'
 · refine hR _ _ h1 fun j d' hj hd' => ?_
   have:j < F.atoms.length:=(List.getElem?_eq_some_iff.1 hd').1
   exact hAt1 j d' (by omega) hd'
theorem holds_litT {n:Nat} {bl:List Bool} (hb:bl.length=n) {y:Int} (hy:LitN n y) (h:holdsB bl y=true):litT bl y:=by
 unfold holdsB at h
 unfold litT
 obtain ⟨h1,h2⟩:=hy
 rw [if_neg (by omega)] at h
 split at h
 · rw [if_pos (by assumption)]; exact h
 · rw [if_neg (by assumption)]; simpa using h
def G6b (R5:T6_5→PH→Prop) (r205 r206:Addr) (l207:Option Addr) (len208 cap209:Nat) (x210 x211:Int) (a221:Option Addr) (n222 c223:Nat) (y:Int) (υ234:PH):Prop :=
 ∃ v245,PH.cell? υ234 (r205.add 3)=some v245∧∃ a246 n247 c248,v245=.slice a246 n247 c248∧(∀ p:Addr,none=some p→¬ p.block=Addr.block (r205.add 3))∧iappend prog 3 (.slice none 0 0) (.slice a221 n222 c223) (fun v249 τ250 => ∃ a251 n252 c253,v249=.slice a251 n252 c253∧∀ b254:Nat,τ250 b254=none→(∀ p:Addr,a251=some p→¬ p.block=Addr.block (r205.add 3))∧iappend prog 3 (.slice a251 n252 c253) (.slice (some ⟨b254,0,none⟩) 1 1) (fun v255 τ256 => ∃ a257 n258 c259,v255=.slice a257 n258 c259∧∃ p260,a246=some p260∧0≤x211∧x211 < (n247:Int)∧(∃ u261,PH.cell? τ256 (p260.add (x211.toNat * 1))=some u261)∧PH.froz τ256 (p260.add (x211.toNat * 1))=some false∧R5 (r205,r206,l207,len208,cap209,x210,(IntKind.wrap .i64 (x211 + 1))) (PH.setCell τ256 (p260.add (x211.toNat * 1)) (.slice a257 n258 c259))) (PH.set τ250 b254 (.cells #[.int .i64 y] 3))) υ234
theorem g6b {φ υ:PH} {f:Nat} {i1 i2:Int} {A K:Sli} {atoms:List Dif} {cs:List (List Int)} (h:FB φ υ f i1 i2 A K atoms cs) {i:Nat} {c:List Int} (hc:cs[i]?=some c) (hcl:c.length≤1000) (hcs:cs.length≤1000) {a221:Option Addr} {n222 c223:Nat} (hO:Own φ 3 1 a221 n222 c223 (ints c)) (y:Int) {r206:Addr} {l207:Option Addr} {len208 cap209:Nat} {x210:Int} {R5:T6_5→PH→Prop}
   (hR:∀ φ' τ,φ.sub φ'→FB φ' τ f i1 i2 A K atoms (cs.set i (c ++ [y]))→R5 (ptr f,r206,l207,len208,cap209,x210,((i + 1:Nat):Int)) τ):G6b R5 (ptr f) r206 l207 len208 cap209 x210 (i:Int) a221 n222 c223 y υ:=by
 unfold G6b
 have hi:i < cs.length:=(List.getElem?_eq_some_iff.1 hc).1
 have hkn:=h.kn
 have wk:IntKind.wrap .i64 ((i:Int) + 1)=((i + 1:Nat):Int):=wnat (by omega)
 rw [wk,Int.toNat_natCast,Nat.mul_one]
 have hOn:=own_len hO
 have hO':Own υ 3 1 a221 n222 c223 (ints c):=hO.keep (M:=fun _ => False) h.sub.step fun _ _ h => h
 refine ⟨_,h.blk.get (i:=3) rfl,_,_,_,rfl,by simp,?_⟩
 refine Own.append t3.1 t3.2.1 t3.2.2 rfl (by decide) (own_nil (σ:=υ) (e:=3) (size:=1)) hO'.reads (by unfold ints; rw [List.length_map]; omega) (fun v hv => by unfold ints at hv; obtain ⟨z,_,rfl⟩:=List.mem_map.1 hv; trivial) (by omega) ?_
 intro a1 c1 τ1 hO1 hst1 hnew1
 rw [List.nil_append,Nat.zero_add] at *
 have s1:υ.sub τ1:=Step.sub (hst1.weaken (by rintro b ⟨p,hp,_⟩; cases hp))
 have h1:=h.sub' s1
 have hnb1:∀ p,a1=some p→υ p.block=none:=by
   rintro p rfl
   rcases hnew1 with h | ⟨b,h,h'⟩
   · cases h
   · cases h'; exact h
 have hn1f:∀ p,a1=some p→¬ p.block=((ptr f).add 3).block:=by
   intro p hp e
   rw [add_block] at e
   have:=hnb1 p hp
   rw [e,h.blk] at this; cases this
 refine ⟨_,_,_,rfl,fun b hb => ⟨hn1f,?_⟩⟩
 refine pushRow t3.1 t3.2.1 t3.2.2 rfl (by decide) hO1 hb (news:=[.int .i64 y]) rfl (by intro v hv; simp at hv; subst hv; trivial) (by omega) ?_
 intro a2 c2 τ2 hO2 hst2 hnew2
 have h2:=h1.keep hst2 (by
   rintro b ⟨p,hp,rfl⟩
   obtain ⟨arr,ha⟩:=hO1.obj hp
   exact ⟨new_of h.sub (hnb1 p hp),ne_ty ha h1.blk (by decide),h1.nA ha (by decide),h1.nK ha (by decide)⟩)
 obtain ⟨φ2,f1,f2,f3,f4⟩:=h2.freeze (fun _ => False) (by simp)
 have e:ints (c ++ [y])=ints c ++ [.int .i64 y]:=by unfold ints; simp
 rw [← e] at hO2
 have hO3:=own_frozen (φ:=φ2) hO2 fun p hp => by
   obtain ⟨arr,ha⟩:=hO2.obj hp
   exact f4 _ (ne_ty ha h2.blk (by decide)) (h2.nA ha (by decide)) (h2.nK ha (by decide)) (fun h => h)
 obtain ⟨p,hp,hcell,hfroz,hst,hpn,hF5⟩:=f2.setClause hO3 (o:=i) hi
 exact ⟨_,_,_,rfl,p,hp,by omega,by omega,hcell,hfroz,hR φ2 _ f1 hF5⟩
theorem c6 {σ:PH} {s0 s1 s2:Int} {a:Option Addr} {n c:Nat} {l:List Int} (hU:U8s σ a n l) (hc:n≤c) (h0:0≤s0∧s0 < 256) (h1:0≤s1∧s1 < 256) (h2:0≤s2∧s2 < 256)
   {a7:Option Addr} {n8 c9:Nat} {l7:List Int} (hU7:I8s σ a7 n8 l7) {a10:Option Addr} {n11 c12:Nat} {l10:List Bool} (hB10:Bools σ a10 n11 l10) {Q:Value→PH→Prop} (hQ:∀ τ,σ.sub τ→Q (.bool true) τ) :
   C 6 #[.agg #[.int .u8 s0,.int .u8 s1,.int .u8 s2,.slice a n c],.slice a7 n8 c9,.slice a10 n11 c12] Q σ:=by
 refine go (E6_0 _ _ _ _ _ _ _ _ _ _ _ _ _ _ _) ?_
 unfold S6_0
 have e0:∀ b:Nat,(Addr.mk b 0 none).add 0=⟨b,0,none⟩:=fun b => rfl
 intro b11 h11
 have s11:=PH.sub_set (o:=.cells #[.int .u8 s0,.int .u8 s1,.int .u8 s2,.slice a n c] 25) h11
 have B11:Blk (σ.set b11 (.cells #[.int .u8 s0,.int .u8 s1,.int .u8 s2,.slice a n c] 25)) b11 25 [.int .u8 s0,.int .u8 s1,.int .u8 s2,.slice a n c]:=set_self
 generalize σ.set b11 (.cells #[.int .u8 s0,.int .u8 s1,.int .u8 s2,.slice a n c] 25)=ω at *
 have g11:=B11.get (i:=0) rfl
 rw [e0] at g11
 refine ⟨_,g11,_,B11.get (i:=1) rfl,_,B11.get (i:=2) rfl,_,B11.get (i:=3) rfl,_,_,_,_,_,_,rfl,?_⟩
 have hp:=probF_ok h0.1 h1.1 h2.1 (hU.take 300).rng
 refine c21 (hU.sub s11) hc h0 h1 h2 fun φ τ A K hφ hR _ _ => ?_
 generalize probF s0 s1 s2 (l.take 300)=F at *
 have hpb:=hp.bools
 have hpi:=hp.ints
 refine ⟨τ,.refl _,_,_,_,_,_,_,_,_,rfl,?_⟩
 intro b35 h35
 simp only [newSet,newSet0,newCell,newCell0,newFroz,newFroz0,List.setIfInBounds_toArray,List.set_cons_zero,List.set_cons_succ,List.getElem?_toArray,List.getElem?_cons_zero,List.getElem?_cons_succ,Option.some.injEq,exists_eq',true_and,exists_eq_left']
 have s35:=PH.sub_set (o:=.cells #[.int .i64 F.ints,.int .i64 F.bools,A.v,K.v] 29) h35
 have B35:Blk (τ.set b35 (.cells #[.int .i64 F.ints,.int .i64 F.bools,A.v,K.v] 29)) b35 29 [.int .i64 F.ints,.int .i64 F.bools,A.v,K.v]:=set_self
 generalize τ.set b35 (.cells #[.int .i64 F.ints,.int .i64 F.bools,A.v,K.v] 29)=ω2 at *
 have hF2:FB φ ω2 b35 F.ints F.bools A K F.atoms F.clauses:=⟨hR.grow s35,B35,new_of hR.sub h35⟩
 have hσ2:σ.sub ω2:=((s11.trans hφ).trans hR.sub).trans s35
 refine ⟨_,rfl,by omega,by omega,by omega,by omega,fun b42 h42 => ?_⟩
 simp only [Int.toNat_natCast]
 have s42:=PH.sub_set (o:=.cells (zeros (.bool false) F.bools) 4) h42
 have B42:Blk (ω2.set b42 (.cells (zeros (.bool false) F.bools) 4)) b42 4 (boolsV (List.replicate F.bools false)):=by
   have:zeros (.bool false) F.bools=(boolsV (List.replicate F.bools false)).toArray:=by rw [zeros_one rfl,boolsV,List.map_replicate]
   rw [this]; exact set_self
 generalize ω2.set b42 (.cells (zeros (.bool false) F.bools) 4)=ω3 at *
 have hF3:=hF2.sub' s42
 have g35:=hF3.blk.get (i:=0) rfl
 rw [e0] at g35
 refine ⟨_,g35,_,rfl,by omega,by omega,by omega,by omega,fun b45 h45 => ?_⟩
 simp only [Int.toNat_natCast]
 have s45:=PH.sub_set (o:=.cells (zeros (.int .i64 0) F.ints) 3) h45
 have B45:Blk (ω3.set b45 (.cells (zeros (.int .i64 0) F.ints) 3)) b45 3 (ints (List.replicate F.ints 0)):=by
   have:zeros (.int .i64 0) F.ints=(ints (List.replicate F.ints 0)).toArray:=by rw [zeros_one rfl,ints,List.map_replicate]
   rw [this]; exact set_self
 generalize ω3.set b45 (.cells (zeros (.int .i64 0) F.ints) 3)=ω4 at *
 have hF4:=hF3.sub' s45
 intro b46 h46
 have s46:=PH.sub_set (o:=.cells #[.slice (some ⟨b42,0,none⟩) F.bools F.bools,.slice (some ⟨b45,0,none⟩) F.ints F.ints] 35) h46
 have B46:Blk (ω4.set b46 (.cells #[.slice (some ⟨b42,0,none⟩) F.bools F.bools,.slice (some ⟨b45,0,none⟩) F.ints F.ints] 35)) b46 35 [.slice (some (ptr b42)) F.bools F.bools,.slice (some (ptr b45)) F.ints F.ints]:=set_self
 generalize ω4.set b46 (.cells #[.slice (some ⟨b42,0,none⟩) F.bools F.bools,.slice (some ⟨b45,0,none⟩) F.ints F.ints] 35)=ω5 at *
 have M0:MS φ ω5 b35 b42 b45 b46 F A K (List.replicate F.bools false) (List.replicate F.ints 0) :=
   ⟨hF4.sub' s46,B46,s46 _ _ (s45 _ _ B42),s46 _ _ B45,by simp,by simp,new_of hF2.sub h42,new_of hF3.sub h45,fun x hx => by rw [List.mem_replicate] at hx; omega⟩
 have hσφ:σ.sub φ:=s11.trans hφ
 refine ⟨_,_,_,rfl,?_⟩
 have hl7:=hU7.len
 have hl10:=hB10.1
 unfold S6_1
 refine iloopS_for (G:=List Int) (fun i xs => ((a7,n8,c9,a10,n11,c12,ptr b35,ptr b46,(F.ints:Int),(i:Int)):T6_1)) (fun i xs υ => MS φ υ b35 b42 b45 b46 F A K (List.replicate F.bools false) xs) F.ints ?_ (g:=List.replicate F.ints 0) M0
 clear M0 B46 B45 B42 B35 hF4 hF3 hF2
 rintro i xs υ hi M R hR'
 unfold S6_2
 dsimp only
 have wk:IntKind.wrap .i64 ((i:Int) + 1)=((i + 1:Nat):Int):=wnat (by omega)
 rw [wk]
 refine br_dec.2 ⟨fun hlt => br_dec.2 ⟨fun h8 => ?_,fun _ => hR' xs υ (by omega) M⟩,fun hge => ?_⟩
 · have hil:i < l7.length:=by omega
   obtain ⟨p,hp7,hc7⟩:=(hU7.sub (hσφ.trans M.fb.sub)).row.at (i:=i) (v:=.int .i8 (l7[i])) (by rw [List.getElem?_map,List.getElem?_eq_getElem hil]; rfl)
   have hr:=hU7.rng _ (List.getElem_mem hil)
   generalize l7[i]=x at *
   refine ⟨_,M.k46.get (i:=1) rfl,_,_,_,rfl,p,hp7,by omega,by omega,_,by rw [Int.toNat_natCast,Nat.mul_one]; exact hc7,_,rfl,ptr b45,rfl,by omega,by omega,?_⟩
   rw [Int.toNat_natCast,Nat.mul_one,w64 (n:=x) (by omega) (by omega)]
   exact ⟨⟨_,(M.getI (by omega)).1⟩,M.k45.froz i,hR' _ _ (by omega) (M.setI i hr)⟩
 · have g46:=M.k46.get (i:=0) rfl
   rw [e0] at g46
   refine ⟨_,g46,_,_,_,rfl,?_⟩
   clear hR' R wk
   unfold S6_3
   refine iloopS_for (G:=List Bool) (fun i bl => ((a10,n11,c12,ptr b35,ptr b46,(F.bools:Int),(i:Int)):T6_3)) (fun i bl υ => MS φ υ b35 b42 b45 b46 F A K bl xs∧AtB F bl xs i) F.bools ?_ (g:=List.replicate F.bools false) ⟨M,fun j d hj _ => by omega⟩
   clear M g46 υ
   rintro i bl υ hi ⟨M,hAt⟩ R hR'
   unfold S6_4
   dsimp only
   refine br_dec.2 ⟨fun hlt => ?_,fun hge => ?_⟩
   · have hib:i < F.bools:=by omega
     have g46:=M.k46.get (i:=0) rfl
     rw [e0] at g46
     have key:∀ q,G6a R a10 n11 c12 (ptr b35) (ptr b46) (F.bools:Int) (i:Int) (some (ptr b42)) F.bools q υ:=fun q => g6a hp M hib hAt q fun bl' τ h1 h2 => hR' bl' τ hib ⟨h1,h2⟩
     refine ⟨_,g46,_,_,_,rfl,br_dec.2 ⟨fun h8 => ?_,fun _ => key false⟩⟩
     have hil:i < l10.length:=by omega
     obtain ⟨p,hp7,hc7⟩:=(hB10.2.sub (hσφ.trans M.fb.sub)).at (i:=i) (v:=.bool (l10[i])) (by unfold boolsV; rw [List.getElem?_map,List.getElem?_eq_getElem hil]; rfl)
     exact ⟨p,hp7,by omega,by omega,_,by rw [Int.toNat_natCast,Nat.mul_one]; exact hc7,_,rfl,key _⟩
   · have hib:i=F.bools:=by omega
     subst hib
     refine ⟨_,M.fb.blk.get (i:=3) rfl,_,_,_,rfl,?_⟩
     obtain ⟨φ3,f1,f2,f3,f4⟩:=M.fb.freeze (fun _ => False) (by simp)
     have K42:Blk φ3 b42 4 (boolsV bl):=(f4 b42 (ne_ty M.k42 M.fb.blk (by decide)) (M.fb.nA M.k42 (by decide)) (M.fb.nK M.k42 (by decide)) (fun h => h)).trans M.k42
     have K46:Blk φ3 b46 35 _:=(f4 b46 (ne_ty M.k46 M.fb.blk (by decide)) (M.fb.nA M.k46 (by decide)) (M.fb.nK M.k46 (by decide)) (fun h => h)).trans M.k46
     have hbl:=M.l42
     have hxl:=M.l45
     have hxr:=M.r45
     have hσ3:σ.sub φ3:=hσφ.trans f1
     have hKn:=M.fb.kn
     have hcn:=hp.cn
     clear hR' R M hge hi f4 f3
     unfold S6_5
     refine iloopS_for (G:=Unit) (fun i _ => ((ptr b35,ptr b46,K.a,K.n,K.c,(K.n:Int),(i:Int)):T6_5)) (fun i _ υ => ∃ φ' cs',φ3.sub φ'∧FB φ' υ b35 F.ints F.bools A K F.atoms cs'∧cs'.length=F.clauses.length∧(∀ j,i≤j→cs'[j]?=F.clauses[j]?)∧∀ j c,j < i→cs'[j]?=some c→c.any (holdsB bl)=true∧c.length≤5∧∀ x ∈ c,LitN F.bools x) K.n ?_ (g:=()) ⟨φ3,F.clauses,.refl _,f2,rfl,fun _ _ => rfl,fun j _ h => by omega⟩
     clear f2 υ
     rintro i _ υ hi ⟨φ',cs',g1,g2,g3,g4,g5⟩ R hR'
     unfold S6_6
     dsimp only
     have hυ:σ.sub υ:=(hσ3.trans g1).trans g2.sub
     have k46:Blk υ b46 35 [.slice (some (ptr b42)) F.bools F.bools,.slice (some (ptr b45)) F.ints F.ints]:=g2.sub _ _ (g1 _ _ K46)
     have k42:Blk υ b42 4 (boolsV bl):=g2.sub _ _ (g1 _ _ K42)
     refine br_dec.2 ⟨fun hlt => ?_,fun hge => ?_⟩
     · have hik:i < K.n:=by omega
       obtain ⟨cl,hcl⟩:∃ cl,cs'[i]?=some cl:=⟨_,List.getElem?_eq_getElem (by omega)⟩
       have hclF:F.clauses[i]?=some cl:=by rw [← g4 i (Nat.le_refl _)]; exact hcl
       have hclm:=List.mem_of_getElem? hclF
       have hc4:=hp.cl cl hclm
       have hclit:=hp.fok.cl cl hclm
       obtain ⟨vs,o1,o2,o3⟩:=g2.ok
       obtain ⟨x,m,k,q1,q2⟩:=o3 i cl hcl
       obtain ⟨p,hp',hcell⟩:=o1.get q1
       have g46:=k46.get (i:=0) rfl
       rw [e0] at g46
       have hm:=own_len q2
       have wk:IntKind.wrap .i64 ((i:Int) + 1)=((i + 1:Nat):Int):=wnat (by omega)
       refine ⟨p,hp',by omega,by omega,_,by rw [Int.toNat_natCast,Nat.mul_one]; exact hcell,_,_,_,rfl,_,g46,_,k46.get (i:=1) rfl,_,_,_,_,_,_,rfl,?_⟩
       refine c23 (bl:=bl) ⟨hbl,.inr ⟨_,rfl,fun j v hv => k42.get hv⟩⟩ (by omega) ((own_ints q2).sub g2.sub) (fun z hz => litN (hclit z hz) hp.fok.bools) (by omega) fun τ hs => ⟨τ,.refl _,_,rfl,?_⟩
       have g2τ:=g2.sub' hs
       have next:∀ (cs2:List (List Int)) (φ2:PH) (τ2:PH) (c2:List Int),φ'.sub φ2→FB φ2 τ2 b35 F.ints F.bools A K F.atoms cs2→cs2=cs'.set i c2→c2.any (holdsB bl)=true→c2.length≤5→(∀ x ∈ c2,LitN F.bools x)→R (ptr b35,ptr b46,K.a,K.n,K.c,(K.n:Int),((i + 1:Nat):Int)) τ2:=by
         intro cs2 φ2 τ2 c2 k1 k2 k3 k4 k5 k6
         subst k3
         refine hR' () τ2 hik ⟨φ2,_,g1.trans k1,k2,by rw [List.length_set]; exact g3,fun j hj => ?_,fun j c0 hj hc0 => ?_⟩
         · rw [List.getElem?_set,if_neg (by omega)]
           exact g4 j (by omega)
         · rw [List.getElem?_set] at hc0
           by_cases e:i=j
           · rw [if_pos e,if_pos (by omega)] at hc0
             cases hc0
             exact ⟨k4,k5,k6⟩
           · rw [if_neg e] at hc0
             exact g5 j c0 (by omega) hc0
       have hself:cs'.set i cl=cs':=by
         apply List.ext_getElem?
         intro j
         rw [List.getElem?_set]
         split
         · rename_i e; subst e; rw [if_pos (by omega),hcl]
         · rfl
       obtain ⟨t1,t2⟩:=tm (show (0:Int)≤7 * (i:Int) + 3 by omega) (show (0:Int) < (F.bools:Int) by omega)
       have w7:IntKind.wrap .i64 (IntKind.wrap .i64 (7 * (i:Int)) + 3)=7 * (i:Int) + 3:=by rw [w64 (n:=7 * (i:Int)) (by omega) (by omega),w64 (by omega) (by omega)]
       obtain ⟨r,hr,hrB⟩:∃ r:Nat,(r:Int)=(7 * (i:Int) + 3).tmod F.bools∧r < F.bools:=⟨((7 * (i:Int) + 3).tmod F.bools).toNat,by omega,by omega⟩
       clear t1 t2
       refine br_iff.2 ⟨fun hna => ?_,fun hany => ?_⟩
       · have k42τ:Blk τ b42 4 (boolsV bl):=hs _ _ k42
         have k46τ:Blk τ b46 35 [.slice (some (ptr b42)) F.bools F.bools,.slice (some (ptr b45)) F.ints F.ints]:=hs _ _ k46
         have g46:=k46τ.get (i:=0) rfl
         rw [e0] at g46
         refine ⟨_,g2τ.blk.get (i:=1) rfl,_,rfl,by omega,rfl,_,g46,_,_,_,rfl,ptr b42,rfl,?_⟩
         rw [w7,← hr,Int.toNat_natCast,Nat.mul_one]
         clear hr w7
         have wr:IntKind.wrap .i64 ((r:Int) + 1)=(r:Int) + 1:=w64 (by omega) (by omega)
         have wr2:IntKind.wrap .i64 (0 - ((r:Int) + 1))=-((r:Int) + 1):=by rw [w64 (by omega) (by omega)]; omega
         rw [wr,wr2]
         clear wr wr2 wk
         have hrb:r < bl.length:=hbl.symm ▸ hrB
         have hcr:τ.cell? ((ptr b42).add r)=some (.bool (bl.getD r false)):=k42τ.get (by unfold boolsV; rw [List.getElem?_map,List.getElem?_eq_getElem hrb,List.getD_eq_getElem?_getD,List.getElem?_eq_getElem hrb]; rfl)
         refine ⟨by omega,by omega,_,hcr,_,rfl,?_⟩
         refine br_iff.2 ⟨fun hb => ?_,fun hb => ?_⟩
         · have hh:holdsB bl (-((r:Int) + 1))=true:=by
             unfold holdsB
             rw [if_neg (by omega),if_neg (by omega),show (-(-((r:Int) + 1)) - 1).toNat=r by omega]
             exact hb
           refine g6b g2τ hcl (by omega) (by omega) q2 (-((r:Int) + 1)) fun φ2 τ2 k1 k2 => next _ φ2 τ2 _ k1 k2 rfl ?_ ?_ ?_
           · rw [List.any_append]; simp [hh]
           · rw [List.length_append,List.length_singleton]; omega
           · intro z hz
             rcases List.mem_append.1 hz with h | h
             · exact hclit z h
             · rw [List.mem_singleton] at h; subst h; unfold LitN; omega
         · have hh:holdsB bl ((r:Int) + 1)=true:=by
             unfold holdsB
             rw [if_neg (by omega),if_pos (by omega),show ((r:Int) + 1 - 1).toNat=r by omega]
             simpa using hb
           refine g6b g2τ hcl (by omega) (by omega) q2 ((r:Int) + 1) fun φ2 τ2 k1 k2 => next _ φ2 τ2 _ k1 k2 rfl ?_ ?_ ?_
           · rw [List.any_append]; simp [hh]
           · rw [List.length_append,List.length_singleton]; omega
           · intro z hz
             rcases List.mem_append.1 hz with h | h
             · exact hclit z h
             · rw [List.mem_singleton] at h; subst h; unfold LitN; omega
       · rw [wk]
         refine next cs' φ' τ cl (.refl _) g2τ hself.symm (by simpa using hany) (by omega) hclit
     · have hik:i=K.n:=by omega
       subst hik
       have hcs:∀ c ∈ cs',c.any (holdsB bl)=true∧c.length≤5∧∀ x ∈ c,LitN F.bools x:=by
         intro c hc
         obtain ⟨j,hj⟩:=List.mem_iff_getElem?.1 hc
         have:=(List.getElem?_eq_some_iff.1 hj).1
         exact g5 j c (by omega) hj
       have hfok:=fok_more hp (cs:=cs') (fun c hc => (hcs c hc).2.2) (by omega)
       have hlen:∀ c ∈ cs',c.length≤1000000:=fun c hc => by have:=(hcs c hc).2.1; omega
       have hM:SatM ⟨F.ints,F.bools,F.atoms,cs'⟩ bl (fun v => xs.getD v 0 - 128):=by
         refine ⟨hbl,fun c hc => ?_,fun j d hd => ?_,fun v hv => ?_⟩
         · obtain ⟨h1,h2,h3⟩:=hcs c hc
           obtain ⟨y,hy,hh⟩:=List.any_eq_true.1 h1
           exact ⟨y,hy,holds_litT hbl (h3 y hy) hh⟩
         · have hj:j < F.bools:=by
             have h1:=(List.getElem?_eq_some_iff.1 hd).1
             have h2:=hp.fok.atoms
             exact Nat.lt_of_lt_of_le h1 h2
           rw [hAt j d hj hd]
           omega
         · have hv:v < F.ints:=hv
           have:=hxr (xs.getD v 0) (by rw [List.getD_eq_getElem?_getD,List.getElem?_eq_getElem (by omega)]; exact List.getElem_mem _)
           omega
       have g35:=g2.blk.get (i:=0) rfl
       rw [e0] at g35
       refine ⟨_,g35,_,g2.blk.get (i:=1) rfl,_,g2.blk.get (i:=2) rfl,_,g2.blk.get (i:=3) rfl,_,_,_,_,_,_,_,_,rfl,?_⟩
       refine c17r (F:=⟨F.ints,F.bools,F.atoms,cs'⟩) hfok (by show F.bools≤40; omega) hlen g2.atoms g2.lists g2.oa.le g2.toFR.kc fun τ ma mn mc xa xn xc la ln lc ok hs hRes => ?_
       have hyes:=hRes.true_of hfok hM
       subst hyes
       refine ⟨τ,.refl _,_,_,_,_,_,_,_,_,_,_,rfl,fun b64 h64 => ?_⟩
       simp only [newSet,newSet0,newCell,newCell0,newFroz,newFroz0,List.setIfInBounds_toArray,List.set_cons_zero,List.set_cons_succ,List.getElem?_toArray,List.getElem?_cons_zero,List.getElem?_cons_succ,Option.some.injEq,exists_eq',true_and,exists_eq_left']
       refine br_iff.2 ⟨fun _ => ?_,fun h => (by cases h)⟩
       have s64:=PH.sub_set (o:=.cells #[.slice ma mn mc,.slice xa xn xc] 35) h64
       generalize τ.set b64 (.cells #[.slice ma mn mc,.slice xa xn xc] 35)=τ2 at *
       have g5':=(g2.sub' hs).sub' s64
       have g35:=g5'.blk.get (i:=0) rfl
       rw [e0] at g35
       refine ⟨_,g35,_,g5'.blk.get (i:=1) rfl,_,g5'.blk.get (i:=2) rfl,_,g5'.blk.get (i:=3) rfl,_,_,_,_,_,_,_,_,rfl,_,_,_,_,_,_,rfl,?_⟩
       refine c18r (F:=⟨F.ints,F.bools,F.atoms,cs'⟩) hfok hlen g5'.atoms g5'.lists (hRes.sub s64) fun τ3 hs3 => ⟨τ3,.refl _,true,rfl,br_iff.2 ⟨fun _ => ?_,fun h => (by cases h)⟩⟩
       exact c20' fun τ4 hs4 => hQ τ4 ((((hυ.trans hs).trans s64).trans hs3).trans hs4)
def PH.whole (W:World):PH:=fun b => W.heap[b]?
theorem whole_le (W:World):PH.le (PH.whole W) W:=fun _ _ h => h
theorem whole_cell (W:World) (a:Addr):(PH.whole W).cell? a=W.cell? a:=rfl
section
variable {H:Type} {enc:TypeId × Value→H} {W:World} {sp:Nat→Bool} {held:Bool}
theorem wcells_get {a:Addr} {n:Nat} {cs:List Value} (h:W.cells? 0 a n=some cs):cs.length=n∧∀ i,i < n→W.cell? (a.add i)=cs[i]?:=by
 unfold World.cells? at h
 rw [if_pos (Nat.zero_le _)] at h
 have hl:=mapM_some_length h
 rw [List.length_range] at hl
 exact ⟨hl,fun i hi => mapM_some_get h i i (by simp [hi])⟩
end
section
variable {H:Type} {enc:TypeId × Value→H} {W:World} {sp:Nat→Bool} {held:Bool}
theorem u5:prog.underlying 5=some (.int .u8):=by kernel_rfl
theorem u22:prog.underlying 22=some (.array 3 5):=by kernel_rfl
theorem u23:prog.underlying 23=some (.slice 5):=by kernel_rfl
theorem u25 : prog.underlying 25 = some (.struct #[Field.mk "Size" 22 0 false "" "" 0, Field.mk "Numbers" 23 3 false "" "" 8]) := by kernel_rfl
theorem c5':prog.cellsOf 5=1:=by kernel_rfl
theorem c22':prog.cellsOf 22=3:=by kernel_rfl
theorem c23':prog.cellsOf 23=1:=by kernel_rfl
theorem c25':prog.cellsOf 25=4:=by kernel_rfl
theorem wf_u8 {n:Int} (h:(Lit.int .u8 n).wf=true):0≤n∧n < 256:=by
 simp [Lit.wf,IntKind.min,IntKind.max,IntKind.signed,IntKind.bits] at h
 omega
theorem trod_u8 {fuel:Nat} {cs:List Value} {x:DataW H × List MemPlace} (h:DataW.trod enc prog W 0 sp held fuel 5 cs=some x):∃ n:Int,cs=[.int .u8 n]∧0≤n∧n < 256:=by
 obtain ⟨n,h1,_,h2⟩:=DataW.trod_int u5 h
 exact ⟨n,h1,wf_u8 h2⟩
theorem trod_u8s {fuel:Nat} {cs:List Value} {x:DataW H × List MemPlace} (h:DataW.trod enc prog W 0 sp held fuel 23 cs=some x) :
   ∃ (a:Option Addr) (m k:Nat) (l:List Int),cs=[.slice a m k]∧U8s (PH.whole W) a m l∧m≤k∧m≤maxLen:=by
 rcases Go.ChangeShapes.open_ints u23 u5 c5' h with ⟨rfl,rfl⟩ | ⟨a,len,cap,zs,rfl,_,hl,hm,hz,rfl,hcell,hwf⟩
 · exact ⟨none,0,0,[],rfl,⟨rfl,.inl rfl,by simp⟩,Nat.le_refl _,Nat.zero_le _⟩
 · have hzl:len≤zs.length:=by rw [hz]; split <;> omega
   refine ⟨some a,len,cap,zs.take len,rfl,⟨by simp; omega,.inr ⟨a,rfl,fun i v hv => ?_⟩,fun x hx => wf_u8 (hwf x (List.mem_of_mem_take hx))⟩,hl,Nat.le_trans hl hm⟩
   rw [List.getElem?_map,List.getElem?_take] at hv
   split at hv
   · rename_i hi
     rw [whole_cell,hcell i (by omega)]
     rw [List.getElem?_eq_getElem (by omega)] at hv
     rw [List.getD_eq_getElem?_getD,List.getElem?_eq_getElem (by omega)]
     exact hv
   · cases hv
theorem trod_problem {v:Value} {d:DataW H} {ps:List MemPlace} (h:DataW.Trod enc prog W 0 sp held 25 v d ps) :
   ∃ (s0 s1 s2:Int) (a:Option Addr) (n c:Nat) (l:List Int),v.cells.toList=[.int .u8 s0,.int .u8 s1,.int .u8 s2,.slice a n c]∧U8s (PH.whole W) a n l∧n≤c∧(0≤s0∧s0 < 256)∧(0≤s1∧s1 < 256)∧(0≤s2∧s2 < 256):=by
 obtain ⟨fuel,h⟩:=h
 obtain ⟨xs,n,_,hd,hl,hx,hf⟩:=DataW.trod_struct u25 h
 rw [c25'] at hl
 generalize v.cells.toList=cs at *
 match cs,hl with
 | [a,b,c,e],_ =>
   have hx2:xs.length=2:=hx
   have f0 : DataW.trod enc prog W 0 sp held n 22 (([a, b, c, e].drop 0).take (prog.cellsOf 22)) = xs[0]? := hf 0 (Field.mk "Size" 22 0 false "" "" 0) rfl
   have f1 : DataW.trod enc prog W 0 sp held n 23 (([a, b, c, e].drop 3).take (prog.cellsOf 23)) = xs[1]? := hf 1 (Field.mk "Numbers" 23 3 false "" "" 8) rfl
   rw [c22'] at f0
   rw [c23'] at f1
   match xs,hx2 with
   | [y0,y1],_ =>
     obtain ⟨zs,m,_,_,_,hz,g⟩:=DataW.trod_array u22 f0
     have g0:=g 0 (by omega)
     have g1:=g 1 (by omega)
     have g2:=g 2 (by omega)
     rw [c5'] at g0 g1 g2
     match zs,hz with
     | [w0,w1,w2],_ =>
       obtain ⟨n0,e0,r0⟩:=trod_u8 g0
       obtain ⟨n1,e1,r1⟩:=trod_u8 g1
       obtain ⟨n2,e2,r2⟩:=trod_u8 g2
       obtain ⟨aa,m',k,l,e3,hU,hmk,_⟩:=trod_u8s f1
       simp at e0 e1 e2 e3
       exact ⟨n0,n1,n2,aa,m',k,l,by rw [e0,e1,e2,e3],hU,hmk,r0,r1,r2⟩
end
section
variable {H:Type} {enc:TypeId × Value→H} {W:World} {sp:Nat→Bool} {held:Bool}
theorem u48:prog.underlying 48=some (.int .i8):=by kernel_rfl
theorem u47:prog.underlying 47=some (.slice 48):=by kernel_rfl
theorem c48':prog.cellsOf 48=1:=by kernel_rfl
theorem wf_i8 {n:Int} (h:(Lit.int .i8 n).wf=true):-128≤n∧n < 128:=by
 simp [Lit.wf,IntKind.min,IntKind.max,IntKind.signed,IntKind.bits] at h
 omega
theorem trod_i8s {fuel:Nat} {cs:List Value} {x:DataW H × List MemPlace} (h:DataW.trod enc prog W 0 sp held fuel 47 cs=some x) :
   ∃ (a:Option Addr) (m k:Nat) (l:List Int),cs=[.slice a m k]∧I8s (PH.whole W) a m l∧m≤k∧m≤maxLen:=by
 rcases Go.ChangeShapes.open_ints u47 u48 c48' h with ⟨rfl,rfl⟩ | ⟨a,len,cap,zs,rfl,_,hl,hm,hz,rfl,hcell,hwf⟩
 · exact ⟨none,0,0,[],rfl,⟨rfl,.inl rfl,by simp⟩,Nat.le_refl _,Nat.zero_le _⟩
 · have hzl:len≤zs.length:=by rw [hz]; split <;> omega
   refine ⟨some a,len,cap,zs.take len,rfl,⟨by simp; omega,.inr ⟨a,rfl,fun i v hv => ?_⟩,fun x hx => wf_i8 (hwf x (List.mem_of_mem_take hx))⟩,hl,Nat.le_trans hl hm⟩
   rw [List.getElem?_map,List.getElem?_take] at hv
   split at hv
   · rename_i hi
     rw [whole_cell,hcell i (by omega)]
     rw [List.getElem?_eq_getElem (by omega)] at hv
     rw [List.getD_eq_getElem?_getD,List.getElem?_eq_getElem (by omega)]
     exact hv
   · cases hv
end
section
variable {H:Type} {enc:TypeId × Value→H} {W:World} {sp:Nat→Bool} {held:Bool}
theorem u4:prog.underlying 4=some .bool:=by kernel_rfl
theorem u32:prog.underlying 32=some (.slice 4):=by kernel_rfl
theorem c4':prog.cellsOf 4=1:=by kernel_rfl
open Classical in
theorem trod_bools {fuel:Nat} {cs:List Value} {x:DataW H × List MemPlace} (h:DataW.trod enc prog W 0 sp held fuel 32 cs=some x) :
   ∃ (a:Option Addr) (m k:Nat) (l:List Bool),cs=[.slice a m k]∧Bools (PH.whole W) a m l∧m≤k:=by
 rcases DataW.trod_slice u32 h with ⟨rfl,rfl⟩ | ⟨a,len,cap,elems,rest,n,_,rfl,rfl,_,hl,_,hlen,hel,_,_⟩
 · exact ⟨none,0,0,[],rfl,⟨rfl,.inl rfl⟩,Nat.le_refl _⟩
 · have key:∀ i,i < len→∃ b:Bool,W.cell? (a.add i)=some (.bool b):=by
     intro i hi
     have he:=hel i hi
     rw [c4',Nat.mul_one,List.getElem?_eq_getElem (by omega)] at he
     rw [Option.bind_eq_some_iff] at he
     obtain ⟨cs,h1,h2⟩:=he
     obtain ⟨b,rfl,_⟩:=DataW.trod_bool u4 h2
     obtain ⟨_,hc⟩:=wcells_get h1
     have e0:(a.add i).add 0=a.add i:=by simp [Addr.add]
     have g0:=hc 0 (by omega)
     rw [e0] at g0
     exact ⟨b,g0⟩
   refine ⟨some a,len,cap,(List.range len).map fun i => if hi:i < len then (key i hi).choose else false,rfl,⟨by simp,.inr ⟨a,rfl,fun i v hv => ?_⟩⟩,hl⟩
   unfold boolsV at hv
   rw [List.getElem?_map,List.getElem?_map] at hv
   have hi:i < len:=by
     by_cases hi:i < len
     · exact hi
     · rw [List.getElem?_eq_none (by simp; omega)] at hv; cases hv
   rw [List.getElem?_range hi] at hv
   simp only [Option.map_some,Option.some.injEq,dif_pos hi] at hv
   subst hv
   exact (key i hi).choose_spec
end
end Go.Proofs.Ythfnjogadngfiaa
namespace Go.Proofs.Ythfnjogadngfiaa.SolveModels
open Go.ChangeShapes Go.WideShapes Go.ChangeAt Go.RowKit Go.Sl Go.Sv
theorem own:ownKnob Try.prog.godebug=none:=by kernel_rfl
theorem laidOut:laidOutB Try.prog=true:=by kernel_rfl
theorem walkOf {f:FuncId} {args:Array Value} {W:World} (h:C f args (fun v τ => v=.bool true∧(PH.whole W).sub τ) (PH.whole W)):Calls Try.prog f args W fun e w' => e=.returned (.bool true)∧Below W.heap.size W w':=by
 have hm:prog.follows .mixedOrders=true:=by kernel_rfl
 refine ((ICall.calls hm SemCall.hc) _ _ _ _ W h (whole_le W)).mono fun e w' hcp => ?_
 obtain ⟨v,τ,rfl,⟨rfl,hs⟩,hle,hfr⟩:=hcp
 refine ⟨rfl,hfr.os,hfr.tape,hfr.output,hfr.size,fun k hk => ?_⟩
 have hg:W.heap[k]?=some W.heap[k]:=Array.getElem?_eq_getElem hk
 rw [hg]
 exact hle _ _ (hs _ _ hg)
theorem lifted (os:Os) (started:os.Started) (H:Type) (enc:TypeId × Value→H) :
   ReturnsInHanded {} Try.checked os 6 .any (Rows.solveModelsSpec.pre6 enc Try.prog Try.f6 Rows.solveModelsRow.domain false) (Rows.solveModelsSpec.post enc Try.prog Try.f6 false true false false):=by
 refine returnsInHanded_of_change_sized (C:=Try.checked) own started (by kernel_rfl) Try.func6
   (ChangeSpec.witness6 (enc:=enc) (C:=Try.checked) false ⟨#[],#[.agg #[.int .u8 0,.int .u8 0,.int .u8 0,.slice none 0 0],.slice none 0 0,.slice none 0 0],[]⟩ 8 (by kernel_rfl) (by kernel_rfl) (by kernel_rfl) (by kernel_rfl)) ?_
 intro W base args ds gs before hval0 hW hcnd0 hsz0 _
 clear hsz0
 have hval:∀ (j:Nat) t v,Try.f6.params[j]?=some t→args[j]?=some v→Value.okWide Try.prog W .any base t v:=hval0
 have hW':=hW
 obtain ⟨p,q,hA0,hV,rfl,hfz,hnd⟩:=hW
 have hA:DataW.TrodAll enc Try.prog W 0 (fun _ => true) true Try.f6.params.toList args.toList ds p:=hA0
 rw [Try.params6] at hA hval
 obtain ⟨v0,vs0,d0,ds0,p0,q0,hargs0,rfl,rfl,h0,r0⟩:=trodAll_cons hA
 obtain ⟨v1,vs1,d1,ds1,p1,q1,hargs1,rfl,rfl,h1,r1⟩:=trodAll_cons r0
 obtain ⟨v2,vs2,d2,ds2,p2,q2,hargs2,rfl,rfl,h2,r2⟩:=trodAll_cons r1
 obtain ⟨rfl,rfl,rfl⟩:=trodAll_nil r2
 obtain rfl:args=#[v0,v1,v2]:=by cases args; simp_all
 obtain ⟨rfl,rfl⟩:=trodVars_none hV
 obtain ⟨cs0,rfl,hcsz0⟩:=okWide_struct Try.underlying25 (hval 0 25 v0 rfl rfl)
 have k0:=h0
 have lt0:∀ x ∈ p0,x.block < W.heap.size:=by obtain ⟨m,hm⟩:=k0; exact DataW.trod_lt m _ _ _ hm
 obtain ⟨s00,s10,s20,a0,m0,c0,l0,hcs0,hU0,hnc0,b00,b10,b20⟩:=trod_problem h0
 obtain rfl:cs0=#[.int .u8 s00,.int .u8 s10,.int .u8 s20,.slice a0 m0 c0]:=by
   have:cs0.toList=_:=hcs0
   cases cs0; simp_all
 obtain ⟨a1,m1,c1,rfl⟩:=okWide_slice Try.underlying47 (hval 1 47 v1 rfl rfl)
 have k1:=h1
 have lt1:∀ x ∈ p1,x.block < W.heap.size:=by obtain ⟨m,hm⟩:=k1; exact DataW.trod_lt m _ _ _ hm
 obtain ⟨l1,hU1,hnc1,hml1⟩:∃ l,I8s (PH.whole W) a1 m1 l∧m1≤c1∧m1≤maxLen:=by
   obtain ⟨fu,hm⟩:=h1
   obtain ⟨a,m,k,l,e,hU,hmk,hml⟩:=trod_i8s hm
   simp [Value.cells] at e
   obtain ⟨rfl,rfl,rfl⟩:=e
   exact ⟨l,hU,hmk,hml⟩
 obtain ⟨a2,m2,c2,rfl⟩:=okWide_slice Try.underlying32 (hval 2 32 v2 rfl rfl)
 have k2:=h2
 have lt2:∀ x ∈ p2,x.block < W.heap.size:=by obtain ⟨m,hm⟩:=k2; exact DataW.trod_lt m _ _ _ hm
 obtain ⟨l2,hU2,hnc2⟩:∃ l,Bools (PH.whole W) a2 m2 l∧m2≤c2:=by
   obtain ⟨fu,hm⟩:=h2
   obtain ⟨a,m,k,l,e,hU,hmk⟩:=trod_bools hm
   simp [Value.cells] at e
   obtain ⟨rfl,rfl,rfl⟩:=e
   exact ⟨l,hU,hmk⟩
 clear hA0 hval0
 refine (walkOf (c6 hU0 hnc0 b00 b10 b20 hU1 hU2 fun τ hs => ⟨rfl,hs⟩)).mono fun e W' ⟨he,bel⟩ => ?_
 subst he
 exact ⟨_,rfl,_,_,_,[],_,[],hW',trodAll_mk1 (shut_bool Try.underlying4 _),trodAll_cons_mk (Below.trod laidOut (by kernel_rfl) (of_decide_eq_true (by kernel_rfl)) k0 bel lt0) (trodAll_cons_mk (Below.trod laidOut (by kernel_rfl) (of_decide_eq_true (by kernel_rfl)) k1 bel lt1) (trodAll_cons_mk (Below.trod laidOut (by kernel_rfl) (of_decide_eq_true (by kernel_rfl)) k2 bel lt2) trodAll_mk0)),rfl,bel.frame _,fun h => by cases h⟩
theorem over:Rows.solveModelsRow.holds Try.pinned (OpenSpec.ofChange Rows.solveModelsSpec) :=
 OpenClaim.holds_of_wide 6 Try.f6 rfl rfl rfl rfl rfl rfl rfl ⟨rfl,rfl,rfl,rfl,rfl⟩ rfl rfl rfl rfl rfl (by kernel_rfl) Try.func6 (by kernel_rfl)
   (of_decide_eq_true (by kernel_rfl)) (by unfold Func.isWrapper; first | (rw [if_pos (by decide +kernel)]; kernel_rfl) | (rw [if_neg (by decide +kernel)]; exact ⟨rfl,rfl⟩))
   (fun os started H enc _ => lifted os started H enc)
theorem proved:Rows.SolveModelsSaid:=over
end Go.Proofs.Ythfnjogadngfiaa.SolveModels
