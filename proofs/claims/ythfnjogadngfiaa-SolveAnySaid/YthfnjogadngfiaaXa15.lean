/- SolveAny answers true at every formula; no condition beyond the row's own. -/
import Derived.ChangeArms
import Derived.ChangeSlices
import Derived.DataReads
import Derived.WalkKit
import Derived.ProofKit
import Derived.OpenShut
import Derived.ShutString
import Derived.ChangeOld
import Derived.Below
import Derived.Carry
import Derived.SizedLaws
import Derived.Test.YthfnjogadngfiaaRows
import Derived.Test.YthfnjogadngfiaaXa14
set_option maxRecDepth 100000
set_option linter.unusedVariables false
set_option linter.unusedSimpArgs false
namespace Go.Proofs.Ythfnjogadngfiaa
open Go.Sl Go.Sv
theorem c18sat {σ : PH} {F : Fm} (hF : FOk F) (hlen : ∀ c ∈ F.clauses,c.length ≤ 1000000) {aa ca : Option Addr} {an ac cn cc : Nat} (hA : Atoms σ aa an F.atoms) (hL : Lists σ ca cn F.clauses) {ba xa : Option Addr} {bc xc : Nat} {bl : List Bool} {x : Nat → Int} (hB : Bools σ ba F.bools bl) (hX : Ints σ xa F.ints (tab F.ints x)) (hM : SatM F bl x) {la : Option Addr} {lc : Nat} {Q : Value → PH → Prop} (hQ : ∀ τ,σ.sub τ → Q (.bool true) τ) :
   C 18 #[.agg #[.int .i64 F.ints,.int .i64 F.bools,.slice aa an ac,.slice ca cn cc],.agg #[.slice ba F.bools bc,.slice xa F.ints xc],.slice la 0 lc,.bool true] Q σ := by
 refine go (E18_0 _ _ _ _ _ _ _ _ _ _ _ _ _ _ _ _ _ _ _ _ _) ?_
 unfold S18_0
 have e0 : ∀ b : Nat,(Addr.mk b 0 none).add 0 = ⟨b,0,none⟩ := fun b => rfl
 intro b15 h15
 have s15 := PH.sub_set (o := .cells #[.int .i64 F.ints,.int .i64 F.bools,.slice aa an ac,.slice ca cn cc] 29) h15
 have B15 : Blk (σ.set b15 (.cells #[.int .i64 F.ints,.int .i64 F.bools,.slice aa an ac,.slice ca cn cc] 29)) b15 29 [.int .i64 F.ints,.int .i64 F.bools,.slice aa an ac,.slice ca cn cc] := set_self
 generalize σ.set b15 (.cells #[.int .i64 F.ints,.int .i64 F.bools,.slice aa an ac,.slice ca cn cc] 29) = ω0 at *
 intro b16 h16
 have s16 := PH.sub_set (o := .cells #[.slice ba F.bools bc,.slice xa F.ints xc] 35) h16
 have B16 : Blk (ω0.set b16 (.cells #[.slice ba F.bools bc,.slice xa F.ints xc] 35)) b16 35 [.slice ba F.bools bc,.slice xa F.ints xc] := set_self
 have B15 := s16 _ _ B15
 have sω := s15.trans s16
 generalize ω0.set b16 (.cells #[.slice ba F.bools bc,.slice xa F.ints xc] 35) = ω at *
 replace B15 : Blk ω b15 29 [.int .i64 F.ints,.int .i64 F.bools,.slice aa an ac,.slice ca cn cc] := B15
 have g15 := B15.get (i := 0) rfl
 have g16 := B16.get (i := 0) rfl
 rw [e0] at g15 g16
 refine br_iff.2 ⟨fun _ => br_iff.2 ⟨fun _ => ?_,fun h => by simp at h⟩,fun h => (by cases h)⟩
 refine ⟨_,g15,_,B15.get (i := 1) rfl,_,B15.get (i := 2) rfl,_,B15.get (i := 3) rfl,_,_,_,_,_,_,_,_,rfl,_,g16,_,B16.get (i := 1) rfl,_,_,_,_,_,_,rfl,?_⟩
 exact c39 hF hlen (hA.sub sω) (hL.sub sω) (hB.sub sω) (hX.sub sω) hM fun τ hs => ⟨τ,.refl _,true,rfl,hQ τ (sω.trans hs)⟩
theorem c18no {σ : PH} {F : Fm} (hF : FOk F) (hlen : ∀ c ∈ F.clauses,c.length ≤ 1000000) {aa ca : Option Addr} {an ac cn cc : Nat} (hA : Atoms σ aa an F.atoms) (hL : Lists σ ca cn F.clauses) {a : Option Addr} {n c : Nat} {ps : List PStep} (hS : StepsM σ a n ps) {cs : List (List Int)} (hcs : stepsOf F ps = some cs) (hlast : cs.getLast? = some []) (hn : n ≤ 3500000000000) {Q : Value → PH → Prop} (hQ : ∀ τ,σ.sub τ → Q (.bool true) τ) :
   C 18 #[.agg #[.int .i64 F.ints,.int .i64 F.bools,.slice aa an ac,.slice ca cn cc],.agg #[.slice none 0 0,.slice none 0 0],.slice a n c,.bool false] Q σ := by
 refine go (E18_0 _ _ _ _ _ _ _ _ _ _ _ _ _ _ _ _ _ _ _ _ _) ?_
 unfold S18_0
 have e0 : ∀ b : Nat,(Addr.mk b 0 none).add 0 = ⟨b,0,none⟩ := fun b => rfl
 intro b15 h15
 have s15 := PH.sub_set (o := .cells #[.int .i64 F.ints,.int .i64 F.bools,.slice aa an ac,.slice ca cn cc] 29) h15
 have B15 : Blk (σ.set b15 (.cells #[.int .i64 F.ints,.int .i64 F.bools,.slice aa an ac,.slice ca cn cc] 29)) b15 29 [.int .i64 F.ints,.int .i64 F.bools,.slice aa an ac,.slice ca cn cc] := set_self
 generalize σ.set b15 (.cells #[.int .i64 F.ints,.int .i64 F.bools,.slice aa an ac,.slice ca cn cc] 29) = ω0 at *
 intro b16 h16
 have s16 := PH.sub_set (o := .cells #[.slice none 0 0,.slice none 0 0] 35) h16
 have B16 : Blk (ω0.set b16 (.cells #[.slice none 0 0,.slice none 0 0] 35)) b16 35 [.slice none 0 0,.slice none 0 0] := set_self
 have B15 := s16 _ _ B15
 have sω := s15.trans s16
 generalize ω0.set b16 (.cells #[.slice none 0 0,.slice none 0 0] 35) = ω at *
 replace B15 : Blk ω b15 29 [.int .i64 F.ints,.int .i64 F.bools,.slice aa an ac,.slice ca cn cc] := B15
 have g15 := B15.get (i := 0) rfl
 rw [e0] at g15
 refine br_iff.2 ⟨fun h => (by cases h),fun _ => ?_⟩
 refine ⟨_,g15,_,B15.get (i := 1) rfl,_,B15.get (i := 2) rfl,_,B15.get (i := 3) rfl,_,_,_,_,_,_,_,_,rfl,?_⟩
 refine c40 hF hlen (hA.sub sω) (hL.sub sω) (hS.sub sω) hcs hlast hn fun τ hs => ⟨τ,.refl _,0,0,rfl,br_iff.2 ⟨fun _ => ?_,fun h => by simp at h⟩⟩
 have Bτ : Blk τ b16 35 [.slice none 0 0,.slice none 0 0] := hs _ _ B16
 have g16 := Bτ.get (i := 0) rfl
 rw [e0] at g16
 refine ⟨_,g16,_,_,_,rfl,_,Bτ.get (i := 1) rfl,_,_,_,rfl,?_⟩
 have w : IntKind.wrap .i64 (((0 : Nat) : Int) + ((0 : Nat) : Int)) = 0 := by rw [w64 (by omega) (by omega)]; rfl
 rw [w]
 exact hQ τ (sω.trans hs)
end Go.Proofs.Ythfnjogadngfiaa
namespace Go.Sv
theorem litT_neg {bl : List Bool} {y : Int} (hy : y ≠ 0) : litT bl (-y) ↔ ¬ litT bl y := by
 unfold litT
 by_cases h : 0 < y
 · rw [if_pos h,if_neg (by omega),Int.neg_neg]; simp
 · rw [if_neg h,if_pos (by omega)]; simp
theorem bound_sat {F : Fm} {bl : List Bool} {x : Nat → Int} (hM : SatM F bl x) {y : Int} {d : Dif} (hb : bound F y = some d) (hy : litT bl y) : x (dX d) - x (dY d) ≤ d.2.2 := by
 unfold bound at hb
 split at hb
 · cases hb
 · rename_i h0
   split at hb
   · cases hb
   · rename_i a b c hat
     have := hM.at' _ _ hat
     split at hb
     · rename_i hp
       cases hb
       unfold litT at hy
       rw [if_pos hp,show (y - 1).toNat = vr y from by unfold vr; omega] at hy
       exact this.1 hy
     · rename_i hp
       cases hb
       unfold litT at hy
       rw [if_neg hp,show (-y - 1).toNat = vr y from by unfold vr; omega] at hy
       have hn : ¬ (x (dX (a,b,c)) - x (dY (a,b,c)) ≤ c) := fun h => by
         have := this.2 h
         rw [hy] at this; cases this
       have e1 : dX (b,a,-c - 1) = dY (a,b,c) := rfl
       have e2 : dY (b,a,-c - 1) = dX (a,b,c) := rfl
       rw [e1,e2]
       show _ ≤ -c - 1
       omega
theorem sound {F : Fm} (hF : FOk F) {bl : List Bool} {x : Nat → Int} (hM : SatM F bl x) {l : List PStep} {cs : List (List Int)} (h : stepsOf F l = some cs) : ∀ (i : Nat) c,cs[i]? = some c → ∃ y ∈ c,litT bl y := by
 obtain ⟨hlen,hat⟩ := stepsOf_pre h
 have hlit := steps_lit hF h
 intro i
 induction i using Nat.strongRecOn with
 | ind i ih =>
   intro c hc
   have hi := (List.getElem?_eq_some_iff.1 hc).1
   obtain ⟨s,hs⟩ : ∃ s,l[i]? = some s := ⟨_,List.getElem?_eq_getElem (by omega)⟩
   obtain ⟨c',q1,q2⟩ := hat i s hs
   rw [hc] at q1; cases q1
   have fin : ∀ {d : List Int},norm d = some c → (∃ y ∈ d,litT bl y) → ∃ y ∈ c,litT bl y := fun hd ⟨y,h1,h2⟩ => by
     obtain ⟨_,hm,_⟩ := norm_some hd
     exact ⟨y,(hm y).2 h1,h2⟩
   unfold stepClause at q2
   split at q2
   · split at q2
     · split at q2
       · rename_i d hd
         exact fin q2 (hM.cl d (List.mem_of_getElem? hd))
       · cases q2
     · cases q2
   · split at q2
     · obtain ⟨h1,h2⟩ := cyclic_litN hF q2
       refine fin h2 ?_
       apply Classical.byContradiction
       intro hne
       have hall : ∀ y ∈ s.lits,litT bl y := by
         intro y hy
         apply Classical.byContradiction
         intro hny
         exact hne ⟨-y,List.mem_map.2 ⟨y,hy,rfl⟩,(litT_neg (h1 y hy).1).2 hny⟩
       unfold cyclic at q2
       split at q2
       · cases q2
       · rename_i lb hb
         split at q2
         · rename_i hr
           refine ring_false (x := x) hr.1 fun d hd => ?_
           obtain ⟨y,hy1,hy2⟩ := bounds_mem hb d hd
           exact bound_sat hM hy2 (hall y hy1)
         · cases q2
     · split at q2
       · split at q2
         · split at q2
           · rename_i a b ha hb
             rw [List.getElem?_take] at ha hb
             split at ha
             · rename_i hp
               split at hb
               · rename_i hq
                 refine fin (resolvent_some q2) ?_
                 obtain ⟨y,y1,y2⟩ := ih _ hp a ha
                 obtain ⟨z,z1,z2⟩ := ih _ hq b hb
                 by_cases hy : y = s.v + 1
                 · have hz : z ≠ -(s.v + 1) := by
                     intro hz
                     rw [hz] at z2
                     rw [hy] at y2
                     have h0 : s.v + 1 ≠ 0 := by
                       have := ((hlit _ a ha).2 y y1).1
                       omega
                     exact (litT_neg h0).1 z2 y2
                   exact ⟨z,List.mem_append_right _ (List.mem_filter.2 ⟨z1,by simpa using hz⟩),z2⟩
                 · exact ⟨y,List.mem_append_left _ (List.mem_filter.2 ⟨y1,by simpa using hy⟩),y2⟩
               · cases hb
             · cases ha
           · cases q2
         · cases q2
       · cases q2
theorem sound_no {F : Fm} (hF : FOk F) {bl : List Bool} {x : Nat → Int} (hM : SatM F bl x) {l : List PStep} {cs : List (List Int)} (h : stepsOf F l = some cs) (hl : cs.getLast? = some []) : False := by
 rw [List.getLast?_eq_getElem?] at hl
 obtain ⟨y,hy,_⟩ := sound hF hM h _ _ hl
 simp at hy
end Go.Sv
namespace Go.Proofs.Ythfnjogadngfiaa
open Go.Sl Go.Sv
def aw1 : Fm := ⟨0,3,[],[[-1,2],[-2,3]]⟩
def aw2 : Fm := ⟨2,2,[(0,1,-1),(1,0,-1)],[[1],[2]]⟩
def aw3 : Fm := ⟨2,2,[(0,1,-1),(1,0,-1)],[[1]]⟩
theorem aw1_ok : FOk aw1 := by
 refine ⟨by decide,by decide,by decide,by decide,?_,by decide⟩
 unfold LitN; decide
theorem aw2_ok : FOk aw2 := by
 refine ⟨by decide,by decide,by decide,by decide,?_,by decide⟩
 unfold LitN; decide
theorem aw3_ok : FOk aw3 := by
 refine ⟨by decide,by decide,by decide,by decide,?_,by decide⟩
 unfold LitN; decide
theorem aw_r1 : roundP aw1.clauses [1,0,0] false = some ([1,1,1],true) := by decide
theorem aw_r2 : roundP aw1.clauses [1,1,1] false = some ([1,1,1],false) := by decide
theorem aw_prop : ∀ {r},PropR aw1.clauses [1,0,0] r → r = some [1,1,1] := by
 have h2 : ∀ {r},PropR aw1.clauses [1,1,1] r → r = some [1,1,1] := by
   intro r h
   cases h with
   | stop h => rw [aw_r2] at h; cases h
   | done h => rw [aw_r2] at h; cases h; rfl
   | go h _ => rw [aw_r2] at h; cases h
 intro r h
 cases h with
 | stop h => rw [aw_r1] at h; cases h
 | done h => rw [aw_r1] at h; cases h
 | go h hr => rw [aw_r1] at h; cases h; exact h2 hr
theorem aw2_no {bl : List Bool} {x : Nat → Int} (h : SatM aw2 bl x) : False := by
 obtain ⟨y,hy,h1⟩ := h.cl [1] (by decide)
 obtain ⟨z,hz,h2⟩ := h.cl [2] (by decide)
 simp at hy hz
 subst hy; subst hz
 have a0 := (h.at' 0 (0,1,-1) rfl).1 (by unfold litT at h1; simpa using h1)
 have a1 := (h.at' 1 (1,0,-1) rfl).1 (by unfold litT at h2; simpa using h2)
 have e0 : dX (0,1,-1) = 0 := rfl
 have e1 : dY (0,1,-1) = 1 := rfl
 have e2 : dX (1,0,-1) = 1 := rfl
 have e3 : dY (1,0,-1) = 0 := rfl
 rw [e0,e1] at a0
 rw [e2,e3] at a1
 dsimp only at a0 a1
 omega
theorem aw3_sat : SatM aw3 [true,false] (fun v => if v = 0 then -1 else 0) := by
 refine ⟨rfl,fun c hc => ?_,fun i d hd => ?_,fun v _ => ?_⟩
 · have : c = [1] := by simpa [aw3] using hc
   subst this
   exact ⟨1,by simp,by unfold litT; decide⟩
 · match i,hd with
   | 0,hd => cases hd; decide
   | 1,hd => cases hd; decide
   | i + 2,hd => simp [aw3] at hd
 · show _ ≤ (if v = 0 then (-1 : Int) else 0) ∧ (if v = 0 then (-1 : Int) else 0) ≤ 0
   split <;> omega
theorem blk_ints {ω : PH} {b : Nat} {l : List Int} {n : Nat} (h : Blk ω b 3 (ints l)) (hn : l.length = n) : Ints ω (some (ptr b)) n l := ⟨hn,.inr ⟨_,rfl,fun i v hv => h.get hv⟩⟩
theorem c20 {σ : PH} {Q : Value → PH → Prop} (hQ : ∀ τ,σ.sub τ → Q (.bool true) τ) : C 20 #[] Q σ := by
 refine go (E20_0 _ _ _) ?_
 unfold S20_0
 have e0 : ∀ b : Nat,(Addr.mk b 0 none).add 0 = ⟨b,0,none⟩ := fun b => rfl
 intro b1 h1
 have s1 := PH.sub_set (o := .cells #[.int .i64 (-1),.int .i64 2] 3) h1
 have k1 : Blk (σ.set b1 (.cells #[.int .i64 (-1),.int .i64 2] 3)) b1 3 (ints [-1,2]) := set_self
 generalize σ.set b1 (.cells #[.int .i64 (-1),.int .i64 2] 3) = ω1 at *
 intro b2 h2
 have s2 := PH.sub_set (o := .cells #[.int .i64 (-2),.int .i64 3] 3) h2
 have k2 : Blk (ω1.set b2 (.cells #[.int .i64 (-2),.int .i64 3] 3)) b2 3 (ints [-2,3]) := set_self
 generalize ω1.set b2 (.cells #[.int .i64 (-2),.int .i64 3] 3) = ω2 at *
 intro b3 h3
 have s3 := PH.sub_set (o := .cells #[.slice (some ⟨b1,0,none⟩) 2 2,.slice (some ⟨b2,0,none⟩) 2 2] 33) h3
 have k3 : Blk (ω2.set b3 (.cells #[.slice (some ⟨b1,0,none⟩) 2 2,.slice (some ⟨b2,0,none⟩) 2 2] 33)) b3 33 [.slice (some (ptr b1)) 2 2,.slice (some (ptr b2)) 2 2] := set_self
 generalize ω2.set b3 (.cells #[.slice (some ⟨b1,0,none⟩) 2 2,.slice (some ⟨b2,0,none⟩) 2 2] 33) = ω3 at *
 intro b4 h4
 have s4 := PH.sub_set (o := .cells #[.int .i64 1] 3) h4
 have k4 : Blk (ω3.set b4 (.cells #[.int .i64 1] 3)) b4 3 (ints [1]) := set_self
 generalize ω3.set b4 (.cells #[.int .i64 1] 3) = ω4 at *
 have sub4 := ((s1.trans s2).trans s3).trans s4
 have L1 : Lists ω4 (some (ptr b3)) 2 aw1.clauses := by
   refine ⟨rfl,fun i c hc => ?_⟩
   match i,hc with
   | 0,hc => cases hc; exact ⟨_,_,_,_,rfl,s4.cell (k3.get (i := 0) rfl),blk_ints (s4 _ _ (s3 _ _ (s2 _ _ k1))) rfl,Nat.le_refl _⟩
   | 1,hc => cases hc; exact ⟨_,_,_,_,rfl,s4.cell (k3.get (i := 1) rfl),blk_ints (s4 _ _ (s3 _ _ k2)) rfl,Nat.le_refl _⟩
   | i + 2,hc => simp [aw1] at hc
 have hset : setAll (List.replicate aw1.bools 0) [1] = some [1,0,0] := by decide
 refine c25 (F := aw1) aw1_ok (by decide) L1 (blk_ints k4 rfl) (by intro x hx; simp at hx; subst hx; unfold Lit; omega) (by decide) (fun h => ?_) (fun v val υ7 sl hv hp hs7 hO7 hnew7 => ?_) (fun v hv => ?_)
 · exfalso
   rcases h with h | ⟨v,hv,hp⟩
   · rw [hset] at h; cases h
   · rw [hset] at hv; cases hv
     have := aw_prop hp; cases this
 rotate_left
 · rw [hset] at hv; cases hv
   exact ⟨_,.go aw_r1 (.done aw_r2)⟩
 rw [hset] at hv; cases hv
 have hval := aw_prop hp
 cases hval
 have hl123 : litsTo [1,1,1] aw1.bools = [1,2,3] := by decide
 rw [hl123] at hO7
 refine ⟨υ7,.refl _,_,_,_,_,rfl,?_⟩
 have σ7 := sub4.trans hs7
 have I7 := own_ints hO7
 intro b12 h12
 have s12 := PH.sub_set (o := .cells #[.int .i64 0,.int .i64 1,.int .i64 (-1),.int .i64 1,.int .i64 0,.int .i64 (-1)] 50) h12
 have k12 : Blk (υ7.set b12 (.cells #[.int .i64 0,.int .i64 1,.int .i64 (-1),.int .i64 1,.int .i64 0,.int .i64 (-1)] 50)) b12 50 (difV [(0,1,-1),(1,0,-1)]) := set_self
 generalize υ7.set b12 (.cells #[.int .i64 0,.int .i64 1,.int .i64 (-1),.int .i64 1,.int .i64 0,.int .i64 (-1)] 50) = ω12 at *
 intro b13 h13
 have s13 := PH.sub_set (o := .cells #[.int .i64 1] 3) h13
 have k13 : Blk (ω12.set b13 (.cells #[.int .i64 1] 3)) b13 3 (ints [1]) := set_self
 generalize ω12.set b13 (.cells #[.int .i64 1] 3) = ω13 at *
 intro b14 h14
 have s14 := PH.sub_set (o := .cells #[.int .i64 2] 3) h14
 have k14 : Blk (ω13.set b14 (.cells #[.int .i64 2] 3)) b14 3 (ints [2]) := set_self
 generalize ω13.set b14 (.cells #[.int .i64 2] 3) = ω14 at *
 intro b15 h15
 have s15 := PH.sub_set (o := .cells #[.slice (some ⟨b13,0,none⟩) 1 1,.slice (some ⟨b14,0,none⟩) 1 1] 33) h15
 have k15 : Blk (ω14.set b15 (.cells #[.slice (some ⟨b13,0,none⟩) 1 1,.slice (some ⟨b14,0,none⟩) 1 1] 33)) b15 33 [.slice (some (ptr b13)) 1 1,.slice (some (ptr b14)) 1 1] := set_self
 generalize ω14.set b15 (.cells #[.slice (some ⟨b13,0,none⟩) 1 1,.slice (some ⟨b14,0,none⟩) 1 1] 33) = ω15 at *
 intro b16 h16
 simp only [newSet,newSet0,newCell,newCell0,newFroz,newFroz0,List.setIfInBounds_toArray,List.set_cons_zero,List.set_cons_succ,List.getElem?_toArray,List.getElem?_cons_zero,List.getElem?_cons_succ,Option.some.injEq,exists_eq',true_and,exists_eq_left']
 have s16 := PH.sub_set (o := .cells #[.int .i64 2,.int .i64 2,.slice (some ⟨b12,0,none⟩) 2 2,.slice (some ⟨b15,0,none⟩) 2 2] 29) h16
 have k16 : Blk (ω15.set b16 (.cells #[.int .i64 2,.int .i64 2,.slice (some ⟨b12,0,none⟩) 2 2,.slice (some ⟨b15,0,none⟩) 2 2] 29)) b16 29 [.int .i64 2,.int .i64 2,.slice (some (ptr b12)) 2 2,.slice (some (ptr b15)) 2 2] := set_self
 generalize ω15.set b16 (.cells #[.int .i64 2,.int .i64 2,.slice (some ⟨b12,0,none⟩) 2 2,.slice (some ⟨b15,0,none⟩) 2 2] 29) = ω16 at *
 have s715 := ((s12.trans s13).trans s14).trans s15
 have A2 : Atoms ω15 (some (ptr b12)) 2 aw2.atoms := (own_atoms (n := 2) (c := 2) ⟨rfl,Nat.le_refl _,.inr ⟨b12,_,rfl,k12,rfl,rfl⟩⟩).sub ((s13.trans s14).trans s15)
 have L2 : Lists ω15 (some (ptr b15)) 2 aw2.clauses := by
   refine ⟨rfl,fun i c hc => ?_⟩
   match i,hc with
   | 0,hc => cases hc; exact ⟨_,_,_,_,rfl,k15.get (i := 0) rfl,blk_ints (s15 _ _ (s14 _ _ k13)) rfl,Nat.le_refl _⟩
   | 1,hc => cases hc; exact ⟨_,_,_,_,rfl,k15.get (i := 1) rfl,blk_ints (s15 _ _ k14) rfl,Nat.le_refl _⟩
   | i + 2,hc => simp [aw2] at hc
 have n16 : υ7 b16 = none := new_of s715 h16
 refine ⟨_,_,_,_,_,_,_,_,rfl,?_⟩
 refine c17 (F := aw2) aw2_ok (by decide) (by decide) (A2.sub s16) (L2.sub s16) (Nat.le_refl _) (Nat.le_refl _) (fun τ b X bl x _ _ _ hM => (aw2_no hM).elim) fun υ35 a n c ps cs hs35 _ _ _ _ _ => ?_
 refine ⟨υ35,.refl _,_,_,_,_,_,_,_,_,_,_,rfl,?_⟩
 intro b46 h46
 have k16a : Blk υ35 b16 29 [.int .i64 2,.int .i64 2,.slice (some (ptr b12)) 2 2,.slice (some (ptr b15)) 2 2] := hs35 _ _ k16
 have s46 := PH.sub_set (o := .cells #[.slice none 0 0,.slice none 0 0] 35) h46
 generalize υ35.set b46 (.cells #[.slice none 0 0,.slice none 0 0] 35) = ω46 at *
 have k16b : Blk ω46 b16 29 [.int .i64 2,.int .i64 2,.slice (some (ptr b12)) 2 2,.slice (some (ptr b15)) 2 2] := s46 _ _ k16a
 have st : Step (· = b16) ω46 (ω46.setCell ((ptr b16).add 3) (.slice (some (ptr b15)) (Int.toNat 1) 2)) := setCell_step.weaken fun b hb => hb.trans (add_block _ _)
 have k16c := k16b.set 3 (.slice (some (ptr b15)) (Int.toNat 1) 2)
 have s1546 : ω15.sub ω46 := (s16.trans hs35).trans s46
 have sN : ω15.sub (ω46.setCell ((ptr b16).add 3) (.slice (some (ptr b15)) (Int.toNat 1) 2)) := sub_step_new s1546 st (by rintro b rfl; exact h16)
 refine ⟨_,k16b.get (i := 3) rfl,_,_,_,rfl,by omega,by omega,⟨_,k16b.get (i := 3) rfl⟩,k16b.froz 3,?_⟩
 have g0 := k16c.get (i := 0) rfl
 rw [e0] at g0
 refine ⟨_,g0,_,k16c.get (i := 1) rfl,_,k16c.get (i := 2) rfl,_,k16c.get (i := 3) rfl,_,_,_,_,_,_,_,_,rfl,?_⟩
 have L3 : Lists ω15 (some (ptr b15)) 1 aw3.clauses := by
   refine ⟨rfl,fun i c hc => ?_⟩
   match i,hc with
   | 0,hc => cases hc; exact ⟨_,_,_,_,rfl,k15.get (i := 0) rfl,blk_ints (s15 _ _ (s14 _ _ k13)) rfl,Nat.le_refl _⟩
   | i + 1,hc => simp [aw3] at hc
 refine c17 (F := aw3) aw3_ok (by decide) (by decide) (A2.sub sN) (L3.sub sN) (Nat.le_refl _) (by decide) (fun υ68 b X bl x hs68 _ _ _ => ?_) fun τ a n c ps cs _ _ _ hcs hlast _ => (sound_no aw3_ok aw3_sat hcs hlast).elim
 refine ⟨υ68,.refl _,_,_,_,_,_,_,_,_,_,_,rfl,?_⟩
 intro b79 h79
 have s768 : υ7.sub υ68 := (s715.trans sN).trans hs68
 refine br_iff.2 ⟨fun _ b82 h82 => ?_,fun h => (by cases h)⟩
 have s79 := PH.sub_set (o := .cells #[.slice (some (ptr b)) aw3.bools aw3.bools,.slice (some (ptr X)) aw3.ints aw3.ints] 35) h79
 have s82 := PH.sub_set (o := .cells #[.int .i64 1,.int .i64 2,.int .i64 3] 3) h82
 have s7f := (s768.trans s79).trans s82
 have k82 : Blk ((υ68.set b79 (.cells #[.slice (some (ptr b)) aw3.bools aw3.bools,.slice (some (ptr X)) aw3.ints aw3.ints] 35)).set b82 (.cells #[.int .i64 1,.int .i64 2,.int .i64 3] 3)) b82 3 (ints [1,2,3]) := set_self
 have hn7 := I7.1
 refine (c27 (by unfold Len; simp at hn7; omega) (I7.sub s7f) (blk_ints k82 rfl)).mono hb ?_
 rintro _ τ ⟨rfl,eτ⟩
 obtain rfl := eτ.symm
 exact ⟨_,.refl _,_,rfl,br_iff.2 ⟨fun _ => br_iff.2 ⟨fun _ => hQ _ (σ7.trans s7f),fun h => (by cases h)⟩,fun h => by simp at h⟩⟩
theorem le_sum_len : ∀ {l : List (List Int)} {c : List Int},c ∈ l → c.length ≤ (l.map List.length).sum
 | [],c,h => by simp at h
 | d :: l,c,h => by
   rw [List.map_cons,List.sum_cons]
   rcases List.mem_cons.1 h with rfl | h
   · omega
   · have := le_sum_len h; omega
theorem c5 {σ : PH} {i1 i2 : Int} {aa : Option Addr} {an ac : Nat} {ca : Option Addr} {cn cc : Nat} {atoms : List Dif} {clauses : List (List Int)} (hA : Atoms σ aa an atoms) (hL : Lists σ ca cn clauses) (ha : an ≤ ac) (hcc : cn ≤ cc) (han : an ≤ 1152921504606846976) (hcn : cn ≤ 1152921504606846976) (hlen : ∀ c ∈ clauses,c.length ≤ 1152921504606846976)
   {Q : Value → PH → Prop} (hQ : ∀ τ,σ.sub τ → Q (.bool true) τ) :
   C 5 #[.agg #[.int .i64 i1,.int .i64 i2,.slice aa an ac,.slice ca cn cc]] Q σ := by
 refine go (E5_0 _ _ _ _ _ _ _ _ _ _ _) ?_
 unfold S5_0
 have e0 : ∀ b : Nat,(Addr.mk b 0 none).add 0 = ⟨b,0,none⟩ := fun b => rfl
 have hAn := hA.1
 have hLn := hL.1
 intro b9 h9
 have s9 := PH.sub_set (o := .cells #[.int .i64 i1,.int .i64 i2,.slice aa an ac,.slice ca cn cc] 29) h9
 have B9 : Blk (σ.set b9 (.cells #[.int .i64 i1,.int .i64 i2,.slice aa an ac,.slice ca cn cc] 29)) b9 29 [.int .i64 i1,.int .i64 i2,.slice aa an ac,.slice ca cn cc] := set_self
 generalize σ.set b9 (.cells #[.int .i64 i1,.int .i64 i2,.slice aa an ac,.slice ca cn cc] 29) = ω at *
 have g0 := B9.get (i := 0) rfl
 rw [e0] at g0
 refine ⟨_,B9.get (i := 2) rfl,_,_,_,rfl,_,B9.get (i := 3) rfl,_,_,_,rfl,?_⟩
 have w0 : IntKind.wrap .i64 ((an : Int) + (cn : Int)) = ((an + cn : Nat) : Int) := by rw [w64 (by omega) (by omega)]; omega
 rw [w0]
 have aw : ∀ τ,ω.sub τ → C 20 #[] (fun v τ => ∃ υ : PH,υ.sub τ ∧ ∃ q : Bool,v = .bool q ∧ Q (.bool q) υ) τ := fun τ hs => c20 fun τ' hs' => ⟨τ',.refl _,true,rfl,hQ τ' ((s9.trans hs).trans hs')⟩
 unfold S5_1
 refine iloopS_for (G := Unit) (fun k _ => (ptr b9,((an + cn + ((clauses.take k).map List.length).sum : Nat) : Int),(k : Int))) (fun k _ υ => ω = υ ∧ (k = 0 ∨ an + cn + ((clauses.take (k - 1)).map List.length).sum < 1000)) cn ?_ (g := ()) ⟨rfl,.inl rfl⟩
 rintro k _ _ hk ⟨rfl,hbd⟩ R hR
 unfold S5_2
 dsimp only
 have hacc : an + cn + ((clauses.take k).map List.length).sum ≤ 4611686018427387904 := by
   rcases hbd with rfl | h
   · simp; omega
   · cases k with
     | zero => simp; omega
     | succ k =>
       rw [show k + 1 - 1 = k from rfl] at h
       rw [List.take_add_one,List.map_append,List.sum_append]
       cases hc : clauses[k]? with
       | none =>
         show an + cn + (((clauses.take k).map List.length).sum + 0) ≤ _
         omega
       | some c =>
         have := hlen c (List.mem_of_getElem? hc)
         show an + cn + (((clauses.take k).map List.length).sum + (c.length + 0)) ≤ _
         omega
 refine ⟨_,B9.get (i := 3) rfl,_,_,_,rfl,br_dec.2 ⟨fun hlt => br_dec.2 ⟨fun hs => ?_,fun hs => br_dec.2 ⟨fun _ => aw _ (.refl _),fun h => by omega⟩⟩,fun hge => br_dec.2 ⟨fun _ => aw _ (.refl _),fun h300 => ?_⟩⟩⟩
 · have hkn : k < cn := by omega
   obtain ⟨c,hc⟩ : ∃ c,clauses[k]? = some c := ⟨_,List.getElem?_eq_getElem (by omega)⟩
   have hcl := hlen c (List.mem_of_getElem? hc)
   obtain ⟨p,y,m,kk,hp,hcell,hI,hmk⟩ := (hL.sub s9).2 k c hc
   have hm := hI.1
   have hnext : an + cn + ((clauses.take (k + 1)).map List.length).sum = an + cn + ((clauses.take k).map List.length).sum + m := by
     rw [List.take_add_one,hc,List.map_append,List.sum_append]
     simp; omega
   have wk : IntKind.wrap .i64 ((k : Int) + 1) = ((k + 1 : Nat) : Int) := by rw [w64 (by omega) (by omega)]; omega
   have wa : IntKind.wrap .i64 (((an + cn + ((clauses.take k).map List.length).sum : Nat) : Int) + (m : Int)) = ((an + cn + ((clauses.take (k + 1)).map List.length).sum : Nat) : Int) := by rw [w64 (by omega) (by omega),hnext]; omega
   refine ⟨_,B9.get (i := 3) rfl,_,_,_,rfl,p,hp,by omega,by omega,_,by rw [Int.toNat_natCast,Nat.mul_one]; exact hcell,_,_,_,rfl,?_⟩
   rw [wk,wa]
   exact hR () _ hkn ⟨rfl,.inr (by rw [show k + 1 - 1 = k from rfl]; omega)⟩
 · have hkn : k = cn := by omega
   subst hkn
   rw [List.take_of_length_le (by omega)] at h300
   have hlen2 : ∀ c ∈ clauses,c.length ≤ 1000000 := by
     intro c hc
     have : c.length ≤ (clauses.map List.length).sum := le_sum_len hc
     omega
   refine ⟨_,B9.get (i := 1) rfl,_,rfl,br_dec.2 ⟨fun _ => aw _ (.refl _),fun h40 => ?_⟩⟩
   refine ⟨_,g0,_,B9.get (i := 1) rfl,_,B9.get (i := 2) rfl,_,B9.get (i := 3) rfl,_,_,_,_,_,_,_,_,rfl,?_⟩
   refine c22 (hA.sub s9) (hL.sub s9) hlen2 (fun hF τ hs => ⟨τ,.refl _,0,rfl,br_iff.2 ⟨fun h => by simp at h,fun _ => ?_⟩⟩) fun _ τ e hs he => ⟨τ,.refl _,e,rfl,br_iff.2 ⟨fun _ => aw τ hs,fun h => by rcases he with rfl | rfl <;> simp at h⟩⟩
   obtain ⟨hFo,q1,q2⟩ := hF.fok
   have B9t : Blk τ b9 29 [.int .i64 i1,.int .i64 i2,.slice aa an ac,.slice ca k cc] := hs _ _ B9
   rw [← q1,← q2] at B9t
   have g0t := B9t.get (i := 0) rfl
   rw [e0] at g0t
   refine ⟨_,g0t,_,B9t.get (i := 1) rfl,_,B9t.get (i := 2) rfl,_,B9t.get (i := 3) rfl,_,_,_,_,_,_,_,_,rfl,?_⟩
   have sσ := s9.trans hs
   obtain ⟨F,hFd⟩ : ∃ F : Fm,F = ⟨i1.toNat,i2.toNat,atoms,clauses⟩ := ⟨_,rfl⟩
   have f1 : F.ints = i1.toNat := by rw [hFd]
   have f2 : F.bools = i2.toNat := by rw [hFd]
   have f3 : F.atoms = atoms := by rw [hFd]
   have f4 : F.clauses = clauses := by rw [hFd]
   rw [← hFd] at hFo
   rw [← f1,← f2] at B9t
   rw [← f1] at g0t
   rw [← f1,← f2]
   refine c17 (F := F) hFo (by rw [f2]; omega) (by rw [f4]; exact hlen2) (by rw [f3]; exact hA.sub sσ) (by rw [f4]; exact hL.sub sσ) ha hcc (fun τ2 b X bl x hs2 kb kX hM => ?_) fun τ2 a n c ps cs hs2 hS hnc hcs hlast hn => ?_
   · refine ⟨τ2,.refl _,_,_,_,_,_,_,_,_,_,_,rfl,fun b92 h92 => ?_⟩
     have B9u : Blk τ2 b9 29 [.int .i64 F.ints,.int .i64 F.bools,.slice aa an ac,.slice ca k cc] := hs2 _ _ B9t
     have s92 := PH.sub_set (o := .cells #[.slice (some (ptr b)) F.bools F.bools,.slice (some (ptr X)) F.ints F.ints] 35) h92
     simp only [newSet,newSet0,newCell,newCell0,newFroz,newFroz0,List.setIfInBounds_toArray,List.set_cons_zero,List.set_cons_succ,List.getElem?_toArray,List.getElem?_cons_zero,List.getElem?_cons_succ,Option.some.injEq,exists_eq',true_and,exists_eq_left']
     generalize τ2.set b92 (.cells #[.slice (some (ptr b)) F.bools F.bools,.slice (some (ptr X)) F.ints F.ints] 35) = τ3 at *
     have B9v : Blk τ3 b9 29 [.int .i64 F.ints,.int .i64 F.bools,.slice aa an ac,.slice ca k cc] := s92 _ _ B9u
     have gv := B9v.get (i := 0) rfl
     rw [e0] at gv
     have s3 := (sσ.trans hs2).trans s92
     refine ⟨_,gv,_,B9v.get (i := 1) rfl,_,B9v.get (i := 2) rfl,_,B9v.get (i := 3) rfl,_,_,_,_,_,_,_,_,rfl,_,_,_,_,_,_,rfl,?_⟩
     refine c18sat hFo (by rw [f4]; exact hlen2) (by rw [f3]; exact hA.sub s3) (by rw [f4]; exact hL.sub s3) (bl := bl) (x := x) ⟨hM.len,.inr ⟨_,rfl,fun i v hv => s92.cell (kb.get hv)⟩⟩ ((blk_ints kX (by rw [tab_len])).sub s92) hM fun τ4 hs4 => ⟨τ4,.refl _,true,rfl,br_iff.2 ⟨fun _ => aw _ (((hs.trans hs2).trans s92).trans hs4),fun h => (by cases h)⟩⟩
   · refine ⟨τ2,.refl _,_,_,_,_,_,_,_,_,_,_,rfl,fun b92 h92 => ?_⟩
     have B9u : Blk τ2 b9 29 [.int .i64 F.ints,.int .i64 F.bools,.slice aa an ac,.slice ca k cc] := hs2 _ _ B9t
     have s92 := PH.sub_set (o := .cells #[.slice none 0 0,.slice none 0 0] 35) h92
     simp only [newSet,newSet0,newCell,newCell0,newFroz,newFroz0,List.setIfInBounds_toArray,List.set_cons_zero,List.set_cons_succ,List.getElem?_toArray,List.getElem?_cons_zero,List.getElem?_cons_succ,Option.some.injEq,exists_eq',true_and,exists_eq_left']
     generalize τ2.set b92 (.cells #[.slice none 0 0,.slice none 0 0] 35) = τ3 at *
     have B9v : Blk τ3 b9 29 [.int .i64 F.ints,.int .i64 F.bools,.slice aa an ac,.slice ca k cc] := s92 _ _ B9u
     have gv := B9v.get (i := 0) rfl
     rw [e0] at gv
     have s3 := (sσ.trans hs2).trans s92
     refine ⟨_,gv,_,B9v.get (i := 1) rfl,_,B9v.get (i := 2) rfl,_,B9v.get (i := 3) rfl,_,_,_,_,_,_,_,_,rfl,_,_,_,_,_,_,rfl,?_⟩
     refine c18no hFo (by rw [f4]; exact hlen2) (by rw [f3]; exact hA.sub s3) (by rw [f4]; exact hL.sub s3) (hS.sub s92) hcs hlast hn fun τ4 hs4 => ⟨τ4,.refl _,true,rfl,br_iff.2 ⟨fun _ => aw _ (((hs.trans hs2).trans s92).trans hs4),fun h => (by cases h)⟩⟩
def PH.whole (W : World) : PH := fun b => W.heap[b]?
theorem whole_le (W : World) : PH.le (PH.whole W) W := fun _ _ h => h
theorem whole_cell (W : World) (a : Addr) : (PH.whole W).cell? a = W.cell? a := rfl
section
variable {H : Type} {enc : TypeId × Value → H} {W : World} {sp : Nat → Bool} {held : Bool}
theorem wcells_get {a : Addr} {n : Nat} {cs : List Value} (h : W.cells? 0 a n = some cs) : cs.length = n ∧ ∀ i,i < n → W.cell? (a.add i) = cs[i]? := by
 unfold World.cells? at h
 rw [if_pos (Nat.zero_le _)] at h
 have hl := mapM_some_length h
 rw [List.length_range] at hl
 exact ⟨hl,fun i hi => mapM_some_get h i i (by simp [hi])⟩
theorem u3 : prog.underlying 3 = some (.int .i64) := by kernel_rfl
theorem u33 : prog.underlying 33 = some (.slice 3) := by kernel_rfl
theorem u27 : prog.underlying 27 = some (.slice 33) := by kernel_rfl
theorem u26 : prog.underlying 26 = some (.slice 50) := by kernel_rfl
theorem u50 : prog.underlying 50 = some (.struct #[Field.mk "X" 3 0 false "" "" 0, Field.mk "Y" 3 1 false "" "" 8, Field.mk "C" 3 2 false "" "" 16]) := by kernel_rfl
theorem u29 : prog.underlying 29 = some (.struct #[Field.mk "Ints" 3 0 false "" "" 0, Field.mk "Bools" 3 1 false "" "" 8, Field.mk "Atoms" 26 2 false "" "" 16, Field.mk "Clauses" 27 3 false "" "" 40]) := by kernel_rfl
theorem c3' : prog.cellsOf 3 = 1 := by kernel_rfl
theorem c33' : prog.cellsOf 33 = 1 := by kernel_rfl
theorem c50' : prog.cellsOf 50 = 3 := by kernel_rfl
theorem c26' : prog.cellsOf 26 = 1 := by kernel_rfl
theorem c27' : prog.cellsOf 27 = 1 := by kernel_rfl
theorem c29' : prog.cellsOf 29 = 4 := by kernel_rfl
theorem trod_int {fuel : Nat} {cs : List Value} {x : DataW H × List MemPlace} (h : DataW.trod enc prog W 0 sp held fuel 3 cs = some x) : ∃ n : Int,cs = [.int .i64 n] := by
 cases fuel with
 | zero => simp [DataW.trod] at h
 | succ n =>
   unfold DataW.trod at h
   rw [u3] at h
   split at h <;> simp_all
theorem trod_ints {fuel : Nat} {cs : List Value} {x : DataW H × List MemPlace} (h : DataW.trod enc prog W 0 sp held fuel 33 cs = some x) :
   ∃ (a : Option Addr) (m k : Nat) (l : List Int),cs = [.slice a m k] ∧ Ints (PH.whole W) a m l ∧ m ≤ k ∧ (x.1 = .nil ∧ m = 0 ∨ ∃ es rs,x.1 = .slice es rs ∧ es.length = m) := by
 rcases Go.ChangeShapes.open_ints u33 u3 c3' h with ⟨rfl,rfl⟩ | ⟨a,len,cap,zs,rfl,_,hl,_,hz,rfl,hcell,_⟩
 · exact ⟨none,0,0,[],rfl,⟨rfl,.inl rfl⟩,Nat.le_refl _,.inl ⟨rfl,rfl⟩⟩
 · have hzl : len ≤ zs.length := by rw [hz]; split <;> omega
   refine ⟨some a,len,cap,zs.take len,rfl,⟨by simp; omega,.inr ⟨a,rfl,fun i v hv => ?_⟩⟩,hl,.inr ⟨_,_,rfl,?_⟩⟩
   · rw [List.getElem?_map,List.getElem?_take] at hv
     split at hv
     · rename_i hi
       rw [whole_cell,hcell i (by omega)]
       rw [List.getElem?_eq_getElem (by omega)] at hv
       rw [List.getD_eq_getElem?_getD,List.getElem?_eq_getElem (by omega)]
       exact hv
     · cases hv
   · simp [Go.ChangeShapes.lits]; omega
theorem trod_dif {fuel : Nat} {cs : List Value} {x : DataW H × List MemPlace} (h : DataW.trod enc prog W 0 sp held fuel 50 cs = some x) : ∃ d : Dif,cs = [.int .i64 d.1,.int .i64 d.2.1,.int .i64 d.2.2] := by
 obtain ⟨xs,n,_,_,hl,hx,hf⟩ := DataW.trod_struct u50 h
 rw [c50'] at hl
 match cs,hl with
 | [a,b,c],_ =>
   have hx3 : xs.length = 3 := hx
   have f0 : DataW.trod enc prog W 0 sp held n 3 (([a, b, c].drop 0).take (prog.cellsOf 3)) = xs[0]? := hf 0 (Field.mk "X" 3 0 false "" "" 0) rfl
   have f1 : DataW.trod enc prog W 0 sp held n 3 (([a, b, c].drop 1).take (prog.cellsOf 3)) = xs[1]? := hf 1 (Field.mk "Y" 3 1 false "" "" 8) rfl
   have f2 : DataW.trod enc prog W 0 sp held n 3 (([a, b, c].drop 2).take (prog.cellsOf 3)) = xs[2]? := hf 2 (Field.mk "C" 3 2 false "" "" 16) rfl
   rw [c3'] at f0 f1 f2
   obtain ⟨y0,hy0⟩ : ∃ y,xs[0]? = some y := ⟨_,List.getElem?_eq_getElem (by omega)⟩
   obtain ⟨y1,hy1⟩ : ∃ y,xs[1]? = some y := ⟨_,List.getElem?_eq_getElem (by omega)⟩
   obtain ⟨y2,hy2⟩ : ∃ y,xs[2]? = some y := ⟨_,List.getElem?_eq_getElem (by omega)⟩
   rw [hy0] at f0; rw [hy1] at f1; rw [hy2] at f2
   obtain ⟨n0,e0⟩ := trod_int f0
   obtain ⟨n1,e1⟩ := trod_int f1
   obtain ⟨n2,e2⟩ := trod_int f2
   simp at e0 e1 e2
   exact ⟨(n0,n1,n2),by rw [e0,e1,e2]⟩
open Classical in
theorem trod_atoms {fuel : Nat} {cs : List Value} {x : DataW H × List MemPlace} (h : DataW.trod enc prog W 0 sp held fuel 26 cs = some x) :
   ∃ (a : Option Addr) (m k : Nat) (l : List Dif),cs = [.slice a m k] ∧ Atoms (PH.whole W) a m l ∧ m ≤ k ∧ (x.1 = .nil ∧ m = 0 ∨ ∃ es rs,x.1 = .slice es rs ∧ es.length = m) := by
 rcases DataW.trod_slice u26 h with ⟨rfl,rfl⟩ | ⟨a,len,cap,elems,rest,n,_,rfl,rfl,_,hl,_,hlen,hel,_,_⟩
 · exact ⟨none,0,0,[],rfl,⟨rfl,fun i d hd => by simp at hd⟩,Nat.le_refl _,.inl ⟨rfl,rfl⟩⟩
 · have key : ∀ i,i < len → ∃ d : Dif,W.cell? (a.add (i * 3)) = some (.int .i64 d.1) ∧ W.cell? ((a.add (i * 3)).add 1) = some (.int .i64 d.2.1) ∧ W.cell? ((a.add (i * 3)).add 2) = some (.int .i64 d.2.2) := by
     intro i hi
     have he := hel i hi
     rw [c50',List.getElem?_eq_getElem (by omega)] at he
     rw [Option.bind_eq_some_iff] at he
     obtain ⟨cs,h1,h2⟩ := he
     obtain ⟨d,rfl⟩ := trod_dif h2
     obtain ⟨_,hc⟩ := wcells_get h1
     have e0 : (a.add (i * 3)).add 0 = a.add (i * 3) := by simp [Addr.add]
     have g0 := hc 0 (by omega)
     rw [e0] at g0
     exact ⟨d,g0,hc 1 (by omega),hc 2 (by omega)⟩
   refine ⟨some a,len,cap,(List.range len).map fun i => if hi : i < len then (key i hi).choose else (0,0,0),rfl,⟨by simp,fun i d hd => ?_⟩,hl,.inr ⟨_,_,rfl,by simpa using hlen⟩⟩
   have hi : i < len := by have := (List.getElem?_eq_some_iff.1 hd).1; simpa using this
   rw [List.getElem?_map,List.getElem?_range hi] at hd
   simp only [Option.map_some,Option.some.injEq,dif_pos hi] at hd
   subst hd
   obtain ⟨q0,q1,q2⟩ := (key i hi).choose_spec
   exact ⟨a,rfl,q0,q1,q2⟩
theorem by50 : prog.bytesOf 50 = 24 := by kernel_rfl
theorem by33 : prog.bytesOf 33 = 24 := by kernel_rfl
theorem by3 : prog.bytesOf 3 = 8 := by kernel_rfl
theorem weightsAll_mem {e : TypeId} : ∀ {l : List (DataW H)} {d : DataW H},d ∈ l → ∀ n ∈ DataW.weights prog e d,n ∈ DataW.weightsAll prog e l
 | [],d,h,_,_ => by simp at h
 | y :: l,d,h,n,hn => by
   rw [DataW.weightsAll]
   rcases List.mem_cons.1 h with rfl | h
   · exact List.mem_append_left _ hn
   · exact List.mem_append_right _ (weightsAll_mem h n hn)
theorem slice_weight {t e : TypeId} (ht : prog.underlying t = some (.slice e)) {es rs : List (DataW H)} (h : ∀ n ∈ DataW.weights prog t (.slice es rs),n ≤ reachBytes) : (es.length + rs.length) * prog.bytesOf e ≤ reachBytes ∧ ∀ d ∈ es,∀ n ∈ DataW.weights prog e d,n ≤ reachBytes := by
 rw [DataW.weights,ht] at h
 exact ⟨h _ List.mem_cons_self,fun d hd n hn => h n (List.mem_cons_of_mem _ (List.mem_append_left _ (weightsAll_mem hd n hn)))⟩
open Classical in
theorem trod_clauses {fuel : Nat} {cs : List Value} {x : DataW H × List MemPlace} (h : DataW.trod enc prog W 0 sp held fuel 27 cs = some x) (hw : ∀ n ∈ DataW.weights prog 27 x.1,n ≤ reachBytes) :
   ∃ (a : Option Addr) (m k : Nat) (l : List (List Int)),cs = [.slice a m k] ∧ Lists (PH.whole W) a m l ∧ m ≤ k ∧ m ≤ 1152921504606846976 ∧ ∀ c ∈ l,c.length ≤ 1152921504606846976 := by
 rcases DataW.trod_slice u27 h with ⟨rfl,rfl⟩ | ⟨a,len,cap,elems,rest,n,_,rfl,rfl,_,hl,_,hlen,hel,_,_⟩
 · exact ⟨none,0,0,[],rfl,⟨rfl,fun i d hd => by simp at hd⟩,Nat.le_refl _,by omega,by simp⟩
 · obtain ⟨w1,w2⟩ := slice_weight u27 hw
   rw [by33] at w1
   have key : ∀ i,i < len → ∃ c : List Int,c.length ≤ 1152921504606846976 ∧ ∃ y m k,W.cell? (a.add i) = some (.slice y m k) ∧ Ints (PH.whole W) y m c ∧ m ≤ k := by
     intro i hi
     have he := hel i hi
     rw [c33',Nat.mul_one,List.getElem?_eq_getElem (by omega)] at he
     rw [Option.bind_eq_some_iff] at he
     obtain ⟨cs,h1,h2⟩ := he
     obtain ⟨y,m,k,c,rfl,hI,hmk,hd⟩ := trod_ints h2
     obtain ⟨_,hc⟩ := wcells_get h1
     have e0 : (a.add i).add 0 = a.add i := by simp [Addr.add]
     have g0 := hc 0 (by omega)
     rw [e0] at g0
     refine ⟨c,?_,y,m,k,g0,hI,hmk⟩
     rw [hI.1]
     rcases hd with ⟨_,h0⟩ | ⟨es,rs,h0,h3⟩
     · omega
     · have hm : (elems[i]'(by omega)).1 ∈ elems.map (·.1) := List.mem_map_of_mem (List.getElem_mem _)
       have w3 := w2 _ hm
       rw [h0] at w3
       have w4 := (slice_weight u33 w3).1
       rw [by3] at w4
       unfold reachBytes at w4
       omega
   refine ⟨some a,len,cap,(List.range len).map fun i => if hi : i < len then (key i hi).choose else [],rfl,⟨by simp,fun i c hc => ?_⟩,hl,?_,fun c hc => ?_⟩
   · have hi : i < len := by have := (List.getElem?_eq_some_iff.1 hc).1; simpa using this
     rw [List.getElem?_map,List.getElem?_range hi] at hc
     simp only [Option.map_some,Option.some.injEq,dif_pos hi] at hc
     subst hc
     obtain ⟨_,y,m,k,q1,q2,q3⟩ := (key i hi).choose_spec
     exact ⟨a,y,m,k,rfl,q1,q2,q3⟩
   · simp only [List.length_map] at w1
     unfold reachBytes at w1
     omega
   · obtain ⟨i,hi,rfl⟩ := List.mem_map.1 hc
     have hi : i < len := List.mem_range.1 hi
     rw [dif_pos hi]
     exact (key i hi).choose_spec.1
theorem trod_formula {v : Value} {d : DataW H} {ps : List MemPlace} (h : DataW.Trod enc prog W 0 sp held 29 v d ps) (hw : ∀ n ∈ DataW.weights prog 29 d,n ≤ reachBytes) :
   ∃ (i1 i2 : Int) (aa : Option Addr) (an ac : Nat) (ca : Option Addr) (cn cc : Nat) (atoms : List Dif) (clauses : List (List Int)),v.cells.toList = [.int .i64 i1,.int .i64 i2,.slice aa an ac,.slice ca cn cc] ∧ Atoms (PH.whole W) aa an atoms ∧ Lists (PH.whole W) ca cn clauses ∧ an ≤ ac ∧ cn ≤ cc ∧
     an ≤ 1152921504606846976 ∧ cn ≤ 1152921504606846976 ∧ ∀ c ∈ clauses,c.length ≤ 1152921504606846976 := by
 obtain ⟨fuel,h⟩ := h
 obtain ⟨xs,n,_,hd,hl,hx,hf⟩ := DataW.trod_struct u29 h
 rw [c29'] at hl
 generalize hcs : v.cells.toList = cs at *
 match cs,hl with
 | [a,b,c,e],_ =>
   have hx4 : xs.length = 4 := hx
   have f0 : DataW.trod enc prog W 0 sp held n 3 (([a, b, c, e].drop 0).take (prog.cellsOf 3)) = xs[0]? := hf 0 (Field.mk "Ints" 3 0 false "" "" 0) rfl
   have f1 : DataW.trod enc prog W 0 sp held n 3 (([a, b, c, e].drop 1).take (prog.cellsOf 3)) = xs[1]? := hf 1 (Field.mk "Bools" 3 1 false "" "" 8) rfl
   have f2 : DataW.trod enc prog W 0 sp held n 26 (([a, b, c, e].drop 2).take (prog.cellsOf 26)) = xs[2]? := hf 2 (Field.mk "Atoms" 26 2 false "" "" 16) rfl
   have f3 : DataW.trod enc prog W 0 sp held n 27 (([a, b, c, e].drop 3).take (prog.cellsOf 27)) = xs[3]? := hf 3 (Field.mk "Clauses" 27 3 false "" "" 40) rfl
   rw [c3'] at f0 f1
   rw [c26'] at f2
   rw [c27'] at f3
   match xs,hx4 with
   | [y0,y1,y2,y3],_ =>
     have hdd : d = .agg [y0.1,y1.1,y2.1,y3.1] := by simpa using congrArg Prod.fst hd
     subst hdd
     rw [DataW.weights,u29] at hw
     have hwA : ∀ n ∈ DataW.weights prog 26 y2.1,n ≤ reachBytes := fun n hn => hw n (by simp [DataW.weightsEach,hn])
     have hwC : ∀ n ∈ DataW.weights prog 27 y3.1,n ≤ reachBytes := fun n hn => hw n (by simp [DataW.weightsEach,hn])
     obtain ⟨n0,e0⟩ := trod_int f0
     obtain ⟨n1,e1⟩ := trod_int f1
     obtain ⟨aa,an,ac,atoms,e2,hA,ha,hAd⟩ := trod_atoms f2
     obtain ⟨ca,cn,cc,clauses,e3,hC,hc,hcn,hcl⟩ := trod_clauses f3 hwC
     simp at e0 e1 e2 e3
     refine ⟨n0,n1,aa,an,ac,ca,cn,cc,atoms,clauses,by rw [e0,e1,e2,e3],hA,hC,ha,hc,?_,hcn,hcl⟩
     rcases hAd with ⟨_,h0⟩ | ⟨es,rs,h0,h1⟩
     · omega
     · rw [h0] at hwA
       have := (slice_weight u26 hwA).1
       rw [by50] at this
       unfold reachBytes at this
       omega
end
end Go.Proofs.Ythfnjogadngfiaa
namespace Go.Proofs.Ythfnjogadngfiaa.SolveAny
open Go.ChangeShapes Go.WideShapes Go.ChangeAt Go.RowKit Go.Sl Go.Sv
theorem own : ownKnob Try.prog.godebug = none := by kernel_rfl
theorem laidOut : laidOutB Try.prog = true := by kernel_rfl
theorem walk {i1 i2 : Int} {aa ca : Option Addr} {an ac cn cc : Nat} {atoms : List Dif} {clauses : List (List Int)} (W : World) (hA : Atoms (PH.whole W) aa an atoms) (hL : Lists (PH.whole W) ca cn clauses) (ha : an ≤ ac) (hcc : cn ≤ cc)
   (han : an ≤ 1152921504606846976) (hcn : cn ≤ 1152921504606846976) (hlen : ∀ c ∈ clauses,c.length ≤ 1152921504606846976) :
   Calls Try.prog 5 #[.agg #[.int .i64 i1,.int .i64 i2,.slice aa an ac,.slice ca cn cc]] W fun e w' => e = .returned (.bool true) ∧ Below W.heap.size W w' := by
 have h : C 5 #[.agg #[.int .i64 i1,.int .i64 i2,.slice aa an ac,.slice ca cn cc]] (fun v τ => v = .bool true ∧ (PH.whole W).sub τ) (PH.whole W) :=
   c5 hA hL ha hcc han hcn hlen fun τ hs => ⟨rfl,hs⟩
 have hm : prog.follows .mixedOrders = true := by kernel_rfl
 refine ((ICall.calls hm SemCall.hc) _ _ _ _ W h (whole_le W)).mono fun e w' hcp => ?_
 obtain ⟨v,τ,rfl,⟨rfl,hs⟩,hle,hfr⟩ := hcp
 refine ⟨rfl,hfr.os,hfr.tape,hfr.output,hfr.size,fun k hk => ?_⟩
 have hg : W.heap[k]? = some W.heap[k] := Array.getElem?_eq_getElem hk
 rw [hg]
 exact hle _ _ (hs _ _ hg)
set_option maxRecDepth 100000 in
theorem lifted (os : Os) (started : os.Started) (H : Type) (enc : TypeId × Value → H) :
   ReturnsInHanded {} Try.checked os 5 .any (Rows.solveAnySpec.pre6 enc Try.prog Try.f5 Rows.solveAnyRow.domain false) (Rows.solveAnySpec.post enc Try.prog Try.f5 false true false false) := by
 refine returnsInHanded_of_change_sized (C := Try.checked) own started (by kernel_rfl) Try.func5
   (ChangeSpec.witness6 (enc := enc) (C := Try.checked) false ⟨#[],#[.agg #[.int .i64 0,.int .i64 0,.slice none 0 0,.slice none 0 0]],[]⟩ 8 (by kernel_rfl) (by kernel_rfl) (by kernel_rfl) (by kernel_rfl)) ?_
 intro W base args ds gs before hval0 hW hcnd hsz0 _
 have hsz : (DataW.weightsEach Try.prog (Try.f5.params.toList ++ Rows.solveAnySpec.plain.varTypes Try.prog) (ds ++ gs)).all (· ≤ reachBytes) = true := hsz0
 clear hsz0
 have hval : ∀ (j : Nat) t v,Try.f5.params[j]? = some t → args[j]? = some v → Value.okWide Try.prog W .any base t v := hval0
 have hW' := hW
 obtain ⟨p,q,hA0,hV,rfl,hfz,hnd⟩ := hW
 have hA : DataW.TrodAll enc Try.prog W 0 (fun _ => true) true Try.f5.params.toList args.toList ds p := hA0
 rw [Try.params5] at hA hval hsz
 obtain ⟨v0,vs0,d0,ds0,p0,q0,hargs,rfl,rfl,h0,r0⟩ := trodAll_cons hA
 obtain ⟨rfl,rfl,rfl⟩ := trodAll_nil r0
 obtain rfl : args = #[v0] := by cases args; simp_all
 obtain ⟨rfl,rfl⟩ := trodVars_none hV
 obtain ⟨cs,rfl,hcsz⟩ := okWide_struct Try.underlying29 (hval 0 29 v0 rfl rfl)
 have k0 := h0
 have lt0 : ∀ x ∈ p0,x.block < W.heap.size := by obtain ⟨m,hm⟩ := k0; exact DataW.trod_lt m _ _ _ hm
 have hw : ∀ n ∈ DataW.weights prog 29 d0,n ≤ reachBytes := by
   intro n hn
   have := List.all_eq_true.1 hsz n (by first | (simp [DataW.weightsEach]; first | exact hn | exact Or.inl hn) | (rw [List.cons_append,List.cons_append,DataW.weightsEach]; exact List.mem_append_left _ hn))
   simpa using this
 obtain ⟨i1,i2,aa,an,ac,ca,cn,cc,atoms,clauses,hcs,hAt,hLi,ha,hcc,han,hcn,hlen⟩ := trod_formula h0 hw
 obtain rfl : cs = #[.int .i64 i1,.int .i64 i2,.slice aa an ac,.slice ca cn cc] := by
   have : cs.toList = _ := hcs
   cases cs; simp_all
 clear hA0 hval0
 refine (walk W hAt hLi ha hcc han hcn hlen).mono fun e W' ⟨he,bel⟩ => ?_
 subst he
 exact ⟨_,rfl,_,_,_,[],_,[],hW',trodAll_mk1 (shut_bool Try.underlying4 _),trodAll_cons_mk (Below.trod laidOut (by kernel_rfl) (of_decide_eq_true (by kernel_rfl)) k0 bel lt0) trodAll_mk0,rfl,bel.frame _,fun h => by cases h⟩
theorem over : Rows.solveAnyRow.holds Try.pinned (OpenSpec.ofChange Rows.solveAnySpec) :=
 OpenClaim.holds_of_wide 5 Try.f5 rfl rfl rfl rfl rfl rfl rfl ⟨rfl,rfl,rfl,rfl,rfl⟩ rfl rfl rfl rfl rfl (by kernel_rfl) Try.func5 (by kernel_rfl)
   (of_decide_eq_true (by kernel_rfl)) (by unfold Func.isWrapper; first | (rw [if_pos (by decide +kernel)]; kernel_rfl) | (rw [if_neg (by decide +kernel)]; exact ⟨rfl,rfl⟩))
   (fun os started H enc _ => lifted os started H enc)
theorem proved : Rows.SolveAnySaid := over
end Go.Proofs.Ythfnjogadngfiaa.SolveAny
