/- SolveRings answers true at every pair of bytes; no condition beyond the row's own. -/
import Derived.ChangeArms
import Derived.ChangeSlices
import Derived.DataReads
import Derived.OpenShut
import Derived.WalkKit
import Derived.ProofKit
import Derived.ShutString
import Derived.ChangeOld
import Derived.Below
import Derived.Carry
import Derived.SizedLaws
import Derived.Test.YthfnjogadngfiaaRows
import Derived.Test.YthfnjogadngfiaaXc14
set_option maxRecDepth 100000
set_option linter.unusedVariables false
set_option linter.unusedSimpArgs false
namespace Go.Proofs.Ythfnjogadngfiaa
open Go.Sl Go.Sv
def Res (τ : PH) (F : Fm) (ma : Option Addr) (mn mc : Nat) (xa : Option Addr) (xn xc : Nat) (la : Option Addr) (ln lc : Nat) (ok : Bool) : Prop :=
 (ok = true ∧ ∃ bl x b X,ma = some (ptr b) ∧ Blk τ b 4 (boolsV bl) ∧ xa = some (ptr X) ∧ Blk τ X 3 (ints (tab F.ints x)) ∧ SatM F bl x ∧ mn = F.bools ∧ xn = F.ints ∧ ln = 0) ∨
 (ok = false ∧ ∃ ps cs,StepsM τ la ln ps ∧ ln ≤ lc ∧ stepsOf F ps = some cs ∧ cs.getLast? = some [] ∧ ln ≤ 3500000000000 ∧ ma = none ∧ mn = 0 ∧ mc = 0 ∧ xa = none ∧ xn = 0 ∧ xc = 0)
theorem Res.sub {σ τ : PH} (hs : σ.sub τ) {F : Fm} {ma : Option Addr} {mn mc : Nat} {xa : Option Addr} {xn xc : Nat} {la : Option Addr} {ln lc : Nat} {ok : Bool} (h : Res σ F ma mn mc xa xn xc la ln lc ok) : Res τ F ma mn mc xa xn xc la ln lc ok := by
 rcases h with ⟨h0,bl,x,b,X,h1,h2,h3,h4,h5⟩ | ⟨h0,ps,cs,h1,h2⟩
 · exact .inl ⟨h0,bl,x,b,X,h1,hs _ _ h2,h3,hs _ _ h4,h5⟩
 · exact .inr ⟨h0,ps,cs,h1.sub hs,h2⟩
theorem Res.keep {σ τ : PH} {F : Fm} {ma : Option Addr} {mn mc : Nat} {xa : Option Addr} {xn xc : Nat} {la : Option Addr} {ln lc : Nat} (h : Res σ F ma mn mc xa xn xc la ln lc true) {t e : Nat} {vs : List Value} (hb : Blk σ t e vs) (he : e ≠ 4 ∧ e ≠ 3) (st : Step (· = t) σ τ) : Res τ F ma mn mc xa xn xc la ln lc true := by
 rcases h with ⟨h0,bl,x,b,X,h1,h2,h3,h4,h5⟩ | ⟨h0,_⟩
 · exact .inl ⟨h0,bl,x,b,X,h1,h2.keep st (ne_ty hb h2 he.1).symm,h3,h4.keep st (ne_ty hb h4 he.2).symm,h5⟩
 · cases h0
theorem Res.sat {τ : PH} {F : Fm} {ma : Option Addr} {mn mc : Nat} {xa : Option Addr} {xn xc : Nat} {la : Option Addr} {ln lc : Nat} (h : Res τ F ma mn mc xa xn xc la ln lc true) : ∃ bl x,SatM F bl x := by
 rcases h with ⟨_,bl,x,_,_,_,_,_,_,h,_⟩ | ⟨h,_⟩
 · exact ⟨bl,x,h⟩
 · cases h
theorem Res.unsat {τ : PH} {F : Fm} (hF : FOk F) {ma : Option Addr} {mn mc : Nat} {xa : Option Addr} {xn xc : Nat} {la : Option Addr} {ln lc : Nat} (h : Res τ F ma mn mc xa xn xc la ln lc false) {bl : List Bool} {x : Nat → Int} (hM : SatM F bl x) : False := by
 rcases h with ⟨h,_⟩ | ⟨_,ps,cs,_,_,h1,h2,_⟩
 · cases h
 · exact sound_no hF hM h1 h2
theorem Res.false_of {τ : PH} {F : Fm} (hno : ∀ bl x,¬ SatM F bl x) {ma : Option Addr} {mn mc : Nat} {xa : Option Addr} {xn xc : Nat} {la : Option Addr} {ln lc : Nat} {ok : Bool} (h : Res τ F ma mn mc xa xn xc la ln lc ok) : ok = false := by
 cases ok
 · rfl
 · obtain ⟨bl,x,hM⟩ := h.sat; exact (hno bl x hM).elim
theorem Res.true_of {τ : PH} {F : Fm} (hF : FOk F) {bl : List Bool} {x : Nat → Int} (hM : SatM F bl x) {ma : Option Addr} {mn mc : Nat} {xa : Option Addr} {xn xc : Nat} {la : Option Addr} {ln lc : Nat} {ok : Bool} (h : Res τ F ma mn mc xa xn xc la ln lc ok) : ok = true := by
 cases ok
 · exact (h.unsat hF hM).elim
 · rfl
theorem c17r {F : Fm} {σ : PH} (hF : FOk F) (h40 : F.bools ≤ 40) (hlen : ∀ c ∈ F.clauses,c.length ≤ 1000000) {aa ca : Option Addr} {an ac cn cc : Nat} (hA : Atoms σ aa an F.atoms) (hL : Lists σ ca cn F.clauses) (ha : an ≤ ac) (hcc : cn ≤ cc) {Q : Value → PH → Prop}
   (hQ : ∀ τ ma mn mc xa xn xc la ln lc ok,σ.sub τ → Res τ F ma mn mc xa xn xc la ln lc ok → Q (.tuple #[.agg #[.slice ma mn mc,.slice xa xn xc],.slice la ln lc,.bool ok]) τ) :
   C 17 #[.agg #[.int .i64 F.ints,.int .i64 F.bools,.slice aa an ac,.slice ca cn cc]] Q σ := by
 refine c17 hF h40 hlen hA hL ha hcc (fun τ b X bl x hs kb kX hM => ?_) fun τ a n c ps cs hs hS hnc hcs hlast hn => ?_
 · exact hQ τ _ _ _ _ _ _ _ _ _ _ hs (.inl ⟨rfl,bl,x,b,X,rfl,kb,rfl,kX,hM,rfl,rfl,rfl⟩)
 · exact hQ τ _ _ _ _ _ _ _ _ _ _ hs (.inr ⟨rfl,ps,cs,hS,hnc,hcs,hlast,hn,rfl,rfl,rfl,rfl,rfl,rfl⟩)
theorem c18r {σ : PH} {F : Fm} (hF : FOk F) (hlen : ∀ c ∈ F.clauses,c.length ≤ 1000000) {aa ca : Option Addr} {an ac cn cc : Nat} (hA : Atoms σ aa an F.atoms) (hL : Lists σ ca cn F.clauses) {ma : Option Addr} {mn mc : Nat} {xa : Option Addr} {xn xc : Nat} {la : Option Addr} {ln lc : Nat} {ok : Bool} (h : Res σ F ma mn mc xa xn xc la ln lc ok) {Q : Value → PH → Prop} (hQ : ∀ τ,σ.sub τ → Q (.bool true) τ) :
   C 18 #[.agg #[.int .i64 F.ints,.int .i64 F.bools,.slice aa an ac,.slice ca cn cc],.agg #[.slice ma mn mc,.slice xa xn xc],.slice la ln lc,.bool ok] Q σ := by
 rcases h with ⟨rfl,bl,x,b,X,rfl,h1,rfl,h2,h3,rfl,rfl,rfl⟩ | ⟨rfl,ps,cs,h1,h2,h3,h4,h5,rfl,rfl,rfl,rfl,rfl,rfl⟩
 · exact c18sat hF hlen hA hL ⟨h3.len,.inr ⟨_,rfl,fun i v hv => h1.get hv⟩⟩ (blk_ints h2 (by rw [tab_len])) h3 hQ
 · exact c18no hF hlen hA hL h1 h3 h4 h5 hQ
theorem c20' {σ : PH} {Q : Value → PH → Prop} (hQ : ∀ τ,σ.sub τ → Q (.bool true) τ) : C 20 #[] (fun v τ => ∃ υ : PH,υ.sub τ ∧ ∃ q : Bool,v = .bool q ∧ Q (.bool q) υ) σ := c20 fun τ hs => ⟨τ,.refl _,true,rfl,hQ τ hs⟩
theorem tm {a b : Int} (h : 0 ≤ a) (hb : 0 < b) : 0 ≤ a.tmod b ∧ a.tmod b < b := ⟨Int.tmod_nonneg b h,Int.tmod_lt_of_pos a hb⟩
structure PrOk (F : Fm) : Prop where
 fok : FOk F
 bools : 1 ≤ F.bools ∧ F.bools ≤ 18
 ints : 2 ≤ F.ints ∧ F.ints ≤ 6
 an : 1 ≤ F.atoms.length ∧ F.atoms.length ≤ 12
 cn : F.clauses.length ≤ 40
 cl : ∀ c ∈ F.clauses,c.length ≤ 4
 at' : ∀ d ∈ F.atoms,-4 ≤ d.2.2 ∧ d.2.2 ≤ 2
theorem wi {x : Int} (h : 0 ≤ x ∧ x < 256) : IntKind.wrap .i64 x = x := w64 (by omega) (by omega)
end Go.Proofs.Ythfnjogadngfiaa
namespace Go.Sv
def ringA (k n : Nat) : List Dif := (List.range n).map fun i => (((i : Nat) : Int),(((i + 1) % k : Nat) : Int),(-1 : Int))
def ringC (n : Nat) : List (List Int) := (List.range n).map fun (i : Nat) => [(i : Int) + 1]
def rngF (k : Nat) : Fm := ⟨k,k,ringA k k,ringC k⟩
def rngO (k o : Nat) : Fm := ⟨k,k,ringA k k,(ringC k).set o [-((o : Int) + 1)]⟩
theorem ringA_get {k n i : Nat} (h : i < n) : (ringA k n)[i]? = some (((i : Nat) : Int),(((i + 1) % k : Nat) : Int),(-1 : Int)) := by
 unfold ringA; rw [List.getElem?_map,List.getElem?_range h]; rfl
theorem ringC_get {n i : Nat} (h : i < n) : (ringC n)[i]? = some [(i : Int) + 1] := by
 unfold ringC; rw [List.getElem?_map,List.getElem?_range h]; rfl
theorem ringA_len {k n : Nat} : (ringA k n).length = n := by unfold ringA; simp
theorem ringC_len {n : Nat} : (ringC n).length = n := by unfold ringC; simp
theorem ringA_ok {k : Nat} (h2 : 2 ≤ k) : ∀ d ∈ ringA k k,0 ≤ d.1 ∧ d.1 < (k : Int) ∧ 0 ≤ d.2.1 ∧ d.2.1 < (k : Int) ∧ d.1 ≠ d.2.1 ∧ -1048576 ≤ d.2.2 ∧ d.2.2 ≤ 1048576 := by
 intro d hd
 unfold ringA at hd
 obtain ⟨i,hi,rfl⟩ := List.mem_map.1 hd
 rw [List.mem_range] at hi
 have h1 : (i + 1) % k < k := Nat.mod_lt _ (by omega)
 have h3 : (i + 1) % k ≠ i := by
   by_cases e : i + 1 < k
   · rw [Nat.mod_eq_of_lt e]; omega
   · have : i + 1 = k := by omega
     rw [this,Nat.mod_self]; omega
 refine ⟨?_,?_,?_,?_,?_,?_,?_⟩ <;> dsimp only <;> omega
theorem ring_ok {k : Nat} (h2 : 2 ≤ k) (h11 : k ≤ 32) : FOk (rngF k) := by
 refine ⟨h11,by show k ≤ 1024; omega,by show (ringA k k).length ≤ k; rw [ringA_len]; omega,ringA_ok h2,?_,by show (ringC k).length ≤ 32768; rw [ringC_len]; omega⟩
 intro c hc x hx
 obtain ⟨i,hi,rfl⟩ := List.mem_map.1 (show c ∈ ringC k from hc)
 rw [List.mem_range] at hi
 simp at hx; subst hx
 show LitN k _
 unfold LitN; omega
theorem rngO_ok {k o : Nat} (h2 : 2 ≤ k) (h11 : k ≤ 32) (ho : o < k) : FOk (rngO k o) := by
 refine ⟨h11,by show k ≤ 1024; omega,by show (ringA k k).length ≤ k; rw [ringA_len]; omega,ringA_ok h2,?_,by show ((ringC k).set o _).length ≤ 32768; rw [List.length_set,ringC_len]; omega⟩
 intro c hc x hx
 show LitN k _
 rcases List.mem_or_eq_of_mem_set (show c ∈ (ringC k).set o _ from hc) with h | rfl
 · obtain ⟨i,hi,rfl⟩ := List.mem_map.1 (show c ∈ ringC k from h)
   rw [List.mem_range] at hi
   simp at hx; subst hx
   unfold LitN; omega
 · simp at hx; subst hx
   unfold LitN; omega
theorem ring_no {k : Nat} (h1 : 1 ≤ k) (bl : List Bool) (x : Nat → Int) : ¬ SatM (rngF k) bl x := by
 intro h
 have key : ∀ i,i < k → x i - x ((i + 1) % k) ≤ -1 := by
   intro i hi
   obtain ⟨y,hy,hl⟩ := h.cl [(i : Int) + 1] (List.mem_of_getElem? (ringC_get hi))
   simp at hy; subst hy
   unfold litT at hl
   rw [if_pos (by omega),show ((i : Int) + 1 - 1).toNat = i by omega] at hl
   have := (h.at' i _ (ringA_get hi)).1 hl
   simp only [dX,dY,Int.toNat_natCast] at this
   exact this
 have up : ∀ i,i < k → x 0 + i ≤ x i := by
   intro i
   induction i with
   | zero => intro _; simp
   | succ i ih =>
     intro hi
     have h1 := ih (by omega)
     have h2 := key i (by omega)
     rw [Nat.mod_eq_of_lt hi] at h2
     omega
 have h2 := up (k - 1) (by omega)
 have h3 := key (k - 1) (by omega)
 rw [show k - 1 + 1 = k by omega,Nat.mod_self] at h3
 omega
theorem rngO_sat {k o : Nat} (h2 : 2 ≤ k) (h11 : k ≤ 32) (ho : o < k) : SatM (rngO k o) ((List.range k).map fun i => decide (i ≠ o)) (fun v => if o + 1 ≤ v then (v : Int) - (o + 1) - k else (v : Int) - (o + 1)) := by
 have gb : ∀ i,i < k → ((List.range k).map fun i => decide (i ≠ o)).getD i false = decide (i ≠ o) := by
   intro i hi
   rw [List.getD_eq_getElem?_getD,List.getElem?_map,List.getElem?_range hi]; rfl
 refine ⟨by simp [rngO],fun c hc => ?_,fun i d hd => ?_,fun v hv => ?_⟩
 · obtain ⟨i,hi⟩ := List.mem_iff_getElem?.1 (show c ∈ (ringC k).set o _ from hc)
   rw [List.getElem?_set] at hi
   split at hi
   · rename_i e; subst e
     split at hi
     · cases hi
       refine ⟨_,List.mem_singleton.2 rfl,?_⟩
       unfold litT
       rw [if_neg (by omega),show (-(-((o : Int) + 1)) - 1).toNat = o by omega,gb o ho]
       simp
     · cases hi
   · rename_i e
     have hik : i < k := by have := (List.getElem?_eq_some_iff.1 hi).1; rw [ringC_len] at this; exact this
     rw [ringC_get hik] at hi
     cases hi
     refine ⟨_,List.mem_singleton.2 rfl,?_⟩
     unfold litT
     rw [if_pos (by omega),show ((i : Int) + 1 - 1).toNat = i by omega,gb i hik]
     simp; omega
 · have hik : i < k := by have := (List.getElem?_eq_some_iff.1 (show (ringA k k)[i]? = some d from hd)).1; rw [ringA_len] at this; exact this
   have hd' : (ringA k k)[i]? = some d := hd
   rw [ringA_get hik] at hd'
   cases hd'
   rw [gb i hik]
   simp only [dX,dY,Int.toNat_natCast,decide_eq_true_eq]
   by_cases e : i + 1 < k
   · rw [Nat.mod_eq_of_lt e]
     by_cases h1 : o + 1 ≤ i <;> by_cases h3 : o + 1 ≤ i + 1 <;> simp only [h1,h3,if_true,if_false] <;> omega
   · have : i + 1 = k := by omega
     rw [this,Nat.mod_self]
     by_cases h1 : o + 1 ≤ i <;> simp only [h1,if_true,if_false,show ¬ o + 1 ≤ 0 by omega] <;> omega
 · have hv : v < k := hv
   split <;> omega
end Go.Sv
namespace Go.Proofs.Ythfnjogadngfiaa
open Go.Sl Go.Sv
theorem ringA_succ {k n : Nat} : ringA k (n + 1) = ringA k n ++ [((n : Int),(((n + 1) % k : Nat) : Int),(-1 : Int))] := by unfold ringA; rw [List.range_succ,List.map_append]; rfl
theorem ringC_succ {n : Nat} : ringC (n + 1) = ringC n ++ [[(n : Int) + 1]] := by unfold ringC; rw [List.range_succ,List.map_append]; rfl
theorem c7 {σ : PH} {u w : Int} (hu : 0 ≤ u ∧ u < 256) (hw : 0 ≤ w ∧ w < 256) {Q : Value → PH → Prop} (hQ : ∀ τ,σ.sub τ → Q (.bool true) τ) : C 7 #[.int .u8 u,.int .u8 w] Q σ := by
 refine go (E7_0 _ _ _ _ _) ?_
 unfold S7_0
 have e0 : ∀ b : Nat,(Addr.mk b 0 none).add 0 = ⟨b,0,none⟩ := fun b => rfl
 obtain ⟨u1,u2⟩ := tm hu.1 (show (0 : Int) < 10 by omega)
 obtain ⟨k,hk⟩ : ∃ k : Nat,k = (2 + u.tmod 10).toNat := ⟨_,rfl⟩
 have wk : IntKind.wrap .i64 ((2 : Int) + Int.tmod (IntKind.wrap .i64 u) 10) = (k : Int) := by rw [wi hu,w64 (by omega) (by omega)]; omega
 have hk2 : 2 ≤ k ∧ k ≤ 11 := by omega
 obtain ⟨w1,w2⟩ := tm hw.1 (show (0 : Int) < (k : Int) by omega)
 obtain ⟨o,ho⟩ : ∃ o : Nat,o = (w.tmod k).toNat := ⟨_,rfl⟩
 have wo : Int.tmod (IntKind.wrap .i64 w) (k : Int) = (o : Int) := by rw [wi hw]; omega
 have hok : o < k := by omega
 refine ⟨by omega,rfl,fun f hf => ?_⟩
 simp only [newSet,newSet0,newCell,newCell0,newFroz,newFroz0,List.setIfInBounds_toArray,List.set_cons_zero,List.set_cons_succ,List.getElem?_toArray,List.getElem?_cons_zero,List.getElem?_cons_succ,Option.some.injEq,exists_eq',true_and,exists_eq_left']
 rw [wk]
 have sf := PH.sub_set (o := .cells #[.int .i64 k,.int .i64 k,.slice none 0 0,.slice none 0 0] 29) hf
 have hF0 : FB σ (σ.set f (.cells #[.int .i64 k,.int .i64 k,.slice none 0 0,.slice none 0 0] 29)) f k k ⟨none,0,0⟩ ⟨none,0,0⟩ (ringA k 0) (ringC 0) := ⟨⟨sf,own_nil,by simp,⟨[],own_nil,rfl,by simp [ringC]⟩,by simp⟩,set_self,hf⟩
 generalize σ.set f (.cells #[.int .i64 k,.int .i64 k,.slice none 0 0,.slice none 0 0] 29) = ω0 at *
 unfold S7_1
 refine iloopS_for (G := Unit) (fun i _ => ((w,(k : Int),ptr f,(i : Int)) : T7_1)) (fun i _ ω => ∃ φ A K,σ.sub φ ∧ FB φ ω f k k A K (ringA k i) (ringC i)) k ?_ (g := ()) ⟨σ,_,_,.refl _,hF0⟩
 rintro i _ ω hi ⟨φ,A,K,hφ,hF⟩ R hR
 unfold S7_2
 dsimp only
 refine br_dec.2 ⟨fun hlt => ?_,fun hge => ?_⟩
 · have hik : i < k := by omega
   have wi1 : IntKind.wrap .i64 ((i : Int) + 1) = ((i + 1 : Nat) : Int) := wnat (by omega)
   have wm : Int.tmod ((i + 1 : Nat) : Int) (k : Int) = (((i + 1) % k : Nat) : Int) := by rw [Int.tmod_eq_emod_of_nonneg (by omega)]; omega
   rw [wi1,wm]
   refine ⟨_,hF.blk.get (i := 2) rfl,_,_,_,rfl,by omega,rfl,fun b20 h20 => ?_⟩
   refine hF.atom' ((i : Int),(((i + 1) % k : Nat) : Int),-1) (by rw [ringA_len]; omega) h20 fun A' τ hF1 _ => ?_
   refine ⟨_,hF1.blk.get (i := 3) rfl,_,_,_,rfl,fun b31 h31 => ?_⟩
   generalize τ.setCell ((ptr f).add 2) A'.v = ω1 at *
   intro b32 h32
   have s31 := PH.sub_set (o := .cells #[.int .i64 ((i + 1 : Nat) : Int)] 3) h31
   have B31 : Blk (ω1.set b31 (.cells #[.int .i64 ((i + 1 : Nat) : Int)] 3)) b31 3 (ints [((i + 1 : Nat) : Int)]) := set_self
   generalize ω1.set b31 (.cells #[.int .i64 ((i + 1 : Nat) : Int)] 3) = ω2 at *
   obtain ⟨φ',f1,f2,_,f4⟩ := (hF1.sub' s31).freeze (fun _ => False) (by simp)
   have hI : Ints φ' (some (ptr b31)) 1 [((i + 1 : Nat) : Int)] := by
     refine blk_ints (b := b31) ?_ rfl
     unfold Blk
     rw [f4 b31 (ne_ty B31 f2.blk (by decide)) (f2.nA B31 (by decide)) (f2.nK B31 (by decide)) (fun h => h)]
     exact B31
   refine f2.clause hI (Nat.le_refl 1) (by rw [ringC_len]; omega) h32 fun K' τ5 hF5 _ => hR () τ5 hik ⟨φ',A',K',hφ.trans f1,?_⟩
   rw [ringA_succ,ringC_succ]
   exact hF5
 · have hik : i = k := by omega
   subst hik
   have g0 := hF.blk.get (i := 0) rfl
   rw [e0] at g0
   refine ⟨_,g0,_,hF.blk.get (i := 1) rfl,_,hF.blk.get (i := 2) rfl,_,hF.blk.get (i := 3) rfl,_,_,_,_,_,_,_,_,rfl,?_⟩
   have hok1 := ring_ok hk2.1 (show i ≤ 32 by omega)
   have hlen1 : ∀ c ∈ (rngF i).clauses,c.length ≤ 1000000 := by
     intro c hc
     obtain ⟨j,_,rfl⟩ := List.mem_map.1 (show c ∈ ringC i from hc)
     simp
   have hKc : K.n ≤ K.c := by obtain ⟨vs,o,_⟩ := hF.ok; exact o.le
   refine c17r (F := rngF i) hok1 (by show i ≤ 40; omega) hlen1 hF.atoms hF.lists hF.oa.le hKc fun τ ma mn mc xa xn xc la ln lc ok hs hRes => ?_
   have hno := hRes.false_of (ring_no (by omega))
   subst hno
   refine ⟨τ,.refl _,_,_,_,_,_,_,_,_,_,_,rfl,fun b64 h64 => ?_⟩
   have hF1 := hF.sub' hs
   simp only [newSet,newSet0,newCell,newCell0,newFroz,newFroz0,List.setIfInBounds_toArray,List.set_cons_zero,List.set_cons_succ,List.getElem?_toArray,List.getElem?_cons_zero,List.getElem?_cons_succ,Option.some.injEq,exists_eq',true_and,exists_eq_left']
   refine br_iff.2 ⟨fun h => (by cases h),fun _ => ?_⟩
   have s64 := PH.sub_set (o := .cells #[.slice ma mn mc,.slice xa xn xc] 35) h64
   have B64 : Blk (τ.set b64 (.cells #[.slice ma mn mc,.slice xa xn xc] 35)) b64 35 [.slice ma mn mc,.slice xa xn xc] := set_self
   have n64 : φ b64 = none := new_of hF1.sub h64
   generalize τ.set b64 (.cells #[.slice ma mn mc,.slice xa xn xc] 35) = τ2 at *
   have hF2 := hF1.sub' s64
   have g0 := hF2.blk.get (i := 0) rfl
   rw [e0] at g0
   refine ⟨_,g0,_,hF2.blk.get (i := 1) rfl,_,hF2.blk.get (i := 2) rfl,_,hF2.blk.get (i := 3) rfl,_,_,_,_,_,_,_,_,rfl,_,_,_,_,_,_,rfl,?_⟩
   refine c18r (F := rngF i) hok1 hlen1 hF2.atoms hF2.lists (hRes.sub s64) fun τ3 hs3 => ⟨τ3,.refl _,true,rfl,br_iff.2 ⟨fun h => (by cases h),fun _ => ?_⟩⟩
   have hF3 := hF2.sub' hs3
   have B64a := hs3 _ _ B64
   rw [wo]
   refine ⟨_,hF3.blk.get (i := 3) rfl,_,_,_,rfl,by omega,by omega,fun b95 h95 => ?_⟩
   have wl : IntKind.wrap .i64 (0 - IntKind.wrap .i64 ((o : Int) + 1)) = -((o : Int) + 1) := by rw [w64 (n := (o : Int) + 1) (by omega) (by omega),w64 (by omega) (by omega)]; omega
   rw [wl]
   have s95 := PH.sub_set (o := .cells #[.int .i64 (-((o : Int) + 1))] 3) h95
   have B95 : Blk (τ3.set b95 (.cells #[.int .i64 (-((o : Int) + 1))] 3)) b95 3 (ints [-((o : Int) + 1)]) := set_self
   generalize τ3.set b95 (.cells #[.int .i64 (-((o : Int) + 1))] 3) = τ4 at *
   have B64b : Blk τ4 b64 35 [.slice ma mn mc,.slice xa xn xc] := s95 _ _ B64a
   obtain ⟨φ',f1,f2,f3,f4⟩ := (hF3.sub' s95).freeze (· = b64) (by rintro b rfl; exact n64)
   have hI : Ints φ' (some (ptr b95)) 1 [-((o : Int) + 1)] := by
     refine blk_ints (b := b95) ?_ rfl
     unfold Blk
     rw [f4 b95 (ne_ty B95 f2.blk (by decide)) (f2.nA B95 (by decide)) (f2.nK B95 (by decide)) (ne_ty B95 B64b (by decide))]
     exact B95
   obtain ⟨p,hp,hcell,hfroz,hst,hpn,hF5⟩ := f2.setClause hI (Nat.le_refl 1) (o := o) (by rw [ringC_len]; omega)
   have hKn := hF3.kn
   rw [ringC_len] at hKn
   rw [show (o : Int).toNat * 1 = o by omega]
   refine ⟨p,hp,by omega,by omega,hcell,hfroz,?_⟩
   have B64c := B64b.keep hst (fun e => f2.nK B64b (by decide) p hp e)
   generalize τ4.setCell (p.add o) (.slice (some (ptr b95)) 1 1) = τ5 at *
   have g0 := hF5.blk.get (i := 0) rfl
   rw [e0] at g0
   refine ⟨_,g0,_,hF5.blk.get (i := 1) rfl,_,hF5.blk.get (i := 2) rfl,_,hF5.blk.get (i := 3) rfl,_,_,_,_,_,_,_,_,rfl,?_⟩
   have hok2 := rngO_ok hk2.1 (show i ≤ 32 by omega) hok
   have hlen2 : ∀ c ∈ (rngO i o).clauses,c.length ≤ 1000000 := by
     intro c hc
     rcases List.mem_or_eq_of_mem_set (show c ∈ (ringC i).set o _ from hc) with h | rfl
     · exact hlen1 c h
     · simp
   have hKc5 : K.n ≤ K.c := hKc
   refine c17r (F := rngO i o) hok2 (by show i ≤ 40; omega) hlen2 hF5.atoms hF5.lists hF5.oa.le hKc5 fun τ6 ma mn mc xa xn xc la ln lc ok hs6 hRes => ?_
   have hyes := hRes.true_of hok2 (rngO_sat hk2.1 (by omega) hok)
   subst hyes
   have B64d := hs6 _ _ B64c
   have m0 := Blk.get (i := 0) B64d rfl
   rw [e0] at m0
   have z0 := Blk.froz B64d 0
   rw [e0] at z0
   have M1 : Blk (τ6.setCell (ptr b64) (.slice ma mn mc)) b64 35 [.slice ma mn mc,_] := Blk.set B64d 0 (.slice ma mn mc)
   have M2 : Blk ((τ6.setCell (ptr b64) (.slice ma mn mc)).setCell ((ptr b64).add 1) (.slice xa xn xc)) b64 35 [.slice ma mn mc,.slice xa xn xc] := M1.set 1 (.slice xa xn xc)
   have w1 : ∀ {x : PH} {j : Nat} {v : Value},Step (· = b64) x (x.setCell ((ptr b64).add j) v) := fun {x j v} => setCell_step.weaken fun b hb => hb.trans (add_block _ _)
   have sR : Step (· = b64) τ6 ((τ6.setCell (ptr b64) (.slice ma mn mc)).setCell ((ptr b64).add 1) (.slice xa xn xc)) := (w1 (j := 0)).trans w1
   have hF6 := (hF5.sub' hs6).step1 B64d (by decide) (f3 _ rfl) sR
   have hRes' := hRes.keep B64d (by decide) sR
   refine ⟨τ6,.refl _,_,_,_,_,_,_,_,_,_,_,rfl,⟨_,m0⟩,z0,⟨_,M1.get (i := 1) rfl⟩,M1.froz 1,br_iff.2 ⟨fun _ => ?_,fun h => (by cases h)⟩⟩
   generalize (τ6.setCell (ptr b64) (.slice ma mn mc)).setCell ((ptr b64).add 1) (.slice xa xn xc) = τ7 at *
   have g0 := hF6.blk.get (i := 0) rfl
   rw [e0] at g0
   have m0 := M2.get (i := 0) rfl
   rw [e0] at m0
   refine ⟨_,g0,_,hF6.blk.get (i := 1) rfl,_,hF6.blk.get (i := 2) rfl,_,hF6.blk.get (i := 3) rfl,_,_,_,_,_,_,_,_,rfl,_,m0,_,M2.get (i := 1) rfl,_,_,_,_,_,_,rfl,?_⟩
   refine c18r (F := rngO i o) hok2 hlen2 hF6.atoms hF6.lists hRes' fun τ8 hs8 => ⟨τ8,.refl _,true,rfl,br_iff.2 ⟨fun _ => ?_,fun h => (by cases h)⟩⟩
   exact c20' fun τ9 hs9 => hQ τ9 ((((hφ.trans f1).trans hF6.sub).trans hs8).trans hs9)
def PH.whole (W : World) : PH := fun b => W.heap[b]?
theorem whole_le (W : World) : PH.le (PH.whole W) W := fun _ _ h => h
section
variable {H : Type} {enc : TypeId × Value → H} {W : World} {sp : Nat → Bool} {held : Bool}
end
section
variable {H : Type} {enc : TypeId × Value → H} {W : World} {sp : Nat → Bool} {held : Bool}
theorem u5 : prog.underlying 5 = some (.int .u8) := by kernel_rfl
theorem wf_u8 {n : Int} (h : (Lit.int .u8 n).wf = true) : 0 ≤ n ∧ n < 256 := by
 simp [Lit.wf,IntKind.min,IntKind.max,IntKind.signed,IntKind.bits] at h
 omega
theorem trod_u8 {fuel : Nat} {cs : List Value} {x : DataW H × List MemPlace} (h : DataW.trod enc prog W 0 sp held fuel 5 cs = some x) : ∃ n : Int,cs = [.int .u8 n] ∧ 0 ≤ n ∧ n < 256 := by
 obtain ⟨n,h1,_,h2⟩ := DataW.trod_int u5 h
 exact ⟨n,h1,wf_u8 h2⟩
end
end Go.Proofs.Ythfnjogadngfiaa
namespace Go.Proofs.Ythfnjogadngfiaa.SolveRings
open Go.ChangeShapes Go.WideShapes Go.ChangeAt Go.RowKit Go.Sl Go.Sv
theorem own : ownKnob Try.prog.godebug = none := by kernel_rfl
theorem laidOut : laidOutB Try.prog = true := by kernel_rfl
theorem walkOf {f : FuncId} {args : Array Value} {W : World} (h : C f args (fun v τ => v = .bool true ∧ (PH.whole W).sub τ) (PH.whole W)) : Calls Try.prog f args W fun e w' => e = .returned (.bool true) ∧ Below W.heap.size W w' := by
 have hm : prog.follows .mixedOrders = true := by kernel_rfl
 refine ((ICall.calls hm SemCall.hc) _ _ _ _ W h (whole_le W)).mono fun e w' hcp => ?_
 obtain ⟨v,τ,rfl,⟨rfl,hs⟩,hle,hfr⟩ := hcp
 refine ⟨rfl,hfr.os,hfr.tape,hfr.output,hfr.size,fun k hk => ?_⟩
 have hg : W.heap[k]? = some W.heap[k] := Array.getElem?_eq_getElem hk
 rw [hg]
 exact hle _ _ (hs _ _ hg)
theorem lifted (os : Os) (started : os.Started) (H : Type) (enc : TypeId × Value → H) :
   ReturnsInHanded {} Try.checked os 7 .any (Rows.solveRingsSpec.pre6 enc Try.prog Try.f7 Rows.solveRingsRow.domain false) (Rows.solveRingsSpec.post enc Try.prog Try.f7 false true false false) := by
 refine returnsInHanded_of_change_sized (C := Try.checked) own started (by kernel_rfl) Try.func7
   (ChangeSpec.witness6 (enc := enc) (C := Try.checked) false ⟨#[],#[.int .u8 0,.int .u8 0],[]⟩ 8 (by kernel_rfl) (by kernel_rfl) (by kernel_rfl) (by kernel_rfl)) ?_
 intro W base args ds gs before hval0 hW hcnd0 hsz0 _
 clear hsz0
 have hval : ∀ (j : Nat) t v,Try.f7.params[j]? = some t → args[j]? = some v → Value.okWide Try.prog W .any base t v := hval0
 have hW' := hW
 obtain ⟨p,q,hA0,hV,rfl,hfz,hnd⟩ := hW
 have hA : DataW.TrodAll enc Try.prog W 0 (fun _ => true) true Try.f7.params.toList args.toList ds p := hA0
 rw [Try.params7] at hA hval
 obtain ⟨v0,vs0,d0,ds0,p0,q0,hargs0,rfl,rfl,h0,r0⟩ := trodAll_cons hA
 obtain ⟨v1,vs1,d1,ds1,p1,q1,hargs1,rfl,rfl,h1,r1⟩ := trodAll_cons r0
 obtain ⟨rfl,rfl,rfl⟩ := trodAll_nil r1
 obtain rfl : args = #[v0,v1] := by cases args; simp_all
 obtain ⟨rfl,rfl⟩ := trodVars_none hV
 obtain ⟨n0,rfl⟩ := okWide_int Try.underlying5 (hval 0 5 v0 rfl rfl)
 have k0 := h0
 have lt0 : ∀ x ∈ p0,x.block < W.heap.size := by obtain ⟨m,hm⟩ := k0; exact DataW.trod_lt m _ _ _ hm
 have b0 : 0 ≤ n0 ∧ n0 < 256 := by
   obtain ⟨fu,hm⟩ := h0
   obtain ⟨z,e,r⟩ := trod_u8 hm
   simp [Value.cells] at e
   subst e; exact r
 obtain ⟨n1,rfl⟩ := okWide_int Try.underlying5 (hval 1 5 v1 rfl rfl)
 have k1 := h1
 have lt1 : ∀ x ∈ p1,x.block < W.heap.size := by obtain ⟨m,hm⟩ := k1; exact DataW.trod_lt m _ _ _ hm
 have b1 : 0 ≤ n1 ∧ n1 < 256 := by
   obtain ⟨fu,hm⟩ := h1
   obtain ⟨z,e,r⟩ := trod_u8 hm
   simp [Value.cells] at e
   subst e; exact r
 clear hA0 hval0
 refine (walkOf (c7 b0 b1 fun τ hs => ⟨rfl,hs⟩)).mono fun e W' ⟨he,bel⟩ => ?_
 subst he
 exact ⟨_,rfl,_,_,_,[],_,[],hW',trodAll_mk1 (shut_bool Try.underlying4 _),trodAll_cons_mk (Below.trod laidOut (by kernel_rfl) (of_decide_eq_true (by kernel_rfl)) k0 bel lt0) (trodAll_cons_mk (Below.trod laidOut (by kernel_rfl) (of_decide_eq_true (by kernel_rfl)) k1 bel lt1) trodAll_mk0),rfl,bel.frame _,fun h => by cases h⟩
theorem over : Rows.solveRingsRow.holds Try.pinned (OpenSpec.ofChange Rows.solveRingsSpec) :=
 OpenClaim.holds_of_wide 7 Try.f7 rfl rfl rfl rfl rfl rfl rfl ⟨rfl,rfl,rfl,rfl,rfl⟩ rfl rfl rfl rfl rfl (by kernel_rfl) Try.func7 (by kernel_rfl)
   (of_decide_eq_true (by kernel_rfl)) (by unfold Func.isWrapper; first | (rw [if_pos (by decide +kernel)]; kernel_rfl) | (rw [if_neg (by decide +kernel)]; exact ⟨rfl,rfl⟩))
   (fun os started H enc _ => lifted os started H enc)
theorem proved : Rows.SolveRingsSaid := over
end Go.Proofs.Ythfnjogadngfiaa.SolveRings
