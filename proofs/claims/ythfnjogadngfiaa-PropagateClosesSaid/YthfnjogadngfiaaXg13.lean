/- A part of the proof: see the last text, YthfnjogadngfiaaXg14. -/
import Derived.Test.YthfnjogadngfiaaXg12
set_option maxRecDepth 100000
set_option linter.unusedVariables false
set_option linter.unusedSimpArgs false
namespace Go.Proofs.Ythfnjogadngfiaa
open Go.Sl Go.Sv
structure FOkR (i1 i2 : Int) (atoms : List Dif) (clauses : List (List Int)) : Prop where
 ints : 0 ≤ i1 ∧ i1 ≤ 32
 bools : 0 ≤ i2 ∧ i2 ≤ 1024
 cn : clauses.length ≤ 32768
 an : (atoms.length : Int) ≤ i2
 at' : ∀ d ∈ atoms,0 ≤ d.1 ∧ d.1 < i1 ∧ 0 ≤ d.2.1 ∧ d.2.1 < i1 ∧ d.1 ≠ d.2.1 ∧ -1048576 ≤ d.2.2 ∧ d.2.2 ≤ 1048576
 cl : ∀ c ∈ clauses,∀ x ∈ c,x ≠ 0 ∧ -i2 ≤ x ∧ x ≤ i2
theorem fok_raw {F : Fm} (h : FOk F) : FOkR F.ints F.bools F.atoms F.clauses := by
 have h1 := h.ints
 have h2 := h.bools
 have h3 := h.atoms
 exact ⟨by omega,by omega,h.cn,by omega,h.at',fun c hc x hx => by obtain ⟨q1,q2⟩ := h.cl c hc x hx; exact ⟨q1,by omega,by omega⟩⟩
theorem mem_of_all {α : Type} {l : List α} {P : α → Prop} (h : ∀ i x,i < l.length → l[i]? = some x → P x) : ∀ x ∈ l,P x := by
 intro x hx
 obtain ⟨i,hi⟩ := List.mem_iff_getElem?.1 hx
 exact h i x (List.getElem?_eq_some_iff.1 hi).1 hi
theorem c35 {σ : PH} {i1 i2 : Int} {aa : Option Addr} {an ac : Nat} {ca : Option Addr} {cn cc : Nat} {atoms : List Dif} {clauses : List (List Int)} (hA : Atoms σ aa an atoms) (hL : Lists σ ca cn clauses) (hlen : ∀ c ∈ clauses,c.length ≤ 1000000) {Q : Value → PH → Prop}
   (hok : FOkR i1 i2 atoms clauses → ∀ τ,σ.sub τ → Q (.int .i64 0) τ) (hno : ¬ FOkR i1 i2 atoms clauses → ∀ τ e,σ.sub τ → (e = 1 ∨ e = 2) → Q (.int .i64 e) τ) :
   C 35 #[.agg #[.int .i64 i1,.int .i64 i2,.slice aa an ac,.slice ca cn cc]] Q σ := by
 refine go (E35_0 _ _ _ _ _ _ _ _ _ _ _) ?_
 unfold S35_0
 have e0 : ∀ b : Nat,(Addr.mk b 0 none).add 0 = ⟨b,0,none⟩ := fun b => rfl
 have han := hA.1
 have hcn := hL.1
 intro b9 h9
 have s9 := PH.sub_set (o := .cells #[.int .i64 i1,.int .i64 i2,.slice aa an ac,.slice ca cn cc] 29) h9
 have B9 : Blk (σ.set b9 (.cells #[.int .i64 i1,.int .i64 i2,.slice aa an ac,.slice ca cn cc] 29)) b9 29 [.int .i64 i1,.int .i64 i2,.slice aa an ac,.slice ca cn cc] := set_self
 generalize σ.set b9 (.cells #[.int .i64 i1,.int .i64 i2,.slice aa an ac,.slice ca cn cc] 29) = ω9 at *
 have g0 := B9.get (i := 0) rfl
 rw [e0] at g0
 refine ⟨_,g0,_,rfl,br_dec.2 ⟨fun h => hno (fun f => by have := f.ints; omega) _ _ s9 (.inr rfl),fun h1 => ?_⟩⟩
 refine ⟨_,B9.get (i := 1) rfl,_,rfl,br_dec.2 ⟨fun h => hno (fun f => by have := f.bools; omega) _ _ s9 (.inr rfl),fun h2 => ?_⟩⟩
 refine ⟨_,B9.get (i := 3) rfl,_,_,_,rfl,br_dec.2 ⟨fun h => hno (fun f => by have := f.cn; omega) _ _ s9 (.inr rfl),fun h3 => ?_⟩⟩
 refine ⟨_,g0,_,rfl,br_dec.2 ⟨fun h => hno (fun f => by have := f.ints; omega) _ _ s9 (.inl rfl),fun h4 => ?_⟩⟩
 refine ⟨_,B9.get (i := 1) rfl,_,rfl,br_dec.2 ⟨fun h => hno (fun f => by have := f.bools; omega) _ _ s9 (.inl rfl),fun h5 => ?_⟩⟩
 refine ⟨_,B9.get (i := 2) rfl,_,_,_,rfl,_,B9.get (i := 1) rfl,_,rfl,br_dec.2 ⟨fun h => hno (fun f => by have := f.an; omega) _ _ s9 (.inl rfl),fun h6 => ?_⟩⟩
 refine ⟨_,B9.get (i := 2) rfl,_,_,_,rfl,?_⟩
 unfold S35_1
 refine iloopS_for (G := Unit) (fun k _ => (ptr b9,aa,an,ac,(an : Int),(k : Int))) (fun k _ υ => ω9.sub υ ∧ ∀ j d,j < k → atoms[j]? = some d → 0 ≤ d.1 ∧ d.1 < i1 ∧ 0 ≤ d.2.1 ∧ d.2.1 < i1 ∧ d.1 ≠ d.2.1 ∧ -1048576 ≤ d.2.2 ∧ d.2.2 ≤ 1048576) an ?_ (g := ()) ⟨PH.sub.refl _,fun j d h => by omega⟩
 rintro k _ υ hk ⟨hs,hall⟩ R hR
 unfold S35_2
 dsimp only
 have hsu := s9.trans hs
 refine br_dec.2 ⟨fun hlt => ?_,fun hge => ?_⟩
 · have hkn : k < an := by omega
   obtain ⟨d,hd⟩ : ∃ d,atoms[k]? = some d := ⟨_,List.getElem?_eq_getElem (by omega)⟩
   have hdm := List.mem_of_getElem? hd
   obtain ⟨p,hp,a0,a1,a2⟩ := (hA.sub hsu).2 k d hd
   refine ⟨p,hp,by omega,by omega,_,by rw [Int.toNat_natCast]; exact a0,_,by rw [Int.toNat_natCast]; exact a1,_,by rw [Int.toNat_natCast]; exact a2,_,_,_,rfl,fun b hb => ?_⟩
   have sb := PH.sub_set (o := .cells #[.int .i64 d.1,.int .i64 d.2.1,.int .i64 d.2.2] 50) hb
   simp only [newSet,newSet0,newCell,newCell0,newFroz,newFroz0,List.setIfInBounds_toArray,List.set_cons_zero,List.set_cons_succ,List.getElem?_toArray,List.getElem?_cons_zero,List.getElem?_cons_succ,Option.some.injEq,exists_eq',true_and,Value.int.injEq,exists_eq_left']
   generalize υ.set b (.cells #[.int .i64 d.1,.int .i64 d.2.1,.int .i64 d.2.2] 50) = ω at *
   have sω := hsu.trans sb
   have g0ω := (hs.trans sb).cell g0
   have wk : IntKind.wrap .i64 ((k : Int) + 1) = ((k + 1 : Nat) : Int) := by rw [w64 (by omega) (by omega)]; omega
   have no : ¬ (0 ≤ d.1 ∧ d.1 < i1 ∧ 0 ≤ d.2.1 ∧ d.2.1 < i1 ∧ d.1 ≠ d.2.1 ∧ -1048576 ≤ d.2.2 ∧ d.2.2 ≤ 1048576) → Q (.int .i64 1) ω := fun hn => hno (fun f => hn (f.at' d hdm)) ω 1 sω (.inl rfl)
   refine br_dec.2 ⟨fun h => no (by omega),fun q1 => ⟨_,g0ω,_,rfl,br_dec.2 ⟨fun h => no (by omega),fun q2 => br_dec.2 ⟨fun h => no (by omega),fun q3 => ⟨_,g0ω,_,rfl,br_dec.2 ⟨fun h => no (by omega),fun q4 => br_iff.2 ⟨fun h => no ?_,fun q5 => br_dec.2 ⟨fun h => no (by omega),fun q6 => br_dec.2 ⟨fun h => no (by omega),fun q7 => ?_⟩⟩⟩⟩⟩⟩⟩⟩⟩
   · have : d.1 = d.2.1 := by simpa using h
     omega
   · have q5 : d.1 ≠ d.2.1 := by simpa using q5
     rw [wk]
     refine hR () _ hkn ⟨hs.trans sb,fun j e hj he => ?_⟩
     by_cases ej : j = k
     · subst ej
       rw [hd] at he; cases he
       omega
     · exact hall j e (by omega) he
 · have hkn : k = an := by omega
   subst hkn
   have hat : ∀ d ∈ atoms,0 ≤ d.1 ∧ d.1 < i1 ∧ 0 ≤ d.2.1 ∧ d.2.1 < i1 ∧ d.1 ≠ d.2.1 ∧ -1048576 ≤ d.2.2 ∧ d.2.2 ≤ 1048576 := mem_of_all fun i d hi hd => hall i d (by omega) hd
   refine ⟨_,hs.cell (B9.get (i := 3) rfl),_,_,_,rfl,?_⟩
   unfold S35_3
   refine iloopS_for (G := Unit) (fun k _ => (ptr b9,ca,cn,cc,(cn : Int),(k : Int))) (fun k _ τ => υ = τ ∧ ∀ j c,j < k → clauses[j]? = some c → ∀ x ∈ c,x ≠ 0 ∧ -i2 ≤ x ∧ x ≤ i2) cn ?_ (g := ()) ⟨rfl,fun j d h => by omega⟩
   rintro k2 _ _ hk2 ⟨rfl,hall2⟩ R2 hR2
   unfold S35_4
   dsimp only
   refine br_dec.2 ⟨fun hlt => ?_,fun hge => ?_⟩
   · have hkn2 : k2 < cn := by omega
     obtain ⟨c,hc⟩ : ∃ c,clauses[k2]? = some c := ⟨_,List.getElem?_eq_getElem (by omega)⟩
     have hcm := List.mem_of_getElem? hc
     obtain ⟨p,x,m,kk,hp,hcell,hI,hmk⟩ := (hL.sub hsu).2 k2 c hc
     have hmc := hI.1
     have hcl := hlen c hcm
     have wk2 : IntKind.wrap .i64 ((k2 : Int) + 1) = ((k2 + 1 : Nat) : Int) := by rw [w64 (by omega) (by omega)]; omega
     refine ⟨p,hp,by omega,by omega,_,by rw [Int.toNat_natCast,Nat.mul_one]; exact hcell,_,_,_,rfl,?_⟩
     unfold S35_5
     refine iloopS_for (G := Unit) (fun k _ => (ptr b9,ca,cn,cc,(cn : Int),(k2 : Int),x,m,kk,(m : Int),(k : Int))) (fun k _ τ => υ = τ ∧ ∀ j y,j < k → c[j]? = some y → y ≠ 0 ∧ -i2 ≤ y ∧ y ≤ i2) m ?_ (g := ()) ⟨rfl,fun j d h => by omega⟩
     rintro k3 _ _ hk3 ⟨rfl,hall3⟩ R3 hR3
     unfold S35_6
     dsimp only
     refine br_dec.2 ⟨fun hlt3 => ?_,fun hge3 => ?_⟩
     · have hkn3 : k3 < m := by omega
       obtain ⟨y,hy⟩ : ∃ y,c[k3]? = some y := ⟨_,List.getElem?_eq_getElem (by omega)⟩
       have hym := List.mem_of_getElem? hy
       obtain ⟨p3,hp3,hc3⟩ := hI.2.at (i := k3) (v := .int .i64 y) (by simp [hy])
       have wk3 : IntKind.wrap .i64 ((k3 : Int) + 1) = ((k3 + 1 : Nat) : Int) := by rw [w64 (by omega) (by omega)]; omega
       have wi : IntKind.wrap .i64 (0 - i2) = -i2 := by rw [w64 (by omega) (by omega)]; omega
       have g1 := hs.cell (B9.get (i := 1) rfl)
       have no : ¬ (y ≠ 0 ∧ -i2 ≤ y ∧ y ≤ i2) → Q (.int .i64 1) υ := fun hn => hno (fun f => hn (f.cl c hcm y hym)) υ 1 hsu (.inl rfl)
       refine ⟨p3,hp3,by omega,by omega,_,by rw [Int.toNat_natCast,Nat.mul_one]; exact hc3,y,rfl,br_iff.2 ⟨fun h => no ?_,fun q1 => ⟨_,g1,_,rfl,br_dec.2 ⟨fun h => no (by omega),fun q2 => ⟨_,g1,_,rfl,?_⟩⟩⟩⟩⟩
       · have : y = 0 := by simpa using h
         omega
       · rw [wi]
         refine br_dec.2 ⟨fun h => no (by omega),fun q3 => ?_⟩
         have q1 : y ≠ 0 := by simpa using q1
         rw [wk3]
         refine hR3 () _ hkn3 ⟨rfl,fun j z hj hz => ?_⟩
         by_cases ej : j = k3
         · subst ej
           rw [hy] at hz; cases hz
           exact ⟨q1,by omega,by omega⟩
         · exact hall3 j z (by omega) hz
     · have hkn3 : k3 = m := by omega
       subst hkn3
       rw [wk2]
       refine hR2 () _ hkn2 ⟨rfl,fun j c' hj hc' => ?_⟩
       by_cases ej : j = k2
       · subst ej
         rw [hc] at hc'; cases hc'
         exact mem_of_all fun i y hi hy => hall3 i y (by omega) hy
       · exact hall2 j c' (by omega) hc'
   · exact hok ⟨by omega,by omega,by omega,by omega,hat,mem_of_all fun i c hi hc => hall2 i c (by omega) hc⟩ υ hsu
end Go.Proofs.Ythfnjogadngfiaa
namespace Go.Sv
def litT (bl : List Bool) (y : Int) : Prop := if 0 < y then bl.getD (y - 1).toNat false = true else bl.getD (-y - 1).toNat false = false
structure SatM (F : Fm) (bl : List Bool) (x : Nat → Int) : Prop where
 len : bl.length = F.bools
 cl : ∀ c ∈ F.clauses,∃ y ∈ c,litT bl y
 at' : ∀ (i : Nat) d,F.atoms[i]? = some d → (bl.getD i false = true ↔ x (dX d) - x (dY d) ≤ d.2.2)
 rng : ∀ v,v < F.ints → -1000000000000000 ≤ x v ∧ x v ≤ 0
theorem Tr.or {n : Nat} {value : List Int} {level : List Nat} {trail : List Int} {limits : List Nat} (h : Tr n value level trail limits) (hv : ∀ i,i < n → value[i]? ≠ some 0) {y : Int} (hy : LitN n y) : y ∈ trail ∨ -y ∈ trail := by
 obtain ⟨w,w1,w2,w3⟩ := h.lit_in hy.vr_lt (hv _ hy.vr_lt)
 have e : w * (((vr y : Nat) : Int) + 1) = y ∨ w * (((vr y : Nat) : Int) + 1) = -y := by
   obtain ⟨g1,g2⟩ := hy
   unfold vr
   rcases w2 with rfl | rfl <;> omega
 rcases e with e | e
 · rw [e] at w3; exact .inl w3
 · rw [e] at w3; exact .inr w3
theorem sat_clauses {F : Fm} {n : Nat} {st : St} (hF : FOk F) (hn : n = F.bools) (hI : Inv F n st) (hW : WI n st st.W st.trail.length) (hC : Cov F st) (hv : ∀ i,i < n → st.value[i]? ≠ some 0) : ∀ c ∈ F.clauses,∃ y ∈ c,y ∈ st.trail := by
 intro c hc
 have hl := hF.cl c hc
 rw [← hn] at hl
 have hnb := hF.bools
 cases hnm : norm c with
 | none =>
   have : ¬ Clean c := fun h => by obtain ⟨o,ho⟩ := norm_ok h; rw [hnm] at ho; cases ho
   unfold Clean at this
   have : ∃ x ∈ c,-x ∈ c := by
     apply Classical.byContradiction
     intro hne
     exact this fun x hx => ⟨(hl x hx).1,by obtain ⟨_,h2⟩ := hl x hx; unfold minInt; omega,fun h => hne ⟨x,hx,h⟩⟩
   obtain ⟨x,h1,h2⟩ := this
   rcases hI.tr.or hv (hl x h1) with h | h
   · exact ⟨x,h1,h⟩
   · exact ⟨-x,h2,h⟩
 | some l =>
   obtain ⟨_,hm,_⟩ := norm_some hnm
   rcases hC c hc l hnm with ⟨r,q1,rc,q2,q3⟩ | ⟨x,q1,q2,_⟩
   · obtain ⟨rc',q4,q5⟩ := hW.cl r q1
     rw [q2] at q4; cases q4
     obtain ⟨a,ha⟩ : ∃ a,rc.lits[0]? = some a := ⟨_,List.getElem?_eq_getElem (by omega)⟩
     obtain ⟨b,hb⟩ : ∃ b,rc.lits[1]? = some b := ⟨_,List.getElem?_eq_getElem (by omega)⟩
     have ha' := List.mem_of_getElem? ha
     have hac := (hm a).1 ((q3 a).1 ha')
     rcases hI.tr.or hv (hl a hac) with h | h
     · exact ⟨a,hac,h⟩
     · obtain ⟨h1,_⟩ := hW.ok r q1 rc q2 a b (.inl ⟨ha,hb⟩) (by rw [List.take_length]; exact h)
       exact ⟨b,(hm b).1 ((q3 b).1 (List.mem_of_getElem? hb)),h1⟩
   · subst q1
     exact ⟨x,(hm x).1 (by simp),q2⟩
theorem litT_of {n : Nat} {value : List Int} {level : List Nat} {trail : List Int} {limits : List Nat} (h : Tr n value level trail limits) {bl : List Bool} (hb : ∀ i,i < n → bl[i]? = some (decide (0 < value.getD i 0))) {y : Int} (hy : y ∈ trail) : litT bl y := by
 have hl := h.lit y hy
 have hv := h.val (vr y) hl.vr_lt
 have hbv := hb (vr y) hl.vr_lt
 rw [List.getD_eq_getElem?_getD,hv] at hbv
 obtain ⟨g1,g2⟩ := hl
 unfold Go.Sv.litT
 split
 · rename_i hp
   have e : (y - 1).toNat = vr y := by unfold vr; omega
   rw [e,List.getD_eq_getElem?_getD,hbv]
   have : ((vr y : Nat) : Int) + 1 = y := by unfold vr; omega
   simp [sg,this,hy]
 · rename_i hp
   have e : (-y - 1).toNat = vr y := by unfold vr; omega
   rw [e,List.getD_eq_getElem?_getD,hbv]
   have e2 : ((vr y : Nat) : Int) + 1 = -y := by unfold vr; omega
   have hn : -y ∉ trail := fun hm => h.anti hy hm
   have e3 : -(((vr y : Nat) : Int) + 1) = y := by omega
   simp [sg,e2,hn,hy]
theorem sat_model {F : Fm} {n : Nat} {st : St} (hF : FOk F) (hn : n = F.bools) (hI : Inv F n st) (hW : WI n st st.W st.trail.length) (hC : Cov F st) (hv : ∀ i,i < n → st.value[i]? ≠ some 0) {bl : List Bool} (hbl : bl.length = n) (hb : ∀ i,i < n → bl[i]? = some (decide (0 < st.value.getD i 0))) {x : Nat → Int} (hx : ∀ y ∈ st.trail,∀ d,bound F y = some d → x (dX d) - x (dY d) ≤ d.2.2) (hxb : ∀ v,v < F.ints → -1000000000000000 ≤ x v ∧ x v ≤ 0) : SatM F bl x := by
 refine ⟨by omega,fun c hc => ?_,fun i d hd => ?_,hxb⟩
 · obtain ⟨y,h1,h2⟩ := sat_clauses hF hn hI hW hC hv c hc
   exact ⟨y,h1,litT_of hI.tr hb h2⟩
 · have hi := (List.getElem?_eq_some_iff.1 hd).1
   have hal := hF.atoms
   have hin : i < n := by omega
   obtain ⟨w,w1,w2,w3⟩ := hI.tr.lit_in hin (hv i hin)
   have hbi : bl.getD i false = decide (0 < w) := by rw [List.getD_eq_getElem?_getD,hb i hin,List.getD_eq_getElem?_getD,w1]; rfl
   rw [hbi]
   rcases w2 with rfl | rfl
   · rw [Int.one_mul] at w3
     have := hx _ w3 d (bound_pos hd)
     simp [this]
   · rw [Int.neg_mul,Int.one_mul] at w3
     have := hx _ w3 _ (bound_neg (a := d.1) (b := d.2.1) (c := d.2.2) hd)
     have e1 : dX (d.2.1,d.1,-d.2.2 - 1) = dY d := rfl
     have e2 : dY (d.2.1,d.1,-d.2.2 - 1) = dX d := rfl
     rw [e1,e2] at this
     simp only [show ¬ ((0 : Int) < -1) from by decide,decide_false,Bool.false_eq_true,false_iff]
     dsimp only at this
     omega
end Go.Sv
namespace Go.Proofs.Ythfnjogadngfiaa
open Go.Sl Go.Sv
def StepsM (τ : PH) (a : Option Addr) (n : Nat) (ps : List PStep) : Prop :=
 ps.length = n ∧ ∀ (i : Nat) p,ps[i]? = some p → ∃ q x m c,a = some q ∧ τ.cell? (q.add (i * 6)) = some (.int .i64 p.kind) ∧ τ.cell? ((q.add (i * 6)).add 1) = some (.int .i64 p.index) ∧ τ.cell? ((q.add (i * 6)).add 2) = some (.slice x m c) ∧ Ints τ x m p.lits ∧ m ≤ c ∧
   τ.cell? ((q.add (i * 6)).add 3) = some (.int .i64 p.p) ∧ τ.cell? ((q.add (i * 6)).add 4) = some (.int .i64 p.q) ∧ τ.cell? ((q.add (i * 6)).add 5) = some (.int .i64 p.v)
theorem Sol.stepsM {σ : PH} {T : Nat → Tag} {s : Nat} {g : Low} (H : Sol σ T s g) {st : St} (A : Abs g st) : (g.F 4).n ≤ (g.F 4).c ∧ StepsM σ (g.F 4).a (g.F 4).n st.steps := by
 have hO := H.fld 4 95 6 rfl
 refine ⟨hO.1.le,⟨(H.n4 A).symm,fun i p hp => ?_⟩⟩
 obtain ⟨g',x,H',hff',A',hx,hn4,q,hq,c0,c1,c2,c3,c4,c5⟩ := copyStep ⟨g,H,rfl,A⟩ hp
 have f1 := H.field (k := 4) rfl
 have f2 := H'.field (k := 4) rfl
 rw [f1] at f2
 simp only [Option.some.injEq,Value.slice.injEq] at f2
 obtain ⟨e1,_,_⟩ := f2
 rw [e1]
 obtain ⟨k1,k2,k3,k4,k5,k6⟩ := hx
 rw [k1] at c0; rw [k2] at c1; rw [k3] at c3; rw [k4] at c4; rw [k5] at c5
 rcases k6 with ⟨l1,l2⟩ | ⟨r,y,l1,l2,l3⟩
 · rw [l1] at c2
   exact ⟨q,none,0,0,hq,c0,c1,c2,by rw [l2]; exact own_ints own_nil,Nat.le_refl _,c3,c4,c5⟩
 · have hc := (H'.rc r y l1).1
   rw [l3] at hc
   rw [l2] at c2
   exact ⟨q,y.c.a,y.c.n,y.c.c,hq,c0,c1,c2,own_ints hc,hc.le,c3,c4,c5⟩
theorem c17 {F : Fm} {σ : PH} (hF : FOk F) (h40 : F.bools ≤ 40) (hlen : ∀ c ∈ F.clauses,c.length ≤ 1000000) {aa ca : Option Addr} {an ac cn cc : Nat} (hA : Atoms σ aa an F.atoms) (hL : Lists σ ca cn F.clauses) (ha : an ≤ ac) (hcc : cn ≤ cc) {Q : Value → PH → Prop}
   (hsat : ∀ τ b X bl x,σ.sub τ → Blk τ b 4 (boolsV bl) → Blk τ X 3 (ints (tab F.ints x)) → SatM F bl x → Q (.tuple #[.agg #[.slice (some (ptr b)) F.bools F.bools,.slice (some (ptr X)) F.ints F.ints],.slice none 0 0,.bool true]) τ)
   (hunsat : ∀ τ a n c ps cs,σ.sub τ → StepsM τ a n ps → n ≤ c → stepsOf F ps = some cs → cs.getLast? = some [] → n ≤ 3500000000000 → Q (.tuple #[.agg #[.slice none 0 0,.slice none 0 0],.slice a n c,.bool false]) τ) :
   C 17 #[.agg #[.int .i64 F.ints,.int .i64 F.bools,.slice aa an ac,.slice ca cn cc]] Q σ := by
 refine go (E17_0 _ _ _ _ _ _ _ _ _ _ _) ?_
 unfold S17_0
 have e0 : ∀ b : Nat,(Addr.mk b 0 none).add 0 = ⟨b,0,none⟩ := fun b => rfl
 intro b9 h9
 have s9 := PH.sub_set (o := .cells #[.int .i64 F.ints,.int .i64 F.bools,.slice aa an ac,.slice ca cn cc] 29) h9
 have B9 : Blk (σ.set b9 (.cells #[.int .i64 F.ints,.int .i64 F.bools,.slice aa an ac,.slice ca cn cc] 29)) b9 29 [.int .i64 F.ints,.int .i64 F.bools,.slice aa an ac,.slice ca cn cc] := set_self
 generalize σ.set b9 (.cells #[.int .i64 F.ints,.int .i64 F.bools,.slice aa an ac,.slice ca cn cc] 29) = ω9 at *
 intro b10 h10
 have s10 := PH.sub_set (o := .cells #[.slice none 0 0,.slice none 0 0] 35) h10
 have B10 : Blk (ω9.set b10 (.cells #[.slice none 0 0,.slice none 0 0] 35)) b10 35 [.slice none 0 0,.slice none 0 0] := set_self
 have B9a := s10 _ _ B9
 have nb10 : σ b10 = none := new_of s9 h10
 have sω := s9.trans s10
 generalize ω9.set b10 (.cells #[.slice none 0 0,.slice none 0 0] 35) = ω at *
 clear B9 s9 s10 h10
 have B9 : Blk ω b9 29 [.int .i64 F.ints,.int .i64 F.bools,.slice aa an ac,.slice ca cn cc] := B9a
 have g0 := B9.get (i := 0) rfl
 rw [e0] at g0
 refine ⟨_,g0,_,B9.get (i := 1) rfl,_,B9.get (i := 2) rfl,_,B9.get (i := 3) rfl,_,_,_,_,_,_,_,_,rfl,?_⟩
 refine c35 (hA.sub sω) (hL.sub sω) hlen (fun _ υ hs => ?_) fun hno => absurd (fok_raw hF) hno
 have B9u : Blk υ b9 29 [.int .i64 F.ints,.int .i64 F.bools,.slice aa an ac,.slice ca cn cc] := hs _ _ B9
 have B10u : Blk υ b10 35 [.slice none 0 0,.slice none 0 0] := hs _ _ B10
 have g0u := B9u.get (i := 0) rfl
 rw [e0] at g0u
 refine ⟨υ,PH.sub.refl _,0,rfl,br_iff.2 ⟨fun h => (by cases h),fun _ => ?_⟩⟩
 refine ⟨_,g0u,_,B9u.get (i := 1) rfl,_,B9u.get (i := 2) rfl,_,B9u.get (i := 3) rfl,_,_,_,_,_,_,_,_,rfl,?_⟩
 have sσυ := sω.trans hs
 refine r36 hF rfl hlen rfl (hL.sub sσυ) fun τ T s st h1 R1 N1 => ⟨τ,PH.sub.refl _,_,rfl,?_⟩
 have hf : Frm (oth τ T) [.int .i64 F.ints,.int .i64 F.bools,.slice aa an ac,.slice ca cn cc] F := ⟨aa,an,ac,ca,cn,cc,rfl,(hA.sub sσυ).sub h1,(hL.sub sσυ).sub h1,ha,hcc⟩
 refine r37 hF rfl h40 R1 hf N1 (fun τ2 T2 st2 x D2 R2 I2 W2 C2 hv hx => ?_) fun τ2 T2 st2 cs D2 R2 hcs hlast hsn => ?_
 · have B10t : Blk τ2 b10 35 [.slice none 0 0,.slice none 0 0] := oth_sub _ _ _ _ (D2.oth _ _ (h1 _ _ B10u))
   have sub2 : σ.sub τ2 := ((sσυ.trans h1).trans D2.oth).trans (oth_sub _ _)
   refine ⟨τ2,PH.sub.refl _,_,rfl,br_iff.2 ⟨fun _ => ?_,fun h => (by cases h)⟩⟩
   refine r38 hF rfl R2 (hf.sub D2.oth) I2 hv hx fun τ3 b X x' hs3 hb0 hX0 kb kX hx' hxb' => ?_
   have B10v : Blk τ3 b10 35 [.slice none 0 0,.slice none 0 0] := hs3 _ _ B10t
   have sub3 := sub2.trans hs3
   have c0 := B10v.get (i := 0) rfl
   have f0 := B10v.froz 0
   rw [e0] at c0 f0
   have k1 := B10v.set 0 (.slice (some (ptr b)) F.bools F.bools)
   rw [e0] at k1
   have k2 := k1.set 1 (.slice (some (ptr X)) F.ints F.ints)
   have r0 := k2.get (i := 0) rfl
   rw [e0] at r0
   have st1 : Step (· = b10) τ3 (τ3.setCell (ptr b10) (.slice (some (ptr b)) F.bools F.bools)) := setCell_step.weaken fun b hb => hb
   have st2' : Step (· = b10) (τ3.setCell (ptr b10) (.slice (some (ptr b)) F.bools F.bools)) ((τ3.setCell (ptr b10) (.slice (some (ptr b)) F.bools F.bools)).setCell ((ptr b10).add 1) (.slice (some (ptr X)) F.ints F.ints)) := setCell_step.weaken fun b hb => hb.trans (add_block _ _)
   have stt := st1.trans st2'
   have nbb : b ≠ b10 := ne_new B10t hb0
   have nbX : X ≠ b10 := ne_new B10t hX0
   refine ⟨τ3,PH.sub.refl _,_,_,_,_,_,_,rfl,⟨_,c0⟩,f0,⟨_,k1.get (i := 1) rfl⟩,k1.froz 1,_,r0,_,k2.get (i := 1) rfl,?_⟩
   refine hsat _ b X _ x' (sub_step_new sub3 stt (by rintro q rfl; exact nb10)) (kb.keep stt nbb) (kX.keep stt nbX) ?_
   exact sat_model hF rfl I2 W2 C2 hv tab_len (fun i hi => tab_get hi) hx' hxb'
 · have B10t : Blk τ2 b10 35 [.slice none 0 0,.slice none 0 0] := oth_sub _ _ _ _ (D2.oth _ _ (h1 _ _ B10u))
   have to : T2 b10 = .other := by
     have h := D2.oth _ _ (h1 _ _ B10u)
     unfold oth at h
     split at h
     · assumption
     · cases h
   have sub2 : σ.sub τ2 := ((sσυ.trans h1).trans D2.oth).trans (oth_sub _ _)
   obtain ⟨g,H,hff,A⟩ := R2
   have hsb : s ≠ b10 := by
     rintro rfl
     have := H.tag
     rw [to] at this; cases this
   have c0 := B10t.get (i := 0) rfl
   have f0 := B10t.froz 0
   rw [e0] at c0 f0
   have k1 := B10t.set 0 (.slice none 0 0)
   rw [e0] at k1
   have k2 := k1.set 1 (.slice none 0 0)
   have r0 := k2.get (i := 0) rfl
   rw [e0] at r0
   have st1 : Step (· = b10) τ2 (τ2.setCell (ptr b10) (.slice none 0 0)) := setCell_step.weaken fun b hb => hb
   have st2' : Step (· = b10) (τ2.setCell (ptr b10) (.slice none 0 0)) ((τ2.setCell (ptr b10) (.slice none 0 0)).setCell ((ptr b10).add 1) (.slice none 0 0)) := setCell_step.weaken fun b hb => hb.trans (add_block _ _)
   have stt := st1.trans st2'
   have H3 := H.keep stt fun b hb e => hb (by rw [e]; exact to)
   obtain ⟨hnc,hSM⟩ := H3.stepsM A
   have hn4 := H.n4 A
   refine ⟨τ2,PH.sub.refl _,_,rfl,br_iff.2 ⟨fun h => (by cases h),fun _ => ?_⟩⟩
   refine ⟨_,rfl,_,H.field (k := 4) rfl,_,_,_,rfl,fun h => hsb (by have := h.1; rw [add_block] at this; exact this.symm),fun h => hsb (by have := h.1; rw [add_block,add_block] at this; exact this.symm),⟨_,c0⟩,f0,⟨_,k1.get (i := 1) rfl⟩,k1.froz 1,_,r0,_,k2.get (i := 1) rfl,?_⟩
   exact hunsat _ _ _ _ _ cs (sub_step_new sub2 stt (by rintro q rfl; exact nb10)) hSM hnc hcs hlast (by omega)
theorem growNew {σ υ : PH} {sl : Sli} {o : List Int} (hs : σ.sub υ) (hO : Own υ 3 1 sl.a sl.n sl.c (ints o)) (hnew : ∀ p,sl.a = some p → σ p.block = none) (x : Int) (hn : o.length ≤ 1000000) {b : Nat} (hb : υ b = none) {R : Option Addr → Nat → Nat → PH → Prop}
   (hR : ∀ (sl' : Sli) τ,σ.sub τ → Own τ 3 1 sl'.a sl'.n sl'.c (ints (o ++ [x])) → (∀ p,sl'.a = some p → σ p.block = none) → R sl'.a sl'.n sl'.c τ) :
   iappend prog 3 (.slice sl.a sl.n sl.c) (.slice (some ⟨b,0,none⟩) 1 1) (fun v τ => ∃ (a : Option Addr) (n c : Nat),v = (.slice a n c) ∧ R a n c τ) (PH.set υ b (.cells #[(.int .i64 x)] 3)) := by
 have hon := own_len hO
 refine pushRow t3.1 t3.2.1 t3.2.2 rfl (by decide) hO hb (news := [.int .i64 x]) rfl ?_ (by omega) ?_
 · intro v hv; simp at hv; subst hv; trivial
 · intro a c τ hO' hst hnew'
   refine ⟨_,_,_,rfl,hR ⟨a,sl.n + 1,c⟩ τ (sub_step_new hs hst (by rintro q ⟨p,h1,rfl⟩; exact hnew p h1)) (by simpa [ints] using hO') fun p hp => ?_⟩
   rcases hnew' p hp with ⟨p',h1,h2⟩ | h1
   · rw [h2]; exact hnew p' h1
   · exact new_of hs h1
end Go.Proofs.Ythfnjogadngfiaa
namespace Go.Sv
theorem stepsFrom_pre {F : Fm} : ∀ {l : List PStep} {acc cs : List (List Int)},stepsFrom F acc l = some cs → cs.take acc.length = acc ∧ cs.length = acc.length + l.length ∧ ∀ (i : Nat) s,l[i]? = some s → ∃ c,cs[acc.length + i]? = some c ∧ stepClause F (cs.take (acc.length + i)) s = some c
 | [],acc,cs,h => by
   simp only [stepsFrom,Option.some.injEq] at h
   subst h
   simp
 | s :: l,acc,cs,h => by
   unfold stepsFrom at h
   split at h
   · cases h
   · rename_i c hc
     obtain ⟨h1,h2,h3⟩ := stepsFrom_pre h
     have e1 : (acc ++ [c]).length = acc.length + 1 := by simp
     rw [e1] at h1 h2 h3
     have ht : cs.take acc.length = acc := by
       have := congrArg (List.take acc.length) h1
       rw [List.take_take] at this
       simpa using this
     refine ⟨ht,by simp; omega,fun i t hi => ?_⟩
     cases i with
     | zero =>
       simp at hi; subst hi
       refine ⟨c,?_,by rw [Nat.add_zero,ht]; exact hc⟩
       have : (cs.take (acc.length + 1))[acc.length]? = some c := by rw [h1]; simp
       rw [List.getElem?_take] at this
       simpa using this
     | succ i =>
       obtain ⟨d,q1,q2⟩ := h3 i t (by simpa using hi)
       refine ⟨d,by rw [show acc.length + (i + 1) = acc.length + 1 + i from by omega]; exact q1,by rw [show acc.length + (i + 1) = acc.length + 1 + i from by omega]; exact q2⟩
theorem stepsOf_pre {F : Fm} {l : List PStep} {cs : List (List Int)} (h : stepsOf F l = some cs) : cs.length = l.length ∧ ∀ (i : Nat) s,l[i]? = some s → ∃ c,cs[i]? = some c ∧ stepClause F (cs.take i) s = some c := by
 obtain ⟨_,h2,h3⟩ := stepsFrom_pre h
 refine ⟨by simpa using h2,fun i s hs => ?_⟩
 obtain ⟨c,q1,q2⟩ := h3 i s hs
 exact ⟨c,by simpa using q1,by simpa using q2⟩
theorem bound_litN {F : Fm} (hF : FOk F) {x : Int} {d : Dif} (h : bound F x = some d) : LitN F.bools x := by
 unfold bound at h
 split at h
 · cases h
 · rename_i h0
   split at h
   · cases h
   · rename_i a b c hat
     have := (List.getElem?_eq_some_iff.1 hat).1
     have := hF.atoms
     refine ⟨h0,?_⟩
     unfold vr at *
     omega
theorem bounds_litN {F : Fm} (hF : FOk F) : ∀ {lits : List Int} {l : List Dif},bounds F lits = some l → ∀ x ∈ lits,LitN F.bools x
 | [],_,_,x,hx => by simp at hx
 | y :: t,l,h,x,hx => by
   unfold bounds at h
   split at h
   · cases h
   · rename_i d hd
     split at h
     · cases h
     · rename_i l' hl'
       rcases List.mem_cons.1 hx with rfl | hx
       · exact bound_litN hF hd
       · exact bounds_litN hF hl' x hx
theorem cyclic_litN {F : Fm} (hF : FOk F) {lits out : List Int} (h : cyclic F lits = some out) : (∀ x ∈ lits,LitN F.bools x) ∧ norm (lits.map (- ·)) = some out := by
 unfold cyclic at h
 split at h
 · cases h
 · rename_i l hb
   split at h
   · exact ⟨bounds_litN hF hb,h⟩
   · cases h
theorem resolvent_some {p q out : List Int} {v : Int} (h : resolvent p q v = some out) : norm (p.filter (· != v + 1) ++ q.filter (· != -(v + 1))) = some out := by
 unfold resolvent at h
 split at h
 · exact h
 · cases h
theorem steps_lit {F : Fm} (hF : FOk F) {l : List PStep} {cs : List (List Int)} (h : stepsOf F l = some cs) : ∀ (i : Nat) c,cs[i]? = some c → SortedA c ∧ ∀ x ∈ c,LitN F.bools x := by
 obtain ⟨hlen,hat⟩ := stepsOf_pre h
 intro i
 induction i using Nat.strongRecOn with
 | ind i ih =>
   intro c hc
   have hi := (List.getElem?_eq_some_iff.1 hc).1
   obtain ⟨s,hs⟩ : ∃ s,l[i]? = some s := ⟨_,List.getElem?_eq_getElem (by omega)⟩
   obtain ⟨c',q1,q2⟩ := hat i s hs
   rw [hc] at q1; cases q1
   have fin : ∀ {d : List Int},norm d = some c → (∀ x ∈ d,LitN F.bools x) → SortedA c ∧ ∀ x ∈ c,LitN F.bools x := fun hd hl => by
     obtain ⟨h1,h2,_⟩ := norm_some hd
     exact ⟨h1,fun x hx => hl x ((h2 x).1 hx)⟩
   unfold stepClause at q2
   split at q2
   · split at q2
     · split at q2
       · rename_i d hd
         exact fin q2 (hF.cl d (List.mem_of_getElem? hd))
       · cases q2
     · cases q2
   · split at q2
     · obtain ⟨h1,h2⟩ := cyclic_litN hF q2
       refine fin h2 fun x hx => ?_
       obtain ⟨y,hy,rfl⟩ := List.mem_map.1 hx
       exact (h1 y hy).neg
     · split at q2
       · split at q2
         · split at q2
           · rename_i a b ha hb
             rw [List.getElem?_take] at ha hb
             split at ha
             · rename_i hp
               split at hb
               · rename_i hq
                 refine fin (resolvent_some q2) fun x hx => ?_
                 rcases List.mem_append.1 hx with hx | hx
                 · exact (ih _ hp a ha).2 x (List.mem_filter.1 hx).1
                 · exact (ih _ hq b hb).2 x (List.mem_filter.1 hx).1
               · cases hb
             · cases ha
           · cases q2
         · cases q2
       · cases q2
def setV (val : List Int) (x : Int) : Option (List Int) :=
 if x = 0 ∨ x > val.length ∨ x < -(val.length : Int) then none else if val.getD (vr x) 0 = -sgn x then none else some (val.set (vr x) (sgn x))
theorem setV_len {val val' : List Int} {x : Int} (h : setV val x = some val') : val'.length = val.length := by
 unfold setV at h
 split at h
 · cases h
 · split at h
   · cases h
   · cases h; simp
def setAll : List Int → List Int → Option (List Int)
 | val,[] => some val
 | val,x :: l => match setV val x with | none => none | some v => setAll v l
def scan1 (val : List Int) (x : Int) (s : Int × Nat × Bool) : Int × Nat × Bool :=
 if valS val x > 0 then (s.1,s.2.1,true) else if valS val x = 0 ∧ x ≠ s.1 then (x,s.2.1 + 1,s.2.2) else s
def scanC (val : List Int) : List Int → Int × Nat × Bool → Int × Nat × Bool
 | [],s => s
 | x :: l,s => scanC val l (scan1 val x s)
def roundP : List (List Int) → List Int → Bool → Option (List Int × Bool)
 | [],val,ch => some (val,ch)
 | c :: cs,val,ch =>
   let s := scanC val c (0,0,false)
   if s.2.2 = true ∨ 1 < s.2.1 then roundP cs val ch else if s.2.1 = 0 then none else roundP cs ((setV val s.1).getD val) true
inductive PropR (cs : List (List Int)) : List Int → Option (List Int) → Prop
 | stop {val : List Int} : roundP cs val false = none → PropR cs val none
 | done {val val' : List Int} : roundP cs val false = some (val',false) → PropR cs val (some val')
 | go {val val' : List Int} {r : Option (List Int)} : roundP cs val false = some (val',true) → PropR cs val' r → PropR cs val r
def litsTo (val : List Int) (k : Nat) : List Int := ((List.range k).filter fun i => val.getD i 0 != 0).map fun i => val.getD i 0 * ((i : Int) + 1)
theorem litsTo_succ (val : List Int) (k : Nat) : litsTo val (k + 1) = litsTo val k ++ (if val.getD k 0 = 0 then [] else [val.getD k 0 * ((k : Int) + 1)]) := by
 unfold litsTo
 rw [List.range_succ,List.filter_append,List.map_append]
 congr 1
 by_cases h : val.getD k 0 = 0
 · rw [if_pos h,List.filter_cons_of_neg (by rw [h]; simp)]; rfl
 · rw [if_neg h,List.filter_cons_of_pos (by simpa using h)]; rfl
theorem litsTo_len (val : List Int) (k : Nat) : (litsTo val k).length ≤ k := by
 unfold litsTo
 rw [List.length_map]
 exact Nat.le_trans (List.length_filter_le _ _) (by simp)
theorem setV_small {val val' : List Int} {x : Int} (h : setV val x = some val') (hs : ∀ y ∈ val,-1 ≤ y ∧ y ≤ 1) : ∀ y ∈ val',-1 ≤ y ∧ y ≤ 1 := by
 unfold setV at h
 split at h
 · cases h
 · split at h
   · cases h
   · cases h
     intro y hy
     rcases List.mem_or_eq_of_mem_set hy with hy | rfl
     · exact hs y hy
     · unfold sgn; split <;> omega
end Go.Sv
namespace Go.Proofs.Ythfnjogadngfiaa
open Go.Sl Go.Sv
theorem c42 {σ : PH} {b15 b16 n : Nat} {val : List Int} (h16 : Blk σ b16 33 [.slice (some (ptr b15)) n n]) (h15 : Blk σ b15 3 (ints val)) (hn : val.length = n) (hn1 : n ≤ 1000000) {x : Int} {Q : Value → PH → Prop}
   (hno : setV val x = none → Q (.bool false) σ) (hok : ∀ val' τ,setV val x = some val' → Blk τ b15 3 (ints val') → Step (· = b15) σ τ → Q (.bool true) τ) :
   C 42 #[.int .i64 x,.pointer (some (ptr b16))] Q σ := by
 refine go (E42_0 _ _ _ _ _) ?_
 unfold S42_0
 have e0 : ∀ b : Nat,(Addr.mk b 0 none).add 0 = ⟨b,0,none⟩ := fun b => rfl
 have g := h16.get (i := 0) rfl
 rw [e0] at g
 have wn : IntKind.wrap .i64 (0 - (n : Int)) = -(n : Int) := by rw [w64 (by omega) (by omega)]; omega
 have no : (x = 0 ∨ x > val.length ∨ x < -(val.length : Int)) → Q (.bool false) σ := fun h => hno (by unfold setV; rw [if_pos h])
 refine br_iff.2 ⟨fun h => no (.inl (by simpa using h)),fun h0 => ⟨_,g,_,_,_,rfl,br_dec.2 ⟨fun h => no (by omega),fun hle => ⟨_,g,_,_,_,rfl,?_⟩⟩⟩⟩
 have hx0 : x ≠ 0 := by simpa using h0
 rw [wn]
 refine br_dec.2 ⟨fun h => no (by omega),fun hge => ?_⟩
 have hv : vr x < val.length := by unfold vr; omega
 have hc : σ.cell? ((ptr b15).add (vr x)) = some (.int .i64 (val.getD (vr x) 0)) := h15.get (i := vr x) (by rw [ints,List.getElem?_map,List.getElem?_eq_getElem hv,List.getD_eq_getElem?_getD,List.getElem?_eq_getElem hv]; rfl)
 have hf := h15.froz (vr x)
 have hset : ∀ w : Int,Blk (σ.setCell ((ptr b15).add (vr x)) (.int .i64 w)) b15 3 (ints (val.set (vr x) w)) ∧ Step (· = b15) σ (σ.setCell ((ptr b15).add (vr x)) (.int .i64 w)) := fun w => by
   refine ⟨?_,setCell_step.weaken fun b hb => hb.trans (add_block _ _)⟩
   have := h15.set (vr x) (.int .i64 w)
   unfold ints at this ⊢
   rwa [List.map_set]
 have hsv : setV val x = if val.getD (vr x) 0 = -sgn x then none else some (val.set (vr x) (sgn x)) := by
   unfold setV
   rw [if_neg (by omega)]
 refine br_dec.2 ⟨fun hneg => ?_,fun hpos => ?_⟩
 · have w1 : IntKind.wrap .i64 (IntKind.wrap .i64 (0 - x) - 1) = ((vr x : Nat) : Int) := by unfold vr; rw [w64 (n := 0 - x) (by omega) (by omega),w64 (by omega) (by omega)]; omega
   have w2 : IntKind.wrap .i64 (0 - (-1 : Int)) = 1 := by rw [w64 (by omega) (by omega)]; rfl
   have hs : sgn x = -1 := if_pos hneg
   rw [hs] at hsv
   rw [w1,w2]
   simp only [Int.toNat_natCast,Nat.mul_one]
   refine ⟨_,g,_,_,_,rfl,_,rfl,by omega,by omega,_,hc,_,rfl,br_iff.2 ⟨fun h => ?_,fun h => ⟨_,g,_,_,_,rfl,_,rfl,by omega,by omega,⟨_,hc⟩,hf,?_⟩⟩⟩
   · have h : val.getD (vr x) 0 = 1 := by simpa using h
     exact hno (by rw [hsv,if_pos (by omega)])
   · have h : val.getD (vr x) 0 ≠ 1 := by simpa using h
     obtain ⟨k1,k2⟩ := hset (-1)
     exact hok _ _ (by rw [hsv,if_neg (by omega)]) k1 k2
 · have w1 : IntKind.wrap .i64 (x - 1) = ((vr x : Nat) : Int) := by unfold vr; rw [w64 (by omega) (by omega)]; omega
   have w2 : IntKind.wrap .i64 (0 - (1 : Int)) = -1 := by rw [w64 (by omega) (by omega)]; rfl
   have hs : sgn x = 1 := if_neg hpos
   rw [hs] at hsv
   rw [w1,w2]
   simp only [Int.toNat_natCast,Nat.mul_one]
   refine ⟨_,g,_,_,_,rfl,_,rfl,by omega,by omega,_,hc,_,rfl,br_iff.2 ⟨fun h => ?_,fun h => ⟨_,g,_,_,_,rfl,_,rfl,by omega,by omega,⟨_,hc⟩,hf,?_⟩⟩⟩
   · have h : val.getD (vr x) 0 = -1 := by simpa using h
     exact hno (by rw [hsv,if_pos (by omega)])
   · have h : val.getD (vr x) 0 ≠ -1 := by simpa using h
     obtain ⟨k1,k2⟩ := hset 1
     exact hok _ _ (by rw [hsv,if_neg (by omega)]) k1 k2
structure PV (σ υ : PH) (ff : List Value) (b12 b15 b16 n : Nat) (val : List Int) : Prop where
 sub : σ.sub υ
 k12 : Blk υ b12 29 ff
 k16 : Blk υ b16 33 [.slice (some (ptr b15)) n n]
 k15 : Blk υ b15 3 (ints val)
 n15 : σ b15 = none
 d1 : b12 ≠ b15
 d2 : b16 ≠ b15
 len : val.length = n
 sm : ∀ y ∈ val,-1 ≤ y ∧ y ≤ 1
theorem PV.set {σ υ τ : PH} {ff : List Value} {b12 b15 b16 n : Nat} {val val' : List Int} (h : PV σ υ ff b12 b15 b16 n val) {x : Int} (hv : setV val x = some val') (k : Blk τ b15 3 (ints val')) (st : Step (· = b15) υ τ) : PV σ τ ff b12 b15 b16 n val' :=
 ⟨sub_step_new h.sub st (by rintro b rfl; exact h.n15),h.k12.keep st h.d1,h.k16.keep st h.d2,k,h.n15,h.d1,h.d2,(setV_len hv).trans h.len,setV_small hv h.sm⟩
theorem PV.lits {σ υ : PH} {ff : List Value} {b12 b15 b16 n : Nat} {val : List Int} (h : PV σ υ ff b12 b15 b16 n val) : ∀ y ∈ val,Lit y := fun y hy => by have := h.sm y hy; unfold Lit; omega
theorem scan_lit {val : List Int} {N : Nat} : ∀ {c : List Int} {s : Int × Nat × Bool},(∀ x ∈ c,LitN N x) → (s.1 = 0 ∨ LitN N s.1) → (s.2.1 = 0 ∨ LitN N s.1) → ((scanC val c s).1 = 0 ∨ LitN N (scanC val c s).1) ∧ ((scanC val c s).2.1 = 0 ∨ LitN N (scanC val c s).1)
 | [],s,_,h1,h2 => ⟨h1,h2⟩
 | x :: c,s,hc,h1,h2 => by
   unfold scanC
   refine scan_lit (fun y hy => hc y (List.mem_cons_of_mem _ hy)) ?_ ?_
   · unfold scan1
     split
     · exact h1
     · split
       · exact .inr (hc x List.mem_cons_self)
       · exact h1
   · unfold scan1
     split
     · exact h2
     · split
       · exact .inr (hc x List.mem_cons_self)
       · exact h2
theorem c25 {σ : PH} {F : Fm} (hF : FOk F) (hlen : ∀ c ∈ F.clauses,c.length ≤ 1000000) {aa ca : Option Addr} {an ac cn cc : Nat} (hL : Lists σ ca cn F.clauses) {a : Option Addr} {n c : Nat} {l : List Int} (hI : Ints σ a n l) (hll : l.length ≤ 1000000)
   {Q : Value → PH → Prop} (hno : (setAll (List.replicate F.bools 0) l = none ∨ ∃ v,setAll (List.replicate F.bools 0) l = some v ∧ PropR F.clauses v none) → ∀ τ,σ.sub τ → Q (.tuple #[.slice none 0 0,.bool false]) τ)
   (hok : ∀ v val τ (sl : Sli),setAll (List.replicate F.bools 0) l = some v → PropR F.clauses v (some val) → σ.sub τ → Own τ 3 1 sl.a sl.n sl.c (ints (litsTo val F.bools)) → (∀ p,sl.a = some p → σ p.block = none) → Q (.tuple #[sl.v,.bool true]) τ)
   (hdec : ∀ v,setAll (List.replicate F.bools 0) l = some v → ∃ r,PropR F.clauses v r) :
   C 25 #[.agg #[.int .i64 F.ints,.int .i64 F.bools,.slice aa an ac,.slice ca cn cc],.slice a n c] Q σ := by
 refine go (E25_0 _ _ _ _ _ _ _ _ _ _ _ _ _ _) ?_
 unfold S25_0
 have e0 : ∀ b : Nat,(Addr.mk b 0 none).add 0 = ⟨b,0,none⟩ := fun b => rfl
 have hnb := hF.bools
 have hln := hI.1
 have hLn := hL.1
 have hcl := hF.cn
 intro b12 h12
 have s12 := PH.sub_set (o := .cells #[.int .i64 F.ints,.int .i64 F.bools,.slice aa an ac,.slice ca cn cc] 29) h12
 have B12 : Blk (σ.set b12 (.cells #[.int .i64 F.ints,.int .i64 F.bools,.slice aa an ac,.slice ca cn cc] 29)) b12 29 [.int .i64 F.ints,.int .i64 F.bools,.slice aa an ac,.slice ca cn cc] := set_self
 generalize σ.set b12 (.cells #[.int .i64 F.ints,.int .i64 F.bools,.slice aa an ac,.slice ca cn cc] 29) = ω at *
 refine ⟨_,B12.get (i := 1) rfl,_,rfl,?_⟩
 have wif : (if (F.bools : Int) < (0 : Int) then (0 : Int) else (F.bools : Int)) = (F.bools : Int) := if_neg (by omega)
 rw [wif]
 refine ⟨by omega,by omega,by omega,by omega,fun b15 h15 b16 => ?_⟩
 simp only [Int.toNat_natCast]
 have s15 := PH.sub_set (o := .cells (zeros (.int .i64 0) F.bools) 3) h15
 have B15 : Blk (ω.set b15 (.cells (zeros (.int .i64 0) F.bools) 3)) b15 3 (ints (List.replicate F.bools 0)) := by
   have : zeros (.int .i64 0) F.bools = (ints (List.replicate F.bools 0)).toArray := by rw [zeros_one rfl,ints,List.map_replicate]
   rw [this]; exact set_self
 generalize ω.set b15 (.cells (zeros (.int .i64 0) F.bools) 3) = ω1 at *
 intro h16
 simp only [newSet,newSet0,newCell,newCell0,newFroz,newFroz0,List.setIfInBounds_toArray,List.set_cons_zero,List.set_cons_succ,List.getElem?_toArray,List.getElem?_cons_zero,List.getElem?_cons_succ,Option.some.injEq,exists_eq',true_and,exists_eq_left']
 have s16 := PH.sub_set (o := .cells #[.slice (some ⟨b15,0,none⟩) F.bools F.bools] 33) h16
 have B16 : Blk (ω1.set b16 (.cells #[.slice (some ⟨b15,0,none⟩) F.bools F.bools] 33)) b16 33 [.slice (some (ptr b15)) F.bools F.bools] := set_self
 generalize ω1.set b16 (.cells #[.slice (some ⟨b15,0,none⟩) F.bools F.bools] 33) = ω2 at *
 have P0 : PV σ ω2 [.int .i64 F.ints,.int .i64 F.bools,.slice aa an ac,.slice ca cn cc] b12 b15 b16 F.bools (List.replicate F.bools 0) :=
   ⟨(s12.trans s15).trans s16,s16 _ _ (s15 _ _ B12),B16,s16 _ _ B15,new_of s12 h15,(ne_new B12 h15).symm,ne_new B15 h16,by simp,fun y hy => by rw [List.mem_replicate] at hy; omega⟩
 unfold S25_1
 refine iloopS_for (G := List Int) (fun k val => (ptr b12,ptr b16,ptr b16,a,n,c,(n : Int),(k : Int))) (fun k val υ => PV σ υ [.int .i64 F.ints,.int .i64 F.bools,.slice aa an ac,.slice ca cn cc] b12 b15 b16 F.bools val ∧ setAll val (l.drop k) = setAll (List.replicate F.bools 0) l) n ?_ (g := List.replicate F.bools 0) ⟨P0,rfl⟩
 rintro k val υ hk ⟨P,hs⟩ R hR
 unfold S25_2
 dsimp only
 refine br_dec.2 ⟨fun hlt => ?_,fun hge => ?_⟩
 · have hkn : k < n := by omega
   obtain ⟨x,hx⟩ : ∃ x,l[k]? = some x := ⟨_,List.getElem?_eq_getElem (by omega)⟩
   obtain ⟨p,hp,hc⟩ := (hI.sub P.sub).2.at (i := k) (v := .int .i64 x) (by simp [hx])
   have wk : IntKind.wrap .i64 ((k : Int) + 1) = ((k + 1 : Nat) : Int) := by rw [w64 (by omega) (by omega)]; omega
   have hdk : l.drop k = x :: l.drop (k + 1) := by
     rw [List.drop_eq_getElem_cons (by omega)]
     congr 1
     exact (List.getElem?_eq_some_iff.1 hx).2
   rw [hdk,setAll] at hs
   refine ⟨p,hp,by omega,by omega,_,by rw [Int.toNat_natCast,Nat.mul_one]; exact hc,x,rfl,?_⟩
   refine c42 P.k16 P.k15 P.len (by omega) (fun h => ⟨υ,.refl _,_,rfl,br_iff.2 ⟨fun _ => ?_,fun h => (by cases h)⟩⟩) fun val' τ h hB hst => ⟨τ,.refl _,_,rfl,br_iff.2 ⟨fun h => (by cases h),fun _ => ?_⟩⟩
   · rw [h] at hs
     exact hno (.inl hs.symm) υ P.sub
   · rw [h] at hs
     rw [wk]
     exact hR val' τ hkn ⟨P.set h hB hst,hs⟩
 · have hkn : k = n := by omega
   subst hkn
   rw [List.drop_eq_nil_of_le (by omega),setAll] at hs
   obtain ⟨r,hr⟩ := hdec val hs.symm
   have key : ∀ (v0 : List Int),setAll (List.replicate F.bools 0) l = some v0 → ∀ (w : List Int) (r : Option (List Int)),PropR F.clauses w r → (∀ r',PropR F.clauses w r' → PropR F.clauses v0 r') → ∀ υ,PV σ υ [.int .i64 F.ints,.int .i64 F.bools,.slice aa an ac,.slice ca cn cc] b12 b15 b16 F.bools w → S25_3 C Q (ptr b12) (ptr b16) (ptr b16) true υ := by
     intro v0 hv0 w r hwr
     have step : ∀ (w : List Int) (hpr : ∀ r',PropR F.clauses w r' → PropR F.clauses v0 r'),∀ υ,PV σ υ [.int .i64 F.ints,.int .i64 F.bools,.slice aa an ac,.slice ca cn cc] b12 b15 b16 F.bools w → ∀ R3 : Addr × Addr × Addr × Bool → PH → Prop,
         (roundP F.clauses w false = none → ∀ τ,σ.sub τ → Q (.tuple #[.slice none 0 0,.bool false]) τ) → (∀ w' ch τ,roundP F.clauses w false = some (w',ch) → PV σ τ [.int .i64 F.ints,.int .i64 F.bools,.slice aa an ac,.slice ca cn cc] b12 b15 b16 F.bools w' → R3 (ptr b12,ptr b16,ptr b16,ch) τ) → S25_4 C Q R3 (ptr b12) (ptr b16) (ptr b16) true υ := by
       intro w hpr υ P R3 h1 h2
       unfold S25_4
       refine br_iff.2 ⟨fun _ => ⟨_,P.k12.get (i := 3) rfl,_,_,_,rfl,?_⟩,fun h => (by cases h)⟩
       unfold S25_5
       refine iloopS_for (G := List Int × Bool) (fun k g => (ptr b12,ptr b16,ptr b16,g.2,ca,cn,cc,(cn : Int),(k : Int))) (fun k g τ => PV σ τ [.int .i64 F.ints,.int .i64 F.bools,.slice aa an ac,.slice ca cn cc] b12 b15 b16 F.bools g.1 ∧ roundP (F.clauses.drop k) g.1 g.2 = roundP F.clauses w false) cn ?_ (g := (w,false)) ⟨P,rfl⟩
       clear P υ
       rintro k ⟨wv,ch⟩ υ hk ⟨P,hrd⟩ R5 hR5
       dsimp only at P hrd
       unfold S25_6
       dsimp only
       refine br_dec.2 ⟨fun hlt => ?_,fun hge => ?_⟩
       · have hkn : k < cn := by omega
         obtain ⟨cl,hc⟩ : ∃ c,F.clauses[k]? = some c := ⟨_,List.getElem?_eq_getElem (by omega)⟩
         have hcm := List.mem_of_getElem? hc
         have hclit := hF.cl cl hcm
         have hdk : F.clauses.drop k = cl :: F.clauses.drop (k + 1) := by
           rw [List.drop_eq_getElem_cons (by omega)]
           congr 1
           exact (List.getElem?_eq_some_iff.1 hc).2
         rw [hdk,roundP] at hrd
         obtain ⟨p,x,m,kk,hp,hcell,hIc,hmk⟩ := (hL.sub P.sub).2 k cl hc
         have hcm' := hIc.1
         have hclen := hlen cl hcm
         have wk : IntKind.wrap .i64 ((k : Int) + 1) = ((k + 1 : Nat) : Int) := by rw [w64 (by omega) (by omega)]; omega
         have g16 := P.k16.get (i := 0) rfl
         rw [e0] at g16
         have hIv : Ints υ (some (ptr b15)) F.bools wv := ⟨P.len,.inr ⟨_,rfl,fun i v hv => P.k15.get hv⟩⟩
         refine ⟨p,hp,by omega,by omega,_,by rw [Int.toNat_natCast,Nat.mul_one]; exact hcell,_,_,_,rfl,?_⟩
         unfold S25_7
         refine iloopS_for (G := Int × Nat × Bool) (fun j s => (ptr b12,ptr b16,ptr b16,ch,s.1,(s.2.1 : Int),s.2.2,ca,cn,cc,(cn : Int),(k : Int),x,m,kk,(m : Int),(j : Int))) (fun j s τ => υ = τ ∧ scanC wv (cl.drop j) s = scanC wv cl (0,0,false) ∧ s.2.1 ≤ j) m ?_ (g := (0,0,false)) ⟨rfl,rfl,Nat.le_refl _⟩
         rintro j s _ hj ⟨rfl,hsc,hsj⟩ R7 hR7
         unfold S25_8
         dsimp only
         refine br_dec.2 ⟨fun hjlt => ?_,fun hjge => ?_⟩
         · have hjn : j < m := by omega
           obtain ⟨y,hy⟩ : ∃ y,cl[j]? = some y := ⟨_,List.getElem?_eq_getElem (by omega)⟩
           have hyl := hclit y (List.mem_of_getElem? hy)
           have hdj : cl.drop j = y :: cl.drop (j + 1) := by
             rw [List.drop_eq_getElem_cons (by omega)]
             congr 1
             exact (List.getElem?_eq_some_iff.1 hy).2
           rw [hdj,scanC] at hsc
           obtain ⟨q,hq,hcq⟩ := hIc.2.at (i := j) (v := .int .i64 y) (by simp [hy])
           have wj : IntKind.wrap .i64 ((j : Int) + 1) = ((j + 1 : Nat) : Int) := by rw [w64 (by omega) (by omega)]; omega
           refine ⟨q,hq,by omega,by omega,_,by rw [Int.toNat_natCast,Nat.mul_one]; exact hcq,y,rfl,_,g16,_,_,_,rfl,(c43 (litN hyl hnb) hIv P.lits).mono hb ?_⟩
           rintro _ τ ⟨rfl,eτ⟩
           obtain rfl := eτ.symm
           refine ⟨_,.refl _,_,rfl,?_⟩
           rw [wj]
           refine br_dec.2 ⟨fun hpos => ?_,fun hnp => br_iff.2 ⟨fun hz => br_iff.2 ⟨fun hne => ?_,fun he => ?_⟩,fun hz => ?_⟩⟩
           · refine hR7 (s.1,s.2.1,true) _ hjn ⟨rfl,?_,by dsimp only; omega⟩
             rw [← hsc]; congr 1
             unfold scan1; rw [if_pos hpos]
           · have hz : Go.Sv.valS wv y = 0 := by simpa using hz
             have hne : y ≠ s.1 := by simpa using hne
             have wo : IntKind.wrap .i64 ((s.2.1 : Int) + 1) = ((s.2.1 + 1 : Nat) : Int) := by rw [w64 (by omega) (by omega)]; omega
             rw [wo]
             refine hR7 (y,s.2.1 + 1,s.2.2) _ hjn ⟨rfl,?_,by dsimp only; omega⟩
             rw [← hsc]; congr 1
             unfold scan1; rw [if_neg hnp,if_pos ⟨hz,hne⟩]
           · have he : y = s.1 := by simpa using he
             refine hR7 s _ hjn ⟨rfl,?_,by omega⟩
             rw [← hsc]; congr 1
             unfold scan1; rw [if_neg hnp,if_neg (fun h => h.2 he)]
           · have hz : Go.Sv.valS wv y ≠ 0 := by simpa using hz
             refine hR7 s _ hjn ⟨rfl,?_,by omega⟩
             rw [← hsc]; congr 1
             unfold scan1; rw [if_neg hnp,if_neg (fun h => hz h.1)]
         · have hjn : j = m := by omega
           subst hjn
           rw [List.drop_eq_nil_of_le (by omega),scanC] at hsc
           rw [← hsc] at hrd
           have hsl := scan_lit (val := wv) (N := F.bools) (c := cl) (s := (0,0,false)) hclit (.inl rfl) (.inl rfl)
           rw [← hsc] at hsl
           have hsL : Lit s.1 := by
             rcases hsl.1 with h | h
             · rw [h]; unfold Lit; omega
             · exact litN h hnb
           rw [wk]
           refine br_iff.2 ⟨fun hh => ?_,fun hh => br_dec.2 ⟨fun ho => ?_,fun ho => br_iff.2 ⟨fun hz => ?_,fun hz => ?_⟩⟩⟩
           · rw [if_pos (.inl hh)] at hrd
             exact hR5 (wv,ch) _ hkn ⟨P,hrd⟩
           · rw [if_pos (.inr (by omega))] at hrd
             exact hR5 (wv,ch) _ hkn ⟨P,hrd⟩
           · have hz : s.2.1 = 0 := by simp at hz; omega
             rw [if_neg (by simp [hh]; omega),if_pos hz] at hrd
             exact h1 hrd.symm υ P.sub
           · have hz : s.2.1 ≠ 0 := by intro h; rw [h] at hz; simp at hz
             rw [if_neg (by simp [hh]; omega),if_neg hz] at hrd
             refine c42 P.k16 P.k15 P.len (by omega) (fun h => ⟨υ,.refl _,_,rfl,?_⟩) fun val' τ h hB hst => ⟨τ,.refl _,_,rfl,?_⟩
             · rw [h] at hrd
               exact hR5 (wv,true) _ hkn ⟨P,hrd⟩
             · rw [h] at hrd
               exact hR5 (val',true) _ hkn ⟨P.set h hB hst,hrd⟩
       · have hkn : k = cn := by omega
         subst hkn
         rw [List.drop_eq_nil_of_le (by omega),roundP] at hrd
         exact h2 wv ch υ hrd.symm P
     have fin : ∀ (w' : List Int),PropR F.clauses v0 (some w') → ∀ τ,PV σ τ [.int .i64 F.ints,.int .i64 F.bools,.slice aa an ac,.slice ca cn cc] b12 b15 b16 F.bools w' → ∀ R3 : Addr × Addr × Addr × Bool → PH → Prop,S25_4 C Q R3 (ptr b12) (ptr b16) (ptr b16) false τ := by
       intro w' hpr υ P R3
       unfold S25_4
       have g16 := P.k16.get (i := 0) rfl
       rw [e0] at g16
       refine br_iff.2 ⟨fun h => (by cases h),fun _ => ⟨_,g16,_,_,_,rfl,?_⟩⟩
       unfold S25_9
       refine iloopS_for (G := Sli) (fun k sl => (sl.a,sl.n,sl.c,some (ptr b15),F.bools,F.bools,(F.bools : Int),(k : Int))) (fun k sl τ => υ.sub τ ∧ Own τ 3 1 sl.a sl.n sl.c (ints (litsTo w' k)) ∧ ∀ p,sl.a = some p → υ p.block = none) F.bools ?_ (g := ⟨none,0,0⟩) ⟨.refl _,own_nil,fun p hp => by cases hp⟩
       rintro k sl τ hk ⟨hs,hO,hnew⟩ R9 hR9
       unfold S25_10
       dsimp only at hO hnew ⊢
       refine br_dec.2 ⟨fun hlt => ?_,fun hge => ?_⟩
       · have hkn : k < F.bools := by omega
         have hkl : k < w'.length := by rw [P.len]; exact hkn
         have hc : τ.cell? ((ptr b15).add k) = some (.int .i64 (w'.getD k 0)) := hs.cell (P.k15.get (i := k) (by rw [ints,List.getElem?_map,List.getElem?_eq_getElem hkl,List.getD_eq_getElem?_getD,List.getElem?_eq_getElem hkl]; rfl))
         have hsm := P.sm (w'.getD k 0) (by rw [List.getD_eq_getElem?_getD,List.getElem?_eq_getElem hkl]; exact List.getElem_mem _)
         have hlt' := litsTo_succ w' k
         have hll' := litsTo_len w' k
         generalize w'.getD k 0 = y at *
         have wk : IntKind.wrap .i64 ((k : Int) + 1) = (k : Int) + 1 := w64 (by omega) (by omega)
         have wy : IntKind.wrap .i64 (y * ((k : Int) + 1)) = y * ((k : Int) + 1) := by
           have : y = -1 ∨ y = 0 ∨ y = 1 := by omega
           rcases this with rfl | rfl | rfl <;> rw [w64 (by omega) (by omega)]
         rw [wk,show ((k : Int) + 1) = ((k + 1 : Nat) : Int) from by omega]
         refine ⟨_,rfl,by omega,by omega,_,by rw [Int.toNat_natCast,Nat.mul_one]; exact hc,y,rfl,br_iff.2 ⟨fun hne b hbn => ?_,fun he => ?_⟩⟩
         · have hne : y ≠ 0 := by simpa using hne
           rw [if_neg hne] at hlt'
           rw [show ((k + 1 : Nat) : Int) = (k : Int) + 1 from by omega,wy]
           exact growNew hs hO hnew (y * ((k : Int) + 1)) (by omega) hbn (R := fun a n c τ => R9 (a,n,c,some (ptr b15),F.bools,F.bools,(F.bools : Int),(k : Int) + 1) τ) fun sl' τ' g1 g2 g3 => hR9 sl' τ' hkn ⟨g1,by rw [hlt']; exact g2,g3⟩
         · have he : y = 0 := by simpa using he
           rw [if_pos he,List.append_nil] at hlt'
           exact hR9 sl τ hkn ⟨hs,by rw [hlt']; exact hO,hnew⟩
       · have hkn : k = F.bools := by omega
         subst hkn
         exact hok v0 w' τ sl hv0 hpr (P.sub.trans hs) hO fun p hp => new_of P.sub (hnew p hp)
     induction hwr with
     | stop h =>
       intro hpr υ P
       unfold S25_3
       intro R3 hR3
       refine hR3 _ _ (step _ hpr υ P R3 (fun h' τ hτ => hno (.inr ⟨v0,hv0,hpr _ (.stop h')⟩) τ hτ) fun w' ch τ h' _ => ?_)
       rw [h] at h'; cases h'
     | @done w w' h =>
       intro hpr υ P
       unfold S25_3
       intro R3 hR3
       refine hR3 _ _ (step _ hpr υ P R3 (fun h' _ _ => ?_) fun w2 ch τ h' P' => ?_)
       · rw [h] at h'; cases h'
       · rw [h] at h'; cases h'
         exact hR3 _ _ (fin _ (hpr _ (.done h)) τ P' R3)
     | @go w w' r h _ ih =>
       intro hpr υ P
       unfold S25_3
       intro R3 hR3
       refine hR3 _ _ (step _ hpr υ P R3 (fun h' _ _ => ?_) fun w2 ch τ h' P' => ?_)
       · rw [h] at h'; cases h'
       · rw [h] at h'; cases h'
         exact ih (fun r' hr' => hpr r' (.go h hr')) τ P' R3 hR3
   exact key val hs.symm val r hr (fun _ h => h) υ P
theorem _root_.Go.Sl.Own.obj {σ : PH} {e size : Nat} {a : Option Addr} {n c : Nat} {vs : List Value} (o : Own σ e size a n c vs) {p : Addr} (hp : a = some p) : ∃ arr,σ p.block = some (.cells arr e (0,0)) := by
 rcases o.row with ⟨rfl,_⟩ | ⟨b,arr,rfl,hb,_⟩
 · cases hp
 · cases hp; exact ⟨arr,hb⟩
theorem ne_ty {ω : PH} {b b' : Nat} {arr arr' : Array Value} {e e' : Nat} {f f' : Nat × Nat} (h : ω b = some (.cells arr e f)) (h' : ω b' = some (.cells arr' e' f')) (he : e ≠ e') : b ≠ b' := by
 rintro rfl; rw [h] at h'; cases h'; exact he rfl
structure U8s (σ : PH) (a : Option Addr) (n : Nat) (l : List Int) : Prop where
 len : l.length = n
 row : Row σ a (l.map (.int .u8))
 rng : ∀ x ∈ l,0 ≤ x ∧ x < 256
theorem U8s.sub {σ τ : PH} (h : σ.sub τ) {a : Option Addr} {n : Nat} {l : List Int} (u : U8s σ a n l) : U8s τ a n l := ⟨u.len,u.row.sub h,u.rng⟩
theorem U8s.take {σ : PH} {a : Option Addr} {n : Nat} {l : List Int} (u : U8s σ a n l) (m : Nat) : U8s σ a (min m n) (l.take m) := by
 refine ⟨by rw [List.length_take,u.len],?_,fun x hx => u.rng x (List.mem_of_mem_take hx)⟩
 rcases u.row with h | ⟨p,h1,h2⟩
 · left; rw [List.map_take,h]; simp
 · right
   refine ⟨p,h1,fun i v hv => h2 i v ?_⟩
   rw [List.map_take,List.getElem?_take] at hv
   split at hv
   · exact hv
   · cases hv
def nxk (l : List Int) (k : Nat) : Nat := if k < l.length then k + 1 else k
def nxv (l : List Int) (k : Nat) : Int := l.getD k 0
theorem nxk_le {l : List Int} {k : Nat} (h : k ≤ l.length) : nxk l k ≤ l.length := by unfold nxk; split <;> omega
theorem nxv_rng {l : List Int} (h : ∀ x ∈ l,0 ≤ x ∧ x < 256) (k : Nat) : 0 ≤ nxv l k ∧ nxv l k < 256 := by
 unfold nxv
 rw [List.getD_eq_getElem?_getD]
 cases hc : l[k]? with
 | none => exact ⟨by simp,by simp⟩
 | some v => exact h v (List.mem_of_getElem? hc)
structure Tape (φ ω : PH) (t : Nat) (s : Sli) (l : List Int) (k : Nat) : Prop where
 blk : Blk ω t 90 [s.v,.int .i64 k]
 new : φ t = none
 u8 : U8s φ s.a s.n l
 le : k ≤ l.length
theorem Tape.grow {φ φ' ω : PH} {t : Nat} {s : Sli} {l : List Int} {k : Nat} (h : Tape φ ω t s l k) (hs : φ.sub φ') (hn : φ' t = none) : Tape φ' ω t s l k := ⟨h.blk,hn,h.u8.sub hs,h.le⟩
theorem Tape.keep {M : Nat → Prop} {φ ω τ : PH} {t : Nat} {s : Sli} {l : List Int} {k : Nat} (h : Tape φ ω t s l k) (st : Step M ω τ) (hM : ¬ M t) : Tape φ τ t s l k := ⟨h.blk.keep st hM,h.new,h.u8,h.le⟩
theorem c41 {φ ω : PH} {t : Nat} {s : Sli} {l : List Int} {k : Nat} {m : Int} (h : Tape φ ω t s l k) (hs : φ.sub ω) (hl : l.length ≤ 1000000) (hm : 1 ≤ m) {Q : Value → PH → Prop}
   (hQ : ∀ τ,Step (· = t) ω τ → φ.sub τ → Tape φ τ t s l (nxk l k) → Q (.int .i64 (Int.tmod (nxv l k) m)) τ) : C 41 #[.pointer (some (ptr t)),.int .i64 m] Q ω := by
 refine go (E41_0 _ _ _ _ _) ?_
 unfold S41_0
 have e0 : ∀ b : Nat,(Addr.mk b 0 none).add 0 = ⟨b,0,none⟩ := fun b => rfl
 have hlen := h.u8.len
 have hle := h.le
 have g0 := h.blk.get (i := 0) rfl
 rw [e0] at g0
 refine ⟨_,rfl,_,h.blk.get (i := 1) rfl,_,rfl,_,rfl,_,g0,_,_,_,rfl,br_dec.2 ⟨fun hge => ?_,fun hlt => br_dec.2 ⟨fun h => by omega,fun _ => ?_⟩⟩⟩
 · have hk : ¬ k < l.length := by omega
   have e1 : nxk l k = k := if_neg hk
   have e2 : nxv l k = 0 := by unfold nxv; rw [List.getD_eq_getElem?_getD,List.getElem?_eq_none (by omega)]; rfl
   have := hQ ω (.refl _) hs (by rw [e1]; exact h)
   rw [e2,Int.zero_tmod] at this
   exact this
 · have hk : k < l.length := by omega
   have wk : IntKind.wrap .i64 ((k : Int) + 1) = ((k + 1 : Nat) : Int) := by rw [w64 (by omega) (by omega)]; omega
   have wk2 : IntKind.wrap .i64 (((k + 1 : Nat) : Int) - 1) = (k : Int) := by rw [w64 (by omega) (by omega)]; omega
   have hS : Step (· = t) ω (ω.setCell ((ptr t).add 1) (.int .i64 ((k + 1 : Nat) : Int))) := setCell_step.weaken fun b hb => hb.trans (add_block _ _)
   have hφ : φ.sub (ω.setCell ((ptr t).add 1) (.int .i64 ((k + 1 : Nat) : Int))) := sub_step_new hs hS (by rintro b rfl; exact h.new)
   have B' : Blk (ω.setCell ((ptr t).add 1) (.int .i64 ((k + 1 : Nat) : Int))) t 90 [s.v,.int .i64 ((k + 1 : Nat) : Int)] := h.blk.set 1 (.int .i64 ((k + 1 : Nat) : Int))
   have g0' := B'.get (i := 0) rfl
   rw [e0] at g0'
   have hv : l.getD k 0 = nxv l k := rfl
   obtain ⟨p,hp,hc⟩ := h.u8.row.at (i := k) (v := .int .u8 (nxv l k)) (by unfold nxv; simp [hk])
   obtain ⟨r1,r2⟩ := nxv_rng h.u8.rng k
   have wv : IntKind.wrap .i64 (nxv l k) = nxv l k := w64 (by omega) (by omega)
   refine ⟨_,rfl,_,h.blk.get (i := 1) rfl,_,rfl,ptr t,rfl,⟨_,h.blk.get (i := 1) rfl⟩,h.blk.froz 1,ptr t,rfl,?_⟩
   rw [wk]
   refine ⟨_,g0',_,_,_,rfl,ptr t,rfl,_,B'.get (i := 1) rfl,_,rfl,p,hp,?_⟩
   rw [wk2]
   refine ⟨by omega,by omega,_,by rw [Int.toNat_natCast,Nat.mul_one]; exact hφ.cell hc,_,rfl,by omega,rfl,?_⟩
   rw [wv]
   have e1 : nxk l k = k + 1 := if_pos hk
   exact hQ _ hS hφ (by rw [e1]; exact ⟨B',h.new,h.u8,by omega⟩)
structure FR (φ ω : PH) (A K : Sli) (atoms : List Dif) (cs : List (List Int)) : Prop where
 sub : φ.sub ω
 oa : Own ω 50 3 A.a A.n A.c (difV atoms)
 anew : ∀ p,A.a = some p → φ p.block = none
 ok : ∃ vs,Own ω 33 1 K.a K.n K.c vs ∧ vs.length = cs.length ∧ ∀ (i : Nat) c,cs[i]? = some c → ∃ x m k,vs[i]? = some (.slice x m k) ∧ Own φ 3 1 x m k (ints c)
 knew : ∀ p,K.a = some p → φ p.block = none
theorem FR.atoms {φ ω : PH} {A K : Sli} {atoms : List Dif} {cs : List (List Int)} (h : FR φ ω A K atoms cs) : Atoms ω A.a A.n atoms := own_atoms h.oa
theorem FR.an {φ ω : PH} {A K : Sli} {atoms : List Dif} {cs : List (List Int)} (h : FR φ ω A K atoms cs) : A.n = atoms.length := h.atoms.1.symm
theorem FR.kn {φ ω : PH} {A K : Sli} {atoms : List Dif} {cs : List (List Int)} (h : FR φ ω A K atoms cs) : K.n = cs.length := by
 obtain ⟨vs,h1,h2,_⟩ := h.ok
 have := h1.len
 omega
theorem FR.lists {φ ω : PH} {A K : Sli} {atoms : List Dif} {cs : List (List Int)} (h : FR φ ω A K atoms cs) : Lists ω K.a K.n cs := by
 obtain ⟨vs,h1,h2,h3⟩ := h.ok
 refine ⟨by have := h1.len; omega,fun i c hc => ?_⟩
 obtain ⟨x,m,k,q1,q2⟩ := h3 i c hc
 obtain ⟨p,hp,hcell⟩ := h1.get q1
 exact ⟨p,x,m,k,hp,hcell,(own_ints q2).sub h.sub,q2.le⟩
theorem FR.keep {M : Nat → Prop} {φ ω τ : PH} {A K : Sli} {atoms : List Dif} {cs : List (List Int)} (h : FR φ ω A K atoms cs) (st : Step M ω τ) (hM : ∀ b,M b → φ b = none ∧ (∀ p,A.a = some p → b ≠ p.block) ∧ (∀ p,K.a = some p → b ≠ p.block)) : FR φ τ A K atoms cs := by
 refine ⟨sub_step_new h.sub st fun b hb => (hM b hb).1,h.oa.keep st fun p hp hm => (hM _ hm).2.1 p hp rfl,h.anew,?_,h.knew⟩
 obtain ⟨vs,h1,h2⟩ := h.ok
 exact ⟨vs,h1.keep st fun p hp hm => (hM _ hm).2.2 p hp rfl,h2⟩
theorem FR.grow {φ ω τ : PH} {A K : Sli} {atoms : List Dif} {cs : List (List Int)} (h : FR φ ω A K atoms cs) (hs : ω.sub τ) : FR φ τ A K atoms cs := h.keep (M := fun _ => False) hs.step fun _ h => h.elim
structure FB (φ ω : PH) (f : Nat) (i1 i2 : Int) (A K : Sli) (atoms : List Dif) (cs : List (List Int)) : Prop extends FR φ ω A K atoms cs where
 blk : Blk ω f 29 [.int .i64 i1,.int .i64 i2,A.v,K.v]
 fnew : φ f = none
theorem FB.nA {φ ω : PH} {f : Nat} {i1 i2 : Int} {A K : Sli} {atoms : List Dif} {cs : List (List Int)} (h : FB φ ω f i1 i2 A K atoms cs) {e : Nat} {arr : Array Value} {fr : Nat × Nat} {b : Nat} (hb : ω b = some (.cells arr e fr)) (he : e ≠ 50) : ∀ p,A.a = some p → b ≠ p.block := by
 intro p hp
 obtain ⟨arr',h'⟩ := h.oa.obj hp
 exact ne_ty hb h' he
theorem FB.nK {φ ω : PH} {f : Nat} {i1 i2 : Int} {A K : Sli} {atoms : List Dif} {cs : List (List Int)} (h : FB φ ω f i1 i2 A K atoms cs) {e : Nat} {arr : Array Value} {fr : Nat × Nat} {b : Nat} (hb : ω b = some (.cells arr e fr)) (he : e ≠ 33) : ∀ p,K.a = some p → b ≠ p.block := by
 intro p hp
 obtain ⟨vs,h1,_⟩ := h.ok
 obtain ⟨arr',h'⟩ := h1.obj hp
 exact ne_ty hb h' he
theorem FB.keep {M : Nat → Prop} {φ ω τ : PH} {f : Nat} {i1 i2 : Int} {A K : Sli} {atoms : List Dif} {cs : List (List Int)} (h : FB φ ω f i1 i2 A K atoms cs) (st : Step M ω τ)
   (hM : ∀ b,M b → φ b = none ∧ b ≠ f ∧ (∀ p,A.a = some p → b ≠ p.block) ∧ (∀ p,K.a = some p → b ≠ p.block)) : FB φ τ f i1 i2 A K atoms cs :=
 ⟨h.toFR.keep st fun b hb => ⟨(hM b hb).1,(hM b hb).2.2⟩,h.blk.keep st fun hm => (hM _ hm).2.1 rfl,h.fnew⟩
theorem FB.step1 {φ ω τ : PH} {f : Nat} {i1 i2 : Int} {A K : Sli} {atoms : List Dif} {cs : List (List Int)} (h : FB φ ω f i1 i2 A K atoms cs) {t e : Nat} {vs : List Value} (hb : Blk ω t e vs) (he : e ≠ 29 ∧ e ≠ 50 ∧ e ≠ 33) (ht : φ t = none) (st : Step (· = t) ω τ) : FB φ τ f i1 i2 A K atoms cs :=
 h.keep st (by rintro b rfl; exact ⟨ht,ne_ty hb h.blk he.1,h.nA hb he.2.1,h.nK hb he.2.2⟩)
theorem FB.sub' {φ ω τ : PH} {f : Nat} {i1 i2 : Int} {A K : Sli} {atoms : List Dif} {cs : List (List Int)} (h : FB φ ω f i1 i2 A K atoms cs) (hs : ω.sub τ) : FB φ τ f i1 i2 A K atoms cs := h.keep (M := fun _ => False) hs.step fun _ h => h.elim
theorem FB.setBools {φ ω : PH} {f : Nat} {i1 i2 : Int} {A K : Sli} {atoms : List Dif} {cs : List (List Int)} (h : FB φ ω f i1 i2 A K atoms cs) (v : Int) : FB φ (ω.setCell ((ptr f).add 1) (.int .i64 v)) f i1 v A K atoms cs := by
 have st : Step (· = f) ω (ω.setCell ((ptr f).add 1) (.int .i64 v)) := setCell_step.weaken fun b hb => hb.trans (add_block _ _)
 exact ⟨h.toFR.keep st (by rintro b rfl; exact ⟨h.fnew,h.nA h.blk (by decide),h.nK h.blk (by decide)⟩),h.blk.set 1 (.int .i64 v),h.fnew⟩
theorem FB.atom' {φ ω : PH} {f : Nat} {i1 i2 : Int} {A K : Sli} {atoms : List Dif} {cs : List (List Int)} (h : FB φ ω f i1 i2 A K atoms cs) (d : Dif) (hn : atoms.length ≤ 1000000) {b : Nat} (hb : ω b = none) {R : Option Addr → Nat → Nat → PH → Prop}
   (hR : ∀ A' τ,FB φ (PH.setCell τ ((ptr f).add 2) A'.v) f i1 i2 A' K (atoms ++ [d]) cs → Step (fun q => q = f ∨ ∃ p,A.a = some p ∧ q = p.block) ω (PH.setCell τ ((ptr f).add 2) A'.v) → R A'.a A'.n A'.c τ) :
   iappend prog 50 A.v (.slice (some ⟨b,0,none⟩) 1 1) (fun v τ => ∃ (a : Option Addr) (n c : Nat),v = .slice a n c ∧ (∃ u,PH.cell? τ ((ptr f).add 2) = some u) ∧ PH.froz τ ((ptr f).add 2) = some false ∧ R a n c τ) (PH.set ω b (.cells #[.int .i64 d.1,.int .i64 d.2.1,.int .i64 d.2.2] 50)) := by
 have han := h.an
 refine pushRow t50.1 t50.2.1 t50.2.2 rfl (by decide) h.oa hb (news := dcells d) rfl ?_ (by omega) ?_
 · intro v hv; simp [dcells] at hv; rcases hv with rfl | rfl | rfl <;> trivial
 · intro a' c' τ hO hst hnew
   have Bτ := h.blk.keep hst (by rintro ⟨p,hp,e⟩; exact h.nA h.blk (by decide) p hp e)
   have st2 : Step (· = f) τ (τ.setCell ((ptr f).add 2) (.slice a' (A.n + 1) c')) := setCell_step.weaken fun b hb => hb.trans (add_block _ _)
   refine ⟨_,_,_,rfl,⟨_,Bτ.get (i := 2) rfl⟩,Bτ.froz 2,hR ⟨a',A.n + 1,c'⟩ _ ⟨⟨?_,?_,?_,?_,h.knew⟩,Bτ.set 2 _,h.fnew⟩ ((hst.weaken fun q hq => .inr hq).trans (st2.weaken fun q hq => .inl hq))⟩
   · refine sub_step_new (sub_step_new h.sub hst ?_) st2 (by rintro b rfl; exact h.fnew)
     rintro b ⟨p,hp,rfl⟩; exact h.anew p hp
   · have e : difV (atoms ++ [d]) = difV atoms ++ dcells d := by unfold difV; simp
     rw [e]
     refine hO.keep st2 fun p hp hm => ?_
     obtain ⟨arr,ha⟩ := hO.obj hp
     exact ne_ty Bτ ha (by decide) hm.symm
   · intro p hp
     rcases hnew p hp with ⟨p',g1,g2⟩ | g1
     · rw [g2]; exact h.anew p' g1
     · exact new_of h.sub g1
   · obtain ⟨vs,h1,h2⟩ := h.ok
     refine ⟨vs,(h1.keep hst ?_).keep st2 fun p hp hm => h.nK h.blk (by decide) p hp hm.symm,h2⟩
     rintro p hp ⟨q,hq,e⟩
     obtain ⟨arr,ha⟩ := h1.obj hp
     exact h.nA ha (by decide) q hq e
theorem FB.atom {φ ω : PH} {f : Nat} {i1 i2 : Int} {A K : Sli} {atoms : List Dif} {cs : List (List Int)} (h : FB φ ω f i1 i2 A K atoms cs) (d : Dif) (hn : atoms.length ≤ 1000000) {b : Nat} (hb : ω b = none) {R : PH → Prop}
   (hR : ∀ A' τ,FB φ τ f i1 i2 A' K (atoms ++ [d]) cs → Step (fun q => q = f ∨ ∃ p,A.a = some p ∧ q = p.block) ω τ → R τ) :
   iappend prog 50 A.v (.slice (some ⟨b,0,none⟩) 1 1) (fun v τ => ∃ (a : Option Addr) (n c : Nat),v = .slice a n c ∧ (∃ u,PH.cell? τ ((ptr f).add 2) = some u) ∧ PH.froz τ ((ptr f).add 2) = some false ∧ R (PH.setCell τ ((ptr f).add 2) (.slice a n c))) (PH.set ω b (.cells #[.int .i64 d.1,.int .i64 d.2.1,.int .i64 d.2.2] 50)) :=
 h.atom' d hn hb (R := fun a n c τ => R (PH.setCell τ ((ptr f).add 2) (.slice a n c))) fun A' τ => hR A' _
theorem FB.clause' {φ ω : PH} {f : Nat} {i1 i2 : Int} {A K : Sli} {atoms : List Dif} {cs : List (List Int)} (h : FB φ ω f i1 i2 A K atoms cs) {x : Option Addr} {m k : Nat} {c : List Int} (hI : Own φ 3 1 x m k (ints c)) (hn : cs.length ≤ 1000000) {b : Nat} (hb : ω b = none) {R : Option Addr → Nat → Nat → PH → Prop}
   (hR : ∀ K' τ,FB φ (PH.setCell τ ((ptr f).add 3) K'.v) f i1 i2 A K' atoms (cs ++ [c]) → Step (fun q => q = f ∨ ∃ p,K.a = some p ∧ q = p.block) ω (PH.setCell τ ((ptr f).add 3) K'.v) → R K'.a K'.n K'.c τ) :
   iappend prog 33 K.v (.slice (some ⟨b,0,none⟩) 1 1) (fun v τ => ∃ (a : Option Addr) (n c : Nat),v = .slice a n c ∧ (∃ u,PH.cell? τ ((ptr f).add 3) = some u) ∧ PH.froz τ ((ptr f).add 3) = some false ∧ R a n c τ) (PH.set ω b (.cells #[.slice x m k] 33)) := by
 have hkn := h.kn
 obtain ⟨vs,h1,h2,h3⟩ := h.ok
 refine pushRow t33.1 t33.2.1 t33.2.2 rfl (by decide) h1 hb (news := [.slice x m k]) rfl ?_ (by omega) ?_
 · intro v hv; simp at hv; subst hv; trivial
 · intro a' c' τ hO hst hnew
   have Bτ := h.blk.keep hst (by rintro ⟨p,hp,e⟩; exact h.nK h.blk (by decide) p hp e)
   have st2 : Step (· = f) τ (τ.setCell ((ptr f).add 3) (.slice a' (K.n + 1) c')) := setCell_step.weaken fun b hb => hb.trans (add_block _ _)
   refine ⟨_,_,_,rfl,⟨_,Bτ.get (i := 3) rfl⟩,Bτ.froz 3,hR ⟨a',K.n + 1,c'⟩ _ ⟨⟨?_,?_,h.anew,?_,?_⟩,Bτ.set 3 _,h.fnew⟩ ((hst.weaken fun q hq => .inr hq).trans (st2.weaken fun q hq => .inl hq))⟩
   · refine sub_step_new (sub_step_new h.sub hst ?_) st2 (by rintro b rfl; exact h.fnew)
     rintro b ⟨p,hp,rfl⟩; exact h.knew p hp
   · refine (h.oa.keep hst ?_).keep st2 fun p hp hm => h.nA h.blk (by decide) p hp hm.symm
     rintro p hp ⟨q,hq,e⟩
     obtain ⟨arr,ha⟩ := h.oa.obj hp
     exact h.nK ha (by decide) q hq e
   · refine ⟨vs ++ [.slice x m k],hO.keep st2 fun p hp hm => ?_,by simp [h2],fun i c0 hc0 => ?_⟩
     · obtain ⟨arr,ha⟩ := hO.obj hp
       exact ne_ty Bτ ha (by decide) hm.symm
     · by_cases hi : i < cs.length
       · rw [List.getElem?_append_left hi] at hc0
         obtain ⟨y,m',k',g1,g2⟩ := h3 i c0 hc0
         exact ⟨y,m',k',by rw [List.getElem?_append_left (by omega)]; exact g1,g2⟩
       · rw [List.getElem?_append_right (by omega)] at hc0
         have hi0 : i = cs.length := by have := (List.getElem?_eq_some_iff.1 hc0).1; simp at this; omega
         subst hi0
         simp at hc0
         subst hc0
         exact ⟨x,m,k,by rw [List.getElem?_append_right (by omega)]; simp [h2],hI⟩
   · intro p hp
     rcases hnew p hp with ⟨p',g1,g2⟩ | g1
     · rw [g2]; exact h.knew p' g1
     · exact new_of h.sub g1
theorem FB.clause {φ ω : PH} {f : Nat} {i1 i2 : Int} {A K : Sli} {atoms : List Dif} {cs : List (List Int)} (h : FB φ ω f i1 i2 A K atoms cs) {x : Option Addr} {m k : Nat} {c : List Int} (hI : Own φ 3 1 x m k (ints c)) (hn : cs.length ≤ 1000000) {b : Nat} (hb : ω b = none) {R : PH → Prop}
   (hR : ∀ K' τ,FB φ τ f i1 i2 A K' atoms (cs ++ [c]) → Step (fun q => q = f ∨ ∃ p,K.a = some p ∧ q = p.block) ω τ → R τ) :
   iappend prog 33 K.v (.slice (some ⟨b,0,none⟩) 1 1) (fun v τ => ∃ (a : Option Addr) (n c : Nat),v = .slice a n c ∧ (∃ u,PH.cell? τ ((ptr f).add 3) = some u) ∧ PH.froz τ ((ptr f).add 3) = some false ∧ R (PH.setCell τ ((ptr f).add 3) (.slice a n c))) (PH.set ω b (.cells #[.slice x m k] 33)) :=
 h.clause' hI hn hb (R := fun a n c τ => R (PH.setCell τ ((ptr f).add 3) (.slice a n c))) fun K' τ => hR K' _
open Classical in
theorem FB.freeze {φ ω : PH} {f : Nat} {i1 i2 : Int} {A K : Sli} {atoms : List Dif} {cs : List (List Int)} (h : FB φ ω f i1 i2 A K atoms cs) (E : Nat → Prop) (hE : ∀ b,E b → φ b = none) :
   ∃ φ' : PH,φ.sub φ' ∧ FB φ' ω f i1 i2 A K atoms cs ∧ (∀ b,E b → φ' b = none) ∧ ∀ b,b ≠ f → (∀ p,A.a = some p → b ≠ p.block) → (∀ p,K.a = some p → b ≠ p.block) → ¬ E b → φ' b = ω b := by
 obtain ⟨φ',hφ⟩ : ∃ φ' : PH,φ' = fun b => if b = f ∨ (∃ p,A.a = some p ∧ b = p.block) ∨ (∃ p,K.a = some p ∧ b = p.block) ∨ E b then none else ω b := ⟨_,rfl⟩
 have off : ∀ b,(b = f ∨ (∃ p,A.a = some p ∧ b = p.block) ∨ (∃ p,K.a = some p ∧ b = p.block) ∨ E b) → φ' b = none := fun b hb => by rw [hφ]; exact if_pos hb
 have on : ∀ b,¬ (b = f ∨ (∃ p,A.a = some p ∧ b = p.block) ∨ (∃ p,K.a = some p ∧ b = p.block) ∨ E b) → φ' b = ω b := fun b hb => by rw [hφ]; exact if_neg hb
 have s1 : φ.sub φ' := by
   intro b o ho
   rw [on b]
   · exact h.sub b o ho
   · rintro (rfl | ⟨p,hp,rfl⟩ | ⟨p,hp,rfl⟩ | he)
     · rw [h.fnew] at ho; cases ho
     · rw [h.anew p hp] at ho; cases ho
     · rw [h.knew p hp] at ho; cases ho
     · rw [hE b he] at ho; cases ho
 have s2 : φ'.sub ω := by
   intro b o ho
   by_cases hb : (b = f ∨ (∃ p,A.a = some p ∧ b = p.block) ∨ (∃ p,K.a = some p ∧ b = p.block) ∨ E b)
   · rw [off b hb] at ho; cases ho
   · rw [on b hb] at ho; exact ho
 refine ⟨φ',s1,⟨⟨s2,h.oa,fun p hp => off _ (.inr (.inl ⟨p,hp,rfl⟩)),?_,fun p hp => off _ (.inr (.inr (.inl ⟨p,hp,rfl⟩)))⟩,h.blk,off _ (.inl rfl)⟩,fun b hb => off _ (.inr (.inr (.inr hb))),fun b h1 h2 h3 h4 => on b ?_⟩
 · obtain ⟨vs,q1,q2,q3⟩ := h.ok
   refine ⟨vs,q1,q2,fun i c hc => ?_⟩
   obtain ⟨x,m,k,g1,g2⟩ := q3 i c hc
   exact ⟨x,m,k,g1,g2.keep (M := fun _ => False) s1.step fun _ _ h => h⟩
 · rintro (rfl | ⟨p,hp,rfl⟩ | ⟨p,hp,rfl⟩ | he)
   · exact h1 rfl
   · exact h2 p hp rfl
   · exact h3 p hp rfl
   · exact h4 he
theorem own_frozen {φ ω : PH} {x : Option Addr} {m k : Nat} {c : List Int} (o : Own ω 3 1 x m k (ints c)) (hφ : ∀ p,x = some p → φ p.block = ω p.block) : Own φ 3 1 x m k (ints c) := by
 refine ⟨o.len,o.le,?_⟩
 rcases o.row with g | ⟨b0,arr,g1,g2,g3⟩
 · exact .inl g
 · exact .inr ⟨b0,arr,g1,(hφ _ g1).trans g2,g3⟩
theorem blk_own {φ : PH} {b n : Nat} {l : List Int} (h : Blk φ b 3 (ints l)) (hn : l.length = n) : Own φ 3 1 (some (ptr b)) n n (ints l) :=
 ⟨by unfold ints; simp [hn],Nat.le_refl _,.inr ⟨b,_,rfl,h,by unfold ints; simp [hn],by rw [Nat.mul_one]; exact List.take_of_length_le (by unfold ints; simp [hn])⟩⟩
end Go.Proofs.Ythfnjogadngfiaa
namespace Go.Sv
theorem PropR.det {cs : List (List Int)} {v : List Int} {r r' : Option (List Int)} (h : PropR cs v r) (h' : PropR cs v r') : r = r' := by
 induction h with
 | stop h => cases h' with
   | stop _ => rfl
   | done k => rw [h] at k; cases k
   | go k _ => rw [h] at k; cases k
 | done h => cases h' with
   | stop k => rw [h] at k; cases k
   | done k => rw [h] at k; cases k; rfl
   | go k _ => rw [h] at k; cases k
 | go h _ ih => cases h' with
   | stop k => rw [h] at k; cases k
   | done k => rw [h] at k; cases k
   | go k k' => rw [h] at k; cases k; exact ih k'
def zs : List Int → Nat
 | [] => 0
 | x :: l => (if x = 0 then 1 else 0) + zs l
theorem zs_set : ∀ (v : List Int) (i : Nat) (w : Int),i < v.length → v.getD i 0 = 0 → w ≠ 0 → zs (v.set i w) < zs v
 | [],i,w,h,_,_ => by simp at h
 | x :: l,0,w,h,h0,hw => by
   simp at h0; subst h0
   simp [zs,hw]
 | x :: l,i + 1,w,h,h0,hw => by
   have := zs_set l i w (by simpa using h) (by simpa using h0) hw
   simp only [List.set_cons_succ,zs]
   omega
theorem sgn_ne {x : Int} : sgn x ≠ 0 := by unfold sgn; split <;> omega
theorem valS_zero {n : Nat} {v : List Int} (hl : v.length = n) {x : Int} (hx : LitN n x) (h : valS v x = 0) : v.getD (vr x) 0 = 0 := by
 rw [valS_eq hl hx] at h
 split at h <;> omega
theorem scan_open {n : Nat} {v : List Int} (hl : v.length = n) : ∀ {c : List Int} {s : Int × Nat × Bool},(∀ x ∈ c,LitN n x) → (s.2.1 = 0 ∨ (LitN n s.1 ∧ v.getD (vr s.1) 0 = 0)) → ((scanC v c s).2.1 = 0 ∨ (LitN n (scanC v c s).1 ∧ v.getD (vr (scanC v c s).1) 0 = 0))
 | [],s,_,h => h
 | x :: c,s,hc,h => by
   unfold scanC
   refine scan_open hl (fun y hy => hc y (List.mem_cons_of_mem _ hy)) ?_
   unfold scan1
   split
   · exact h
   · split
     · rename_i h0
       exact .inr ⟨hc x List.mem_cons_self,valS_zero hl (hc x List.mem_cons_self) h0.1⟩
     · exact h
theorem setV_open {n : Nat} {v : List Int} (hl : v.length = n) {x : Int} (hx : LitN n x) (h0 : v.getD (vr x) 0 = 0) : setV v x = some (v.set (vr x) (sgn x)) := by
 unfold setV
 obtain ⟨h1,h2⟩ := hx
 rw [if_neg (by omega),h0,if_neg (by have := @sgn_ne x; omega)]
theorem round_zs {n : Nat} : ∀ {cs : List (List Int)} {v v' : List Int} {ch ch' : Bool},v.length = n → (∀ c ∈ cs,∀ x ∈ c,LitN n x) → roundP cs v ch = some (v',ch') → v'.length = n ∧ zs v' ≤ zs v ∧ (ch' = true → ch = true ∨ zs v' < zs v)
 | [],v,v',ch,ch',hl,_,h => by rw [roundP] at h; cases h; exact ⟨hl,Nat.le_refl _,.inl⟩
 | c :: cs,v,v',ch,ch',hl,hc,h => by
   rw [roundP] at h
   have hso := scan_open hl (c := c) (s := (0,0,false)) (hc c List.mem_cons_self) (.inl rfl)
   split at h
   · exact round_zs hl (fun d hd => hc d (List.mem_cons_of_mem _ hd)) h
   · split at h
     · cases h
     · rename_i _ hne
       rcases hso with h1 | ⟨h1,h2⟩
       · exact absurd h1 hne
       · rw [setV_open hl h1 h2,Option.getD_some] at h
         have hlt := zs_set v (vr (scanC v c (0,0,false)).1) (sgn (scanC v c (0,0,false)).1) (by rw [hl]; exact h1.vr_lt) h2 sgn_ne
         obtain ⟨q1,q2,q3⟩ := round_zs (by simpa using hl) (fun d hd => hc d (List.mem_cons_of_mem _ hd)) h
         exact ⟨q1,by omega,fun _ => .inr (by omega)⟩
theorem PropR.total {n : Nat} {cs : List (List Int)} (hc : ∀ c ∈ cs,∀ x ∈ c,LitN n x) : ∀ {v : List Int},v.length = n → ∃ r,PropR cs v r := by
 have : ∀ (m : Nat) (v : List Int),zs v = m → v.length = n → ∃ r,PropR cs v r := by
   intro m
   induction m using Nat.strongRecOn with
   | _ m ih =>
     intro v hm hl
     cases hr : roundP cs v false with
     | none => exact ⟨none,.stop hr⟩
     | some p =>
       obtain ⟨v',ch⟩ := p
       cases ch with
       | false => exact ⟨some v',.done hr⟩
       | true =>
         obtain ⟨q1,q2,q3⟩ := round_zs hl hc hr
         rcases q3 rfl with h | h
         · cases h
         · obtain ⟨r,hr'⟩ := ih (zs v') (by omega) v' rfl q1
           exact ⟨r,.go hr hr'⟩
 exact fun {v} hl => this _ v rfl hl
theorem setAll_len : ∀ {l v v' : List Int},setAll v l = some v' → v'.length = v.length
 | [],v,v',h => by rw [setAll] at h; cases h; rfl
 | x :: l,v,v',h => by
   rw [setAll] at h
   cases hs : setV v x with
   | none => rw [hs] at h; cases h
   | some w => rw [hs] at h; rw [setAll_len h,setV_len hs]
theorem litT_neg {bl : List Bool} {y : Int} (hy : y ≠ 0) : litT bl (-y) ↔ ¬ litT bl y := by
 unfold litT
 by_cases h : 0 < y
 · rw [if_pos h,if_neg (by omega),Int.neg_neg]; simp
 · rw [if_neg h,if_pos (by omega)]; simp
theorem bound_sat {F : Fm} {bl : List Bool} {x : Nat → Int} (hM : SatM F bl x) {y : Int} {d : Dif} (hb : bound F y = some d) (hy : litT bl y) : x (dX d) - x (dY d) ≤ d.2.2 := by
 unfold bound at hb
 split at hb
 · cases hb
 · rename_i h0
   split at hb
   · cases hb
   · rename_i a b c hat
     have := hM.at' _ _ hat
     split at hb
     · rename_i hp
       cases hb
       unfold litT at hy
       rw [if_pos hp,show (y - 1).toNat = vr y from by unfold vr; omega] at hy
       exact this.1 hy
     · rename_i hp
       cases hb
       unfold litT at hy
       rw [if_neg hp,show (-y - 1).toNat = vr y from by unfold vr; omega] at hy
       have hn : ¬ (x (dX (a,b,c)) - x (dY (a,b,c)) ≤ c) := fun h => by
         have := this.2 h
         rw [hy] at this; cases this
       have e1 : dX (b,a,-c - 1) = dY (a,b,c) := rfl
       have e2 : dY (b,a,-c - 1) = dX (a,b,c) := rfl
       rw [e1,e2]
       show _ ≤ -c - 1
       omega
theorem sound {F : Fm} (hF : FOk F) {bl : List Bool} {x : Nat → Int} (hM : SatM F bl x) {l : List PStep} {cs : List (List Int)} (h : stepsOf F l = some cs) : ∀ (i : Nat) c,cs[i]? = some c → ∃ y ∈ c,litT bl y := by
 obtain ⟨hlen,hat⟩ := stepsOf_pre h
 have hlit := steps_lit hF h
 intro i
 induction i using Nat.strongRecOn with
 | ind i ih =>
   intro c hc
   have hi := (List.getElem?_eq_some_iff.1 hc).1
   obtain ⟨s,hs⟩ : ∃ s,l[i]? = some s := ⟨_,List.getElem?_eq_getElem (by omega)⟩
   obtain ⟨c',q1,q2⟩ := hat i s hs
   rw [hc] at q1; cases q1
   have fin : ∀ {d : List Int},norm d = some c → (∃ y ∈ d,litT bl y) → ∃ y ∈ c,litT bl y := fun hd ⟨y,h1,h2⟩ => by
     obtain ⟨_,hm,_⟩ := norm_some hd
     exact ⟨y,(hm y).2 h1,h2⟩
   unfold stepClause at q2
   split at q2
   · split at q2
     · split at q2
       · rename_i d hd
         exact fin q2 (hM.cl d (List.mem_of_getElem? hd))
       · cases q2
     · cases q2
   · split at q2
     · obtain ⟨h1,h2⟩ := cyclic_litN hF q2
       refine fin h2 ?_
       apply Classical.byContradiction
       intro hne
       have hall : ∀ y ∈ s.lits,litT bl y := by
         intro y hy
         apply Classical.byContradiction
         intro hny
         exact hne ⟨-y,List.mem_map.2 ⟨y,hy,rfl⟩,(litT_neg (h1 y hy).1).2 hny⟩
       unfold cyclic at q2
       split at q2
       · cases q2
       · rename_i lb hb
         split at q2
         · rename_i hr
           refine ring_false (x := x) hr.1 fun d hd => ?_
           obtain ⟨y,hy1,hy2⟩ := bounds_mem hb d hd
           exact bound_sat hM hy2 (hall y hy1)
         · cases q2
     · split at q2
       · split at q2
         · split at q2
           · rename_i a b ha hb
             rw [List.getElem?_take] at ha hb
             split at ha
             · rename_i hp
               split at hb
               · rename_i hq
                 refine fin (resolvent_some q2) ?_
                 obtain ⟨y,y1,y2⟩ := ih _ hp a ha
                 obtain ⟨z,z1,z2⟩ := ih _ hq b hb
                 by_cases hy : y = s.v + 1
                 · have hz : z ≠ -(s.v + 1) := by
                     intro hz
                     rw [hz] at z2
                     rw [hy] at y2
                     have h0 : s.v + 1 ≠ 0 := by
                       have := ((hlit _ a ha).2 y y1).1
                       omega
                     exact (litT_neg h0).1 z2 y2
                   exact ⟨z,List.mem_append_right _ (List.mem_filter.2 ⟨z1,by simpa using hz⟩),z2⟩
                 · exact ⟨y,List.mem_append_left _ (List.mem_filter.2 ⟨y1,by simpa using hy⟩),y2⟩
               · cases hb
             · cases ha
           · cases q2
         · cases q2
       · cases q2
theorem sound_no {F : Fm} (hF : FOk F) {bl : List Bool} {x : Nat → Int} (hM : SatM F bl x) {l : List PStep} {cs : List (List Int)} (h : stepsOf F l = some cs) (hl : cs.getLast? = some []) : False := by
 rw [List.getLast?_eq_getElem?] at hl
 obtain ⟨y,hy,_⟩ := sound hF hM h _ _ hl
 simp at hy
end Go.Sv
namespace Go.Proofs.Ythfnjogadngfiaa
open Go.Sl Go.Sv
def aw1 : Fm := ⟨0,3,[],[[-1,2],[-2,3]]⟩
def aw2 : Fm := ⟨2,2,[(0,1,-1),(1,0,-1)],[[1],[2]]⟩
def aw3 : Fm := ⟨2,2,[(0,1,-1),(1,0,-1)],[[1]]⟩
theorem aw1_ok : FOk aw1 := by
 refine ⟨by decide,by decide,by decide,by decide,?_,by decide⟩
 unfold LitN; decide
theorem aw2_ok : FOk aw2 := by
 refine ⟨by decide,by decide,by decide,by decide,?_,by decide⟩
 unfold LitN; decide
theorem aw3_ok : FOk aw3 := by
 refine ⟨by decide,by decide,by decide,by decide,?_,by decide⟩
 unfold LitN; decide
theorem aw_r1 : roundP aw1.clauses [1,0,0] false = some ([1,1,1],true) := by decide
theorem aw_r2 : roundP aw1.clauses [1,1,1] false = some ([1,1,1],false) := by decide
theorem aw_prop : ∀ {r},PropR aw1.clauses [1,0,0] r → r = some [1,1,1] := by
 have h2 : ∀ {r},PropR aw1.clauses [1,1,1] r → r = some [1,1,1] := by
   intro r h
   cases h with
   | stop h => rw [aw_r2] at h; cases h
   | done h => rw [aw_r2] at h; cases h; rfl
   | go h _ => rw [aw_r2] at h; cases h
 intro r h
 cases h with
 | stop h => rw [aw_r1] at h; cases h
 | done h => rw [aw_r1] at h; cases h
 | go h hr => rw [aw_r1] at h; cases h; exact h2 hr
theorem aw2_no {bl : List Bool} {x : Nat → Int} (h : SatM aw2 bl x) : False := by
 obtain ⟨y,hy,h1⟩ := h.cl [1] (by decide)
 obtain ⟨z,hz,h2⟩ := h.cl [2] (by decide)
 simp at hy hz
 subst hy; subst hz
 have a0 := (h.at' 0 (0,1,-1) rfl).1 (by unfold litT at h1; simpa using h1)
 have a1 := (h.at' 1 (1,0,-1) rfl).1 (by unfold litT at h2; simpa using h2)
 have e0 : dX (0,1,-1) = 0 := rfl
 have e1 : dY (0,1,-1) = 1 := rfl
 have e2 : dX (1,0,-1) = 1 := rfl
 have e3 : dY (1,0,-1) = 0 := rfl
 rw [e0,e1] at a0
 rw [e2,e3] at a1
 dsimp only at a0 a1
 omega
theorem aw3_sat : SatM aw3 [true,false] (fun v => if v = 0 then -1 else 0) := by
 refine ⟨rfl,fun c hc => ?_,fun i d hd => ?_,fun v _ => ?_⟩
 · have : c = [1] := by simpa [aw3] using hc
   subst this
   exact ⟨1,by simp,by unfold litT; decide⟩
 · match i,hd with
   | 0,hd => cases hd; decide
   | 1,hd => cases hd; decide
   | i + 2,hd => simp [aw3] at hd
 · show _ ≤ (if v = 0 then (-1 : Int) else 0) ∧ (if v = 0 then (-1 : Int) else 0) ≤ 0
   split <;> omega
theorem blk_ints {ω : PH} {b : Nat} {l : List Int} {n : Nat} (h : Blk ω b 3 (ints l)) (hn : l.length = n) : Ints ω (some (ptr b)) n l := ⟨hn,.inr ⟨_,rfl,fun i v hv => h.get hv⟩⟩
theorem c20 {σ : PH} {Q : Value → PH → Prop} (hQ : ∀ τ,σ.sub τ → Q (.bool true) τ) : C 20 #[] Q σ := by
 refine go (E20_0 _ _ _) ?_
 unfold S20_0
 have e0 : ∀ b : Nat,(Addr.mk b 0 none).add 0 = ⟨b,0,none⟩ := fun b => rfl
 intro b1 h1
 have s1 := PH.sub_set (o := .cells #[.int .i64 (-1),.int .i64 2] 3) h1
 have k1 : Blk (σ.set b1 (.cells #[.int .i64 (-1),.int .i64 2] 3)) b1 3 (ints [-1,2]) := set_self
 generalize σ.set b1 (.cells #[.int .i64 (-1),.int .i64 2] 3) = ω1 at *
 intro b2 h2
 have s2 := PH.sub_set (o := .cells #[.int .i64 (-2),.int .i64 3] 3) h2
 have k2 : Blk (ω1.set b2 (.cells #[.int .i64 (-2),.int .i64 3] 3)) b2 3 (ints [-2,3]) := set_self
 generalize ω1.set b2 (.cells #[.int .i64 (-2),.int .i64 3] 3) = ω2 at *
 intro b3 h3
 have s3 := PH.sub_set (o := .cells #[.slice (some ⟨b1,0,none⟩) 2 2,.slice (some ⟨b2,0,none⟩) 2 2] 33) h3
 have k3 : Blk (ω2.set b3 (.cells #[.slice (some ⟨b1,0,none⟩) 2 2,.slice (some ⟨b2,0,none⟩) 2 2] 33)) b3 33 [.slice (some (ptr b1)) 2 2,.slice (some (ptr b2)) 2 2] := set_self
 generalize ω2.set b3 (.cells #[.slice (some ⟨b1,0,none⟩) 2 2,.slice (some ⟨b2,0,none⟩) 2 2] 33) = ω3 at *
 intro b4 h4
 have s4 := PH.sub_set (o := .cells #[.int .i64 1] 3) h4
 have k4 : Blk (ω3.set b4 (.cells #[.int .i64 1] 3)) b4 3 (ints [1]) := set_self
 generalize ω3.set b4 (.cells #[.int .i64 1] 3) = ω4 at *
 have sub4 := ((s1.trans s2).trans s3).trans s4
 have L1 : Lists ω4 (some (ptr b3)) 2 aw1.clauses := by
   refine ⟨rfl,fun i c hc => ?_⟩
   match i,hc with
   | 0,hc => cases hc; exact ⟨_,_,_,_,rfl,s4.cell (k3.get (i := 0) rfl),blk_ints (s4 _ _ (s3 _ _ (s2 _ _ k1))) rfl,Nat.le_refl _⟩
   | 1,hc => cases hc; exact ⟨_,_,_,_,rfl,s4.cell (k3.get (i := 1) rfl),blk_ints (s4 _ _ (s3 _ _ k2)) rfl,Nat.le_refl _⟩
   | i + 2,hc => simp [aw1] at hc
 have hset : setAll (List.replicate aw1.bools 0) [1] = some [1,0,0] := by decide
 refine c25 (F := aw1) aw1_ok (by decide) L1 (blk_ints k4 rfl) (by decide) (fun h => ?_) (fun v val υ7 sl hv hp hs7 hO7 hnew7 => ?_) (fun v hv => ?_)
 · exfalso
   rcases h with h | ⟨v,hv,hp⟩
   · rw [hset] at h; cases h
   · rw [hset] at hv; cases hv
     have := aw_prop hp; cases this
 rotate_left
 · rw [hset] at hv; cases hv
   exact ⟨_,.go aw_r1 (.done aw_r2)⟩
 rw [hset] at hv; cases hv
 have hval := aw_prop hp
 cases hval
 have hl123 : litsTo [1,1,1] aw1.bools = [1,2,3] := by decide
 rw [hl123] at hO7
 refine ⟨υ7,.refl _,_,_,_,_,rfl,?_⟩
 have σ7 := sub4.trans hs7
 have I7 := own_ints hO7
 intro b12 h12
 have s12 := PH.sub_set (o := .cells #[.int .i64 0,.int .i64 1,.int .i64 (-1),.int .i64 1,.int .i64 0,.int .i64 (-1)] 50) h12
 have k12 : Blk (υ7.set b12 (.cells #[.int .i64 0,.int .i64 1,.int .i64 (-1),.int .i64 1,.int .i64 0,.int .i64 (-1)] 50)) b12 50 (difV [(0,1,-1),(1,0,-1)]) := set_self
 generalize υ7.set b12 (.cells #[.int .i64 0,.int .i64 1,.int .i64 (-1),.int .i64 1,.int .i64 0,.int .i64 (-1)] 50) = ω12 at *
 intro b13 h13
 have s13 := PH.sub_set (o := .cells #[.int .i64 1] 3) h13
 have k13 : Blk (ω12.set b13 (.cells #[.int .i64 1] 3)) b13 3 (ints [1]) := set_self
 generalize ω12.set b13 (.cells #[.int .i64 1] 3) = ω13 at *
 intro b14 h14
 have s14 := PH.sub_set (o := .cells #[.int .i64 2] 3) h14
 have k14 : Blk (ω13.set b14 (.cells #[.int .i64 2] 3)) b14 3 (ints [2]) := set_self
 generalize ω13.set b14 (.cells #[.int .i64 2] 3) = ω14 at *
 intro b15 h15
 have s15 := PH.sub_set (o := .cells #[.slice (some ⟨b13,0,none⟩) 1 1,.slice (some ⟨b14,0,none⟩) 1 1] 33) h15
 have k15 : Blk (ω14.set b15 (.cells #[.slice (some ⟨b13,0,none⟩) 1 1,.slice (some ⟨b14,0,none⟩) 1 1] 33)) b15 33 [.slice (some (ptr b13)) 1 1,.slice (some (ptr b14)) 1 1] := set_self
 generalize ω14.set b15 (.cells #[.slice (some ⟨b13,0,none⟩) 1 1,.slice (some ⟨b14,0,none⟩) 1 1] 33) = ω15 at *
 intro b16 h16
 simp only [newSet,newSet0,newCell,newCell0,newFroz,newFroz0,List.setIfInBounds_toArray,List.set_cons_zero,List.set_cons_succ,List.getElem?_toArray,List.getElem?_cons_zero,List.getElem?_cons_succ,Option.some.injEq,exists_eq',true_and,exists_eq_left']
 have s16 := PH.sub_set (o := .cells #[.int .i64 2,.int .i64 2,.slice (some ⟨b12,0,none⟩) 2 2,.slice (some ⟨b15,0,none⟩) 2 2] 29) h16
 have k16 : Blk (ω15.set b16 (.cells #[.int .i64 2,.int .i64 2,.slice (some ⟨b12,0,none⟩) 2 2,.slice (some ⟨b15,0,none⟩) 2 2] 29)) b16 29 [.int .i64 2,.int .i64 2,.slice (some (ptr b12)) 2 2,.slice (some (ptr b15)) 2 2] := set_self
 generalize ω15.set b16 (.cells #[.int .i64 2,.int .i64 2,.slice (some ⟨b12,0,none⟩) 2 2,.slice (some ⟨b15,0,none⟩) 2 2] 29) = ω16 at *
 have s715 := ((s12.trans s13).trans s14).trans s15
 have A2 : Atoms ω15 (some (ptr b12)) 2 aw2.atoms := (own_atoms (n := 2) (c := 2) ⟨rfl,Nat.le_refl _,.inr ⟨b12,_,rfl,k12,rfl,rfl⟩⟩).sub ((s13.trans s14).trans s15)
 have L2 : Lists ω15 (some (ptr b15)) 2 aw2.clauses := by
   refine ⟨rfl,fun i c hc => ?_⟩
   match i,hc with
   | 0,hc => cases hc; exact ⟨_,_,_,_,rfl,k15.get (i := 0) rfl,blk_ints (s15 _ _ (s14 _ _ k13)) rfl,Nat.le_refl _⟩
   | 1,hc => cases hc; exact ⟨_,_,_,_,rfl,k15.get (i := 1) rfl,blk_ints (s15 _ _ k14) rfl,Nat.le_refl _⟩
   | i + 2,hc => simp [aw2] at hc
 have n16 : υ7 b16 = none := new_of s715 h16
 refine ⟨_,_,_,_,_,_,_,_,rfl,?_⟩
 refine c17 (F := aw2) aw2_ok (by decide) (by decide) (A2.sub s16) (L2.sub s16) (Nat.le_refl _) (Nat.le_refl _) (fun τ b X bl x _ _ _ hM => (aw2_no hM).elim) fun υ35 a n c ps cs hs35 _ _ _ _ _ => ?_
 refine ⟨υ35,.refl _,_,_,_,_,_,_,_,_,_,_,rfl,?_⟩
 intro b46 h46
 have k16a : Blk υ35 b16 29 [.int .i64 2,.int .i64 2,.slice (some (ptr b12)) 2 2,.slice (some (ptr b15)) 2 2] := hs35 _ _ k16
 have s46 := PH.sub_set (o := .cells #[.slice none 0 0,.slice none 0 0] 35) h46
 generalize υ35.set b46 (.cells #[.slice none 0 0,.slice none 0 0] 35) = ω46 at *
 have k16b : Blk ω46 b16 29 [.int .i64 2,.int .i64 2,.slice (some (ptr b12)) 2 2,.slice (some (ptr b15)) 2 2] := s46 _ _ k16a
 have st : Step (· = b16) ω46 (ω46.setCell ((ptr b16).add 3) (.slice (some (ptr b15)) (Int.toNat 1) 2)) := setCell_step.weaken fun b hb => hb.trans (add_block _ _)
 have k16c := k16b.set 3 (.slice (some (ptr b15)) (Int.toNat 1) 2)
 have s1546 : ω15.sub ω46 := (s16.trans hs35).trans s46
 have sN : ω15.sub (ω46.setCell ((ptr b16).add 3) (.slice (some (ptr b15)) (Int.toNat 1) 2)) := sub_step_new s1546 st (by rintro b rfl; exact h16)
 refine ⟨_,k16b.get (i := 3) rfl,_,_,_,rfl,by omega,by omega,⟨_,k16b.get (i := 3) rfl⟩,k16b.froz 3,?_⟩
 have g0 := k16c.get (i := 0) rfl
 rw [e0] at g0
 refine ⟨_,g0,_,k16c.get (i := 1) rfl,_,k16c.get (i := 2) rfl,_,k16c.get (i := 3) rfl,_,_,_,_,_,_,_,_,rfl,?_⟩
 have L3 : Lists ω15 (some (ptr b15)) 1 aw3.clauses := by
   refine ⟨rfl,fun i c hc => ?_⟩
   match i,hc with
   | 0,hc => cases hc; exact ⟨_,_,_,_,rfl,k15.get (i := 0) rfl,blk_ints (s15 _ _ (s14 _ _ k13)) rfl,Nat.le_refl _⟩
   | i + 1,hc => simp [aw3] at hc
 refine c17 (F := aw3) aw3_ok (by decide) (by decide) (A2.sub sN) (L3.sub sN) (Nat.le_refl _) (by decide) (fun υ68 b X bl x hs68 _ _ _ => ?_) fun τ a n c ps cs _ _ _ hcs hlast _ => (sound_no aw3_ok aw3_sat hcs hlast).elim
 refine ⟨υ68,.refl _,_,_,_,_,_,_,_,_,_,_,rfl,?_⟩
 intro b79 h79
 have s768 : υ7.sub υ68 := (s715.trans sN).trans hs68
 refine br_iff.2 ⟨fun _ b82 h82 => ?_,fun h => (by cases h)⟩
 have s79 := PH.sub_set (o := .cells #[.slice (some (ptr b)) aw3.bools aw3.bools,.slice (some (ptr X)) aw3.ints aw3.ints] 35) h79
 have s82 := PH.sub_set (o := .cells #[.int .i64 1,.int .i64 2,.int .i64 3] 3) h82
 have s7f := (s768.trans s79).trans s82
 have k82 : Blk ((υ68.set b79 (.cells #[.slice (some (ptr b)) aw3.bools aw3.bools,.slice (some (ptr X)) aw3.ints aw3.ints] 35)).set b82 (.cells #[.int .i64 1,.int .i64 2,.int .i64 3] 3)) b82 3 (ints [1,2,3]) := set_self
 have hn7 := I7.1
 refine (c27 (by unfold Len; simp at hn7; omega) (I7.sub s7f) (blk_ints k82 rfl)).mono hb ?_
 rintro _ τ ⟨rfl,eτ⟩
 obtain rfl := eτ.symm
 exact ⟨_,.refl _,_,rfl,br_iff.2 ⟨fun _ => br_iff.2 ⟨fun _ => hQ _ (σ7.trans s7f),fun h => (by cases h)⟩,fun h => by simp at h⟩⟩
theorem c20' {σ : PH} {Q : Value → PH → Prop} (hQ : ∀ τ,σ.sub τ → Q (.bool true) τ) : C 20 #[] (fun v τ => ∃ υ : PH,υ.sub τ ∧ ∃ q : Bool,v = .bool q ∧ Q (.bool q) υ) σ := c20 fun τ hs => ⟨τ,.refl _,true,rfl,hQ τ hs⟩
def PropO (F : Fm) (l : List Int) (r : Option (List Int)) : Prop :=
 (setAll (List.replicate F.bools 0) l = none ∧ r = none) ∨ ∃ v,setAll (List.replicate F.bools 0) l = some v ∧ PropR F.clauses v r
theorem PropO.det {F : Fm} {l : List Int} {r r' : Option (List Int)} (h : PropO F l r) (h' : PropO F l r') : r = r' := by
 rcases h with ⟨h1,h2⟩ | ⟨v,h1,h2⟩ <;> rcases h' with ⟨h3,h4⟩ | ⟨v',h3,h4⟩
 · rw [h2,h4]
 · rw [h1] at h3; cases h3
 · rw [h1] at h3; cases h3
 · rw [h1] at h3; cases h3; exact h2.det h4
def litsO (F : Fm) : Option (List Int) → List Int
 | none => []
 | some val => litsTo val F.bools
theorem litsO_len (F : Fm) (r : Option (List Int)) : (litsO F r).length ≤ F.bools := by
 cases r with
 | none => exact Nat.zero_le _
 | some val => exact litsTo_len val F.bools
theorem c25r {σ : PH} {F : Fm} (hF : FOk F) (hlen : ∀ c ∈ F.clauses,c.length ≤ 1000000) {aa ca : Option Addr} {an ac cn cc : Nat} (hL : Lists σ ca cn F.clauses) {a : Option Addr} {n c : Nat} {l : List Int} (hI : Ints σ a n l) (hll : l.length ≤ 1000000)
   {Q : Value → PH → Prop} (hQ : ∀ r τ (sl : Sli),PropO F l r → σ.sub τ → Own τ 3 1 sl.a sl.n sl.c (ints (litsO F r)) → (∀ p,sl.a = some p → σ p.block = none) → Q (.tuple #[sl.v,.bool r.isSome]) τ) :
   C 25 #[.agg #[.int .i64 F.ints,.int .i64 F.bools,.slice aa an ac,.slice ca cn cc],.slice a n c] Q σ := by
 refine c25 hF hlen hL hI hll (fun h τ hs => ?_) (fun v val τ sl h1 h2 hs hO hn => hQ (some val) τ sl (.inr ⟨v,h1,h2⟩) hs hO hn) fun v hv => PropR.total hF.cl (by rw [setAll_len hv]; simp)
 refine hQ none τ ⟨none,0,0⟩ ?_ hs own_nil (by simp)
 rcases h with h | ⟨v,h1,h2⟩
 · exact .inl ⟨h,rfl⟩
 · exact .inr ⟨v,h1,h2⟩
end Go.Proofs.Ythfnjogadngfiaa
