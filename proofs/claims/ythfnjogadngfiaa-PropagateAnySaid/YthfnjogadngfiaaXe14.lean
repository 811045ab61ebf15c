/- PropagateAny answers true at every formula and list; no condition beyond the row's own. -/
import Derived.ChangeArms
import Derived.ChangeSlices
import Derived.DataReads
import Derived.OpenShut
import Derived.WalkKit
import Derived.ProofKit
import Derived.ShutString
import Derived.ChangeOld
import Derived.Below
import Derived.Carry
import Derived.SizedLaws
import Derived.Test.YthfnjogadngfiaaRows
import Derived.Test.YthfnjogadngfiaaXe13
set_option maxRecDepth 100000
set_option linter.unusedVariables false
set_option linter.unusedSimpArgs false
namespace Go.Proofs.Ythfnjogadngfiaa
open Go.Sl Go.Sv
structure U8s (σ : PH) (a : Option Addr) (n : Nat) (l : List Int) : Prop where
 len : l.length = n
 row : Row σ a (l.map (.int .u8))
 rng : ∀ x ∈ l,0 ≤ x ∧ x < 256
structure Tape (φ ω : PH) (t : Nat) (s : Sli) (l : List Int) (k : Nat) : Prop where
 blk : Blk ω t 90 [s.v,.int .i64 k]
 new : φ t = none
 u8 : U8s φ s.a s.n l
 le : k ≤ l.length
structure FR (φ ω : PH) (A K : Sli) (atoms : List Dif) (cs : List (List Int)) : Prop where
 sub : φ.sub ω
 oa : Own ω 50 3 A.a A.n A.c (difV atoms)
 anew : ∀ p,A.a = some p → φ p.block = none
 ok : ∃ vs,Own ω 33 1 K.a K.n K.c vs ∧ vs.length = cs.length ∧ ∀ (i : Nat) c,cs[i]? = some c → ∃ x m k,vs[i]? = some (.slice x m k) ∧ Own φ 3 1 x m k (ints c)
 knew : ∀ p,K.a = some p → φ p.block = none
structure FB (φ ω : PH) (f : Nat) (i1 i2 : Int) (A K : Sli) (atoms : List Dif) (cs : List (List Int)) : Prop extends FR φ ω A K atoms cs where
 blk : Blk ω f 29 [.int .i64 i1,.int .i64 i2,A.v,K.v]
 fnew : φ f = none
end Go.Proofs.Ythfnjogadngfiaa
namespace Go.Sv
theorem PropR.det {cs : List (List Int)} {v : List Int} {r r' : Option (List Int)} (h : PropR cs v r) (h' : PropR cs v r') : r = r' := by
 induction h with
 | stop h => cases h' with
   | stop _ => rfl
   | done k => rw [h] at k; cases k
   | go k _ => rw [h] at k; cases k
 | done h => cases h' with
   | stop k => rw [h] at k; cases k
   | done k => rw [h] at k; cases k; rfl
   | go k _ => rw [h] at k; cases k
 | go h _ ih => cases h' with
   | stop k => rw [h] at k; cases k
   | done k => rw [h] at k; cases k
   | go k k' => rw [h] at k; cases k; exact ih k'
def zs : List Int → Nat
 | [] => 0
 | x :: l => (if x = 0 then 1 else 0) + zs l
theorem zs_set : ∀ (v : List Int) (i : Nat) (w : Int),i < v.length → v.getD i 0 = 0 → w ≠ 0 → zs (v.set i w) < zs v
 | [],i,w,h,_,_ => by simp at h
 | x :: l,0,w,h,h0,hw => by
   simp at h0; subst h0
   simp [zs,hw]
 | x :: l,i + 1,w,h,h0,hw => by
   have := zs_set l i w (by simpa using h) (by simpa using h0) hw
   simp only [List.set_cons_succ,zs]
   omega
theorem sgn_ne {x : Int} : sgn x ≠ 0 := by unfold sgn; split <;> omega
theorem valS_zero {n : Nat} {v : List Int} (hl : v.length = n) {x : Int} (hx : LitN n x) (h : valS v x = 0) : v.getD (vr x) 0 = 0 := by
 rw [valS_eq hl hx] at h
 split at h <;> omega
theorem scan_open {n : Nat} {v : List Int} (hl : v.length = n) : ∀ {c : List Int} {s : Int × Nat × Bool},(∀ x ∈ c,LitN n x) → (s.2.1 = 0 ∨ (LitN n s.1 ∧ v.getD (vr s.1) 0 = 0)) → ((scanC v c s).2.1 = 0 ∨ (LitN n (scanC v c s).1 ∧ v.getD (vr (scanC v c s).1) 0 = 0))
 | [],s,_,h => h
 | x :: c,s,hc,h => by
   unfold scanC
   refine scan_open hl (fun y hy => hc y (List.mem_cons_of_mem _ hy)) ?_
   unfold scan1
   split
   · exact h
   · split
     · rename_i h0
       exact .inr ⟨hc x List.mem_cons_self,valS_zero hl (hc x List.mem_cons_self) h0.1⟩
     · exact h
theorem setV_open {n : Nat} {v : List Int} (hl : v.length = n) {x : Int} (hx : LitN n x) (h0 : v.getD (vr x) 0 = 0) : setV v x = some (v.set (vr x) (sgn x)) := by
 unfold setV
 obtain ⟨h1,h2⟩ := hx
 rw [if_neg (by omega),h0,if_neg (by have := @sgn_ne x; omega)]
theorem round_zs {n : Nat} : ∀ {cs : List (List Int)} {v v' : List Int} {ch ch' : Bool},v.length = n → (∀ c ∈ cs,∀ x ∈ c,LitN n x) → roundP cs v ch = some (v',ch') → v'.length = n ∧ zs v' ≤ zs v ∧ (ch' = true → ch = true ∨ zs v' < zs v)
 | [],v,v',ch,ch',hl,_,h => by rw [roundP] at h; cases h; exact ⟨hl,Nat.le_refl _,.inl⟩
 | c :: cs,v,v',ch,ch',hl,hc,h => by
   rw [roundP] at h
   have hso := scan_open hl (c := c) (s := (0,0,false)) (hc c List.mem_cons_self) (.inl rfl)
   split at h
   · exact round_zs hl (fun d hd => hc d (List.mem_cons_of_mem _ hd)) h
   · split at h
     · cases h
     · rename_i _ hne
       rcases hso with h1 | ⟨h1,h2⟩
       · exact absurd h1 hne
       · rw [setV_open hl h1 h2,Option.getD_some] at h
         have hlt := zs_set v (vr (scanC v c (0,0,false)).1) (sgn (scanC v c (0,0,false)).1) (by rw [hl]; exact h1.vr_lt) h2 sgn_ne
         obtain ⟨q1,q2,q3⟩ := round_zs (by simpa using hl) (fun d hd => hc d (List.mem_cons_of_mem _ hd)) h
         exact ⟨q1,by omega,fun _ => .inr (by omega)⟩
theorem PropR.total {n : Nat} {cs : List (List Int)} (hc : ∀ c ∈ cs,∀ x ∈ c,LitN n x) : ∀ {v : List Int},v.length = n → ∃ r,PropR cs v r := by
 have : ∀ (m : Nat) (v : List Int),zs v = m → v.length = n → ∃ r,PropR cs v r := by
   intro m
   induction m using Nat.strongRecOn with
   | _ m ih =>
     intro v hm hl
     cases hr : roundP cs v false with
     | none => exact ⟨none,.stop hr⟩
     | some p =>
       obtain ⟨v',ch⟩ := p
       cases ch with
       | false => exact ⟨some v',.done hr⟩
       | true =>
         obtain ⟨q1,q2,q3⟩ := round_zs hl hc hr
         rcases q3 rfl with h | h
         · cases h
         · obtain ⟨r,hr'⟩ := ih (zs v') (by omega) v' rfl q1
           exact ⟨r,.go hr hr'⟩
 exact fun {v} hl => this _ v rfl hl
theorem setAll_len : ∀ {l v v' : List Int},setAll v l = some v' → v'.length = v.length
 | [],v,v',h => by rw [setAll] at h; cases h; rfl
 | x :: l,v,v',h => by
   rw [setAll] at h
   cases hs : setV v x with
   | none => rw [hs] at h; cases h
   | some w => rw [hs] at h; rw [setAll_len h,setV_len hs]
end Go.Sv
namespace Go.Proofs.Ythfnjogadngfiaa
open Go.Sl Go.Sv
def refV (n : Nat) (val : List Int) : List Int := 0 :: (List.range n).map fun (i : Nat) => val.getD i 0 * ((i : Int) + 1)
theorem refV_len {n : Nat} {val : List Int} : (refV n val).length = n + 1 := by unfold refV; simp
theorem refV_get {n : Nat} {val : List Int} {i : Nat} (h : i < n) : (refV n val)[i + 1]? = some (val.getD i 0 * ((i : Int) + 1)) := by
 unfold refV; rw [List.getElem?_cons_succ,List.getElem?_map,List.getElem?_range h]; rfl
theorem refV_lit {n : Nat} {val : List Int} {x : Int} (hx : LitN n x) : (refV n val)[x.natAbs]? = some (val.getD (vr x) 0 * (x.natAbs : Int)) := by
 obtain ⟨h1,h2⟩ := hx
 have e : x.natAbs = vr x + 1 := by unfold vr; omega
 have := refV_get (n := n) (val := val) (i := vr x) (by unfold vr; omega)
 rw [e,this]
 congr 2
theorem refV_set {n : Nat} {val : List Int} (hl : val.length = n) {x : Int} (hx : LitN n x) : (refV n val).set x.natAbs x = refV n (val.set (vr x) (sgn x)) := by
 obtain ⟨h1,h2⟩ := hx
 have e : x.natAbs = vr x + 1 := by unfold vr; omega
 apply List.ext_getElem?
 intro i
 rw [List.getElem?_set,refV_len]
 cases i with
 | zero => rw [if_neg (by omega)]; rfl
 | succ j =>
   by_cases hj : j < n
   · rw [refV_get (val := val.set (vr x) (sgn x)) hj]
     by_cases hj2 : x.natAbs = j + 1
     · rw [if_pos hj2,if_pos (by omega)]
       have : j = vr x := by omega
       subst this
       rw [List.getD_eq_getElem?_getD,List.getElem?_set,if_pos rfl,if_pos (by omega),Option.getD_some]
       congr 1
       unfold sgn
       split <;> omega
     · rw [if_neg hj2,refV_get hj]
       rw [List.getD_eq_getElem?_getD,List.getD_eq_getElem?_getD,List.getElem?_set,if_neg (by omega)]
   · rw [if_neg (by omega),List.getElem?_eq_none (by rw [refV_len]; omega),List.getElem?_eq_none (by rw [refV_len]; omega)]
structure RV (σ υ : PH) (ff : List Value) (b12 b15 n : Nat) (val : List Int) : Prop where
 sub : σ.sub υ
 k12 : Blk υ b12 29 ff
 k15 : Blk υ b15 3 (ints (refV n val))
 n15 : σ b15 = none
 d1 : b12 ≠ b15
 len : val.length = n
 sm : ∀ y ∈ val,-1 ≤ y ∧ y ≤ 1
theorem RV.set {σ υ : PH} {ff : List Value} {b12 b15 n : Nat} {val val' : List Int} (h : RV σ υ ff b12 b15 n val) {x : Int} (hx : LitN n x) (hv : setV val x = some val') : RV σ (υ.setCell ((ptr b15).add x.natAbs) (.int .i64 x)) ff b12 b15 n val' := by
 have st : Step (· = b15) υ (υ.setCell ((ptr b15).add x.natAbs) (.int .i64 x)) := setCell_step.weaken fun b hb => hb.trans (add_block _ _)
 have e : val' = val.set (vr x) (sgn x) := by
   unfold setV at hv
   split at hv
   · cases hv
   · split at hv
     · cases hv
     · cases hv; rfl
 refine ⟨sub_step_new h.sub st (by rintro b rfl; exact h.n15),h.k12.keep st h.d1,?_,h.n15,h.d1,(setV_len hv).trans h.len,setV_small hv h.sm⟩
 have := h.k15.set x.natAbs (.int .i64 x)
 rw [e,← refV_set h.len hx]
 unfold ints at this ⊢
 rwa [List.map_set]
theorem RV.at {σ υ : PH} {ff : List Value} {b12 b15 n : Nat} {val : List Int} (h : RV σ υ ff b12 b15 n val) {x : Int} (hx : LitN n x) : υ.cell? ((ptr b15).add ((x.natAbs : Nat) : Int).toNat) = some (.int .i64 (val.getD (vr x) 0 * (x.natAbs : Int))) := by
 rw [Int.toNat_natCast]
 exact h.k15.get (by rw [ints,List.getElem?_map,refV_lit hx]; rfl)
theorem RV.one {σ υ : PH} {ff : List Value} {b12 b15 n : Nat} {val : List Int} (h : RV σ υ ff b12 b15 n val) {x : Int} (hx : LitN n x) : val.getD (vr x) 0 = -1 ∨ val.getD (vr x) 0 = 0 ∨ val.getD (vr x) 0 = 1 := by
 have hv := hx.vr_lt
 have := h.sm (val.getD (vr x) 0) (by rw [List.getD_eq_getElem?_getD,List.getElem?_eq_getElem (by rw [h.len]; exact hv)]; exact List.getElem_mem _)
 omega
theorem RV.pos {σ υ : PH} {ff : List Value} {b12 b15 n : Nat} {val : List Int} (h : RV σ υ ff b12 b15 n val) {x : Int} (hx : LitN n x) : val.getD (vr x) 0 * (x.natAbs : Int) = x ↔ valS val x > 0 := by
 rw [valS_eq h.len hx]
 have h0 := hx.1
 rcases h.one hx with e | e | e <;> rw [e] <;> split <;> omega
theorem RV.zero {σ υ : PH} {ff : List Value} {b12 b15 n : Nat} {val : List Int} (h : RV σ υ ff b12 b15 n val) {x : Int} (hx : LitN n x) : val.getD (vr x) 0 * (x.natAbs : Int) = 0 ↔ valS val x = 0 := by
 rw [valS_eq h.len hx]
 have h0 := hx.1
 rcases h.one hx with e | e | e <;> rw [e] <;> split <;> omega
theorem RV.neg {σ υ : PH} {ff : List Value} {b12 b15 n : Nat} {val : List Int} (h : RV σ υ ff b12 b15 n val) {x : Int} (hx : LitN n x) : val.getD (vr x) 0 * (x.natAbs : Int) = -x ↔ val.getD (vr x) 0 = -sgn x := by
 have h0 := hx.1
 rcases h.one hx with e | e | e <;> rw [e] <;> unfold sgn <;> split <;> omega
theorem c26 {σ : PH} {F : Fm} (hF : FOk F) (hlen : ∀ c ∈ F.clauses,c.length ≤ 1000000) {aa ca : Option Addr} {an ac cn cc : Nat} (hL : Lists σ ca cn F.clauses) {a : Option Addr} {n c : Nat} {l : List Int} (hI : Ints σ a n l) (hll : l.length ≤ 1000000)
   {Q : Value → PH → Prop} (hno : (setAll (List.replicate F.bools 0) l = none ∨ ∃ v,setAll (List.replicate F.bools 0) l = some v ∧ PropR F.clauses v none) → ∀ τ,σ.sub τ → Q (.tuple #[.slice none 0 0,.bool false]) τ)
   (hok : ∀ v val τ (sl : Sli),setAll (List.replicate F.bools 0) l = some v → PropR F.clauses v (some val) → σ.sub τ → Own τ 3 1 sl.a sl.n sl.c (ints (litsTo val F.bools)) → (∀ p,sl.a = some p → σ p.block = none) → Q (.tuple #[sl.v,.bool true]) τ) :
   C 26 #[.agg #[.int .i64 F.ints,.int .i64 F.bools,.slice aa an ac,.slice ca cn cc],.slice a n c] Q σ := by
 refine go (E26_0 _ _ _ _ _ _ _ _ _ _ _ _ _ _) ?_
 unfold S26_0
 have e0 : ∀ b : Nat,(Addr.mk b 0 none).add 0 = ⟨b,0,none⟩ := fun b => rfl
 have hnb := hF.bools
 have hln := hI.1
 have hLn := hL.1
 have hcl := hF.cn
 intro b12 h12
 have s12 := PH.sub_set (o := .cells #[.int .i64 F.ints,.int .i64 F.bools,.slice aa an ac,.slice ca cn cc] 29) h12
 have B12 : Blk (σ.set b12 (.cells #[.int .i64 F.ints,.int .i64 F.bools,.slice aa an ac,.slice ca cn cc] 29)) b12 29 [.int .i64 F.ints,.int .i64 F.bools,.slice aa an ac,.slice ca cn cc] := set_self
 generalize σ.set b12 (.cells #[.int .i64 F.ints,.int .i64 F.bools,.slice aa an ac,.slice ca cn cc] 29) = ω at *
 refine ⟨_,B12.get (i := 1) rfl,_,rfl,?_⟩
 have w1 : IntKind.wrap .i64 ((F.bools : Int) + 1) = ((F.bools + 1 : Nat) : Int) := wnat (by omega)
 rw [w1]
 refine ⟨by omega,by omega,by omega,by omega,fun b15 h15 => ?_⟩
 simp only [Int.toNat_natCast]
 have s15 := PH.sub_set (o := .cells (zeros (.int .i64 0) (F.bools + 1)) 3) h15
 have B15 : Blk (ω.set b15 (.cells (zeros (.int .i64 0) (F.bools + 1)) 3)) b15 3 (ints (refV F.bools (List.replicate F.bools 0))) := by
   have e1 : refV F.bools (List.replicate F.bools 0) = List.replicate (F.bools + 1) 0 := by
     unfold refV
     rw [List.replicate_succ]
     congr 1
     rw [List.eq_replicate_iff]
     refine ⟨by simp,fun y hy => ?_⟩
     obtain ⟨i,hi,rfl⟩ := List.mem_map.1 hy
     rw [List.getD_eq_getElem?_getD,List.getElem?_replicate]
     split <;> simp
   have : zeros (.int .i64 0) (F.bools + 1) = (ints (refV F.bools (List.replicate F.bools 0))).toArray := by rw [zeros_one rfl,ints,e1,List.map_replicate]
   rw [this]; exact set_self
 generalize ω.set b15 (.cells (zeros (.int .i64 0) (F.bools + 1)) 3) = ω1 at *
 have P0 : RV σ ω1 [.int .i64 F.ints,.int .i64 F.bools,.slice aa an ac,.slice ca cn cc] b12 b15 F.bools (List.replicate F.bools 0) :=
   ⟨s12.trans s15,s15 _ _ B12,B15,new_of s12 h15,(ne_new B12 h15).symm,by simp,fun y hy => by rw [List.mem_replicate] at hy; omega⟩
 unfold S26_1
 refine iloopS_for (G := List Int) (fun k val => (ptr b12,some (ptr b15),F.bools + 1,F.bools + 1,a,n,c,(n : Int),(k : Int))) (fun k val υ => RV σ υ [.int .i64 F.ints,.int .i64 F.bools,.slice aa an ac,.slice ca cn cc] b12 b15 F.bools val ∧ setAll val (l.drop k) = setAll (List.replicate F.bools 0) l) n ?_ (g := List.replicate F.bools 0) ⟨P0,rfl⟩
 rintro k val υ hk ⟨P,hs⟩ R hR
 unfold S26_2
 dsimp only
 refine br_dec.2 ⟨fun hlt => ?_,fun hge => ?_⟩
 · have hkn : k < n := by omega
   obtain ⟨x,hx⟩ : ∃ x,l[k]? = some x := ⟨_,List.getElem?_eq_getElem (by omega)⟩
   obtain ⟨p,hp,hc⟩ := (hI.sub P.sub).2.at (i := k) (v := .int .i64 x) (by simp [hx])
   have wk : IntKind.wrap .i64 ((k : Int) + 1) = ((k + 1 : Nat) : Int) := by rw [w64 (by omega) (by omega)]; omega
   have hdk : l.drop k = x :: l.drop (k + 1) := by
     rw [List.drop_eq_getElem_cons (by omega)]
     congr 1
     exact (List.getElem?_eq_some_iff.1 hx).2
   rw [hdk,setAll] at hs
   have hPl := P.len
   have bad : setV val x = none → Q (.tuple #[.slice none 0 0,.bool false]) υ := fun h => by
     rw [h] at hs
     exact hno (.inl hs.symm) υ P.sub
   have bad0 : (x = 0 ∨ x > val.length ∨ x < -(val.length : Int)) → Q (.tuple #[.slice none 0 0,.bool false]) υ := fun h => bad (by unfold setV; rw [if_pos h])
   have wn : IntKind.wrap .i64 (0 - (F.bools : Int)) = -(F.bools : Int) := by rw [w64 (by omega) (by omega)]; omega
   refine ⟨p,hp,by omega,by omega,_,by rw [Int.toNat_natCast,Nat.mul_one]; exact hc,x,rfl,?_⟩
   refine br_iff.2 ⟨fun h => bad0 (.inl (by simpa using h)),fun hx0 => ⟨_,P.k12.get (i := 1) rfl,_,rfl,br_dec.2 ⟨fun h => bad0 (by omega),fun hle => ⟨_,P.k12.get (i := 1) rfl,_,rfl,?_⟩⟩⟩⟩
   rw [wn]
   refine br_dec.2 ⟨fun h => bad0 (by omega),fun hge => ?_⟩
   have hx0 : x ≠ 0 := by simpa using hx0
   have hxl : LitN F.bools x := ⟨hx0,by omega⟩
   have hna : x.natAbs < F.bools + 1 := by have := hxl.2; omega
   refine (c44 (litN hxl hnb) υ).mono hb ?_
   rintro _ τ ⟨rfl,eτ⟩
   obtain rfl := eτ.symm
   refine ⟨_,.refl _,_,rfl,_,rfl,by omega,by omega,_,by rw [Nat.mul_one]; exact P.at hxl,_,rfl,?_⟩
   rw [w64 (n := 0 - x) (by omega) (by omega),wk]
   refine br_iff.2 ⟨fun h => bad ?_,fun h => ?_⟩
   · have h : val.getD (vr x) 0 * (x.natAbs : Int) = 0 - x := eq_of_beq h
     unfold setV
     rw [if_neg (by omega),if_pos ((P.neg hxl).1 (by omega))]
   · have hne : ¬ val.getD (vr x) 0 = -sgn x := fun e => by
       have := (P.neg hxl).2 e
       rw [this] at h; simp at h
     have hsv : setV val x = some (val.set (vr x) (sgn x)) := by
       unfold setV
       rw [if_neg (by omega),if_neg hne]
     refine (c44 (litN hxl hnb) υ).mono hb ?_
     rintro _ τ' ⟨rfl,eτ⟩
     obtain rfl := eτ.symm
     refine ⟨_,.refl _,_,rfl,_,rfl,by omega,by omega,?_⟩
     rw [Nat.mul_one]
     refine ⟨⟨_,P.at hxl⟩,P.k15.froz _,?_⟩
     rw [Int.toNat_natCast]
     refine hR _ _ hkn ⟨P.set hxl hsv,?_⟩
     rw [hsv] at hs
     exact hs
 · have hkn : k = n := by omega
   subst hkn
   rw [List.drop_eq_nil_of_le (by omega),setAll] at hs
   obtain ⟨r,hr⟩ := PropR.total hF.cl (v := val) P.len
   have key : ∀ (v0 : List Int),setAll (List.replicate F.bools 0) l = some v0 → ∀ (w : List Int) (r : Option (List Int)),PropR F.clauses w r → (∀ r',PropR F.clauses w r' → PropR F.clauses v0 r') → ∀ υ,RV σ υ [.int .i64 F.ints,.int .i64 F.bools,.slice aa an ac,.slice ca cn cc] b12 b15 F.bools w → S26_3 C Q (ptr b12) (some (ptr b15)) (F.bools + 1) (F.bools + 1) true υ := by
     intro v0 hv0 w r hwr
     have step : ∀ (w : List Int) (hpr : ∀ r',PropR F.clauses w r' → PropR F.clauses v0 r'),∀ υ,RV σ υ [.int .i64 F.ints,.int .i64 F.bools,.slice aa an ac,.slice ca cn cc] b12 b15 F.bools w → ∀ R3 : T26_3 → PH → Prop,
         (roundP F.clauses w false = none → ∀ τ,σ.sub τ → Q (.tuple #[.slice none 0 0,.bool false]) τ) → (∀ w' ch τ,roundP F.clauses w false = some (w',ch) → RV σ τ [.int .i64 F.ints,.int .i64 F.bools,.slice aa an ac,.slice ca cn cc] b12 b15 F.bools w' → R3 (ptr b12,some (ptr b15),F.bools + 1,F.bools + 1,ch) τ) → S26_4 C Q R3 (ptr b12) (some (ptr b15)) (F.bools + 1) (F.bools + 1) true υ := by
       intro w hpr υ P R3 h1 h2
       unfold S26_4
       refine br_iff.2 ⟨fun _ => ⟨_,P.k12.get (i := 3) rfl,_,_,_,rfl,?_⟩,fun h => (by cases h)⟩
       unfold S26_5
       refine iloopS_for (G := List Int × Bool) (fun k g => (ptr b12,some (ptr b15),F.bools + 1,F.bools + 1,g.2,ca,cn,cc,(cn : Int),(k : Int))) (fun k g τ => RV σ τ [.int .i64 F.ints,.int .i64 F.bools,.slice aa an ac,.slice ca cn cc] b12 b15 F.bools g.1 ∧ roundP (F.clauses.drop k) g.1 g.2 = roundP F.clauses w false) cn ?_ (g := (w,false)) ⟨P,rfl⟩
       clear P υ
       rintro k ⟨wv,ch⟩ υ hk ⟨P,hrd⟩ R5 hR5
       dsimp only at P hrd
       unfold S26_6
       dsimp only
       refine br_dec.2 ⟨fun hlt => ?_,fun hge => ?_⟩
       · have hkn : k < cn := by omega
         obtain ⟨cl,hc⟩ : ∃ c,F.clauses[k]? = some c := ⟨_,List.getElem?_eq_getElem (by omega)⟩
         have hcm := List.mem_of_getElem? hc
         have hclit := hF.cl cl hcm
         have hdk : F.clauses.drop k = cl :: F.clauses.drop (k + 1) := by
           rw [List.drop_eq_getElem_cons (by omega)]
           congr 1
           exact (List.getElem?_eq_some_iff.1 hc).2
         rw [hdk,roundP] at hrd
         obtain ⟨p,x,m,kk,hp,hcell,hIc,hmk⟩ := (hL.sub P.sub).2 k cl hc
         have hcm' := hIc.1
         have hclen := hlen cl hcm
         have wk : IntKind.wrap .i64 ((k : Int) + 1) = ((k + 1 : Nat) : Int) := by rw [w64 (by omega) (by omega)]; omega
         refine ⟨p,hp,by omega,by omega,_,by rw [Int.toNat_natCast,Nat.mul_one]; exact hcell,_,_,_,rfl,?_⟩
         unfold S26_7
         refine iloopS_for (G := Int × Nat × Bool) (fun j s => (ptr b12,some (ptr b15),F.bools + 1,F.bools + 1,ch,s.1,(s.2.1 : Int),s.2.2,ca,cn,cc,(cn : Int),(k : Int),x,m,kk,(m : Int),(j : Int))) (fun j s τ => υ = τ ∧ scanC wv (cl.drop j) s = scanC wv cl (0,0,false) ∧ s.2.1 ≤ j) m ?_ (g := (0,0,false)) ⟨rfl,rfl,Nat.le_refl _⟩
         rintro j s _ hj ⟨rfl,hsc,hsj⟩ R7 hR7
         unfold S26_8
         dsimp only
         refine br_dec.2 ⟨fun hjlt => ?_,fun hjge => ?_⟩
         · have hjn : j < m := by omega
           obtain ⟨y,hy⟩ : ∃ y,cl[j]? = some y := ⟨_,List.getElem?_eq_getElem (by omega)⟩
           have hyl := hclit y (List.mem_of_getElem? hy)
           have hdj : cl.drop j = y :: cl.drop (j + 1) := by
             rw [List.drop_eq_getElem_cons (by omega)]
             congr 1
             exact (List.getElem?_eq_some_iff.1 hy).2
           rw [hdj,scanC] at hsc
           obtain ⟨q,hq,hcq⟩ := hIc.2.at (i := j) (v := .int .i64 y) (by simp [hy])
           have wj : IntKind.wrap .i64 ((j : Int) + 1) = ((j + 1 : Nat) : Int) := by rw [w64 (by omega) (by omega)]; omega
           have hya : y.natAbs < F.bools + 1 := by have := hyl.2; omega
           refine ⟨q,hq,by omega,by omega,_,by rw [Int.toNat_natCast,Nat.mul_one]; exact hcq,y,rfl,(c44 (litN hyl hnb) υ).mono hb ?_⟩
           rintro _ τ ⟨rfl,eτ⟩
           obtain rfl := eτ.symm
           refine ⟨_,.refl _,_,rfl,_,rfl,by omega,by omega,_,by rw [Nat.mul_one]; exact P.at hyl,_,rfl,?_⟩
           rw [wj]
           refine br_iff.2 ⟨fun hpos => ?_,fun hnp => ?_⟩
           · have hpos := (P.pos hyl).1 (eq_of_beq hpos)
             refine hR7 (s.1,s.2.1,true) _ hjn ⟨rfl,?_,by dsimp only; omega⟩
             rw [← hsc]; congr 1
             unfold scan1; rw [if_pos hpos]
           · have hnp : ¬ Go.Sv.valS wv y > 0 := fun h => by
               have := (P.pos hyl).2 h
               rw [this] at hnp; simp at hnp
             refine (c44 (litN hyl hnb) υ).mono hb ?_
             rintro _ τ' ⟨rfl,eτ⟩
             obtain rfl := eτ.symm
             refine ⟨_,.refl _,_,rfl,_,rfl,by omega,by omega,_,by rw [Nat.mul_one]; exact P.at hyl,_,rfl,?_⟩
             refine br_iff.2 ⟨fun hz => br_iff.2 ⟨fun hne => ?_,fun he => ?_⟩,fun hz => ?_⟩
             · have hz := (P.zero hyl).1 (eq_of_beq hz)
               have hne : y ≠ s.1 := by simpa using hne
               have wo : IntKind.wrap .i64 ((s.2.1 : Int) + 1) = ((s.2.1 + 1 : Nat) : Int) := by rw [w64 (by omega) (by omega)]; omega
               rw [wo]
               refine hR7 (y,s.2.1 + 1,s.2.2) _ hjn ⟨rfl,?_,by dsimp only; omega⟩
               rw [← hsc]; congr 1
               unfold scan1; rw [if_neg hnp,if_pos ⟨hz,hne⟩]
             · have he : y = s.1 := by simpa using he
               refine hR7 s _ hjn ⟨rfl,?_,by omega⟩
               rw [← hsc]; congr 1
               unfold scan1; rw [if_neg hnp,if_neg (fun h => h.2 he)]
             · have hz : Go.Sv.valS wv y ≠ 0 := fun h => by
                 have := (P.zero hyl).2 h
                 rw [this] at hz; simp at hz
               refine hR7 s _ hjn ⟨rfl,?_,by omega⟩
               rw [← hsc]; congr 1
               unfold scan1; rw [if_neg hnp,if_neg (fun h => hz h.1)]
         · have hjn : j = m := by omega
           subst hjn
           rw [List.drop_eq_nil_of_le (by omega),scanC] at hsc
           rw [← hsc] at hrd
           have hso := scan_open P.len (c := cl) (s := (0,0,false)) hclit (.inl rfl)
           rw [← hsc] at hso
           rw [wk]
           refine br_iff.2 ⟨fun hh => ?_,fun hh => br_dec.2 ⟨fun ho => ?_,fun ho => br_iff.2 ⟨fun hz => ?_,fun hz => ?_⟩⟩⟩
           · rw [if_pos (.inl hh)] at hrd
             exact hR5 (wv,ch) _ hkn ⟨P,hrd⟩
           · rw [if_pos (.inr (by omega))] at hrd
             exact hR5 (wv,ch) _ hkn ⟨P,hrd⟩
           · have hz : s.2.1 = 0 := by simp at hz; omega
             rw [if_neg (by simp [hh]; omega),if_pos hz] at hrd
             exact h1 hrd.symm υ P.sub
           · have hz : s.2.1 ≠ 0 := by intro h; rw [h] at hz; simp at hz
             rw [if_neg (by simp [hh]; omega),if_neg hz] at hrd
             rcases hso with h | ⟨hsl,hs0⟩
             · exact absurd h hz
             have hsv := setV_open P.len hsl hs0
             have hsa : s.1.natAbs < F.bools + 1 := by have := hsl.2; omega
             refine (c44 (litN hsl hnb) υ).mono hb ?_
             rintro _ τ ⟨rfl,eτ⟩
             obtain rfl := eτ.symm
             refine ⟨_,.refl _,_,rfl,_,rfl,by omega,by omega,?_⟩
             rw [Nat.mul_one]
             refine ⟨⟨_,P.at hsl⟩,P.k15.froz _,?_⟩
             rw [Int.toNat_natCast]
             rw [hsv,Option.getD_some] at hrd
             exact hR5 (_,true) _ hkn ⟨P.set hsl hsv,hrd⟩
       · have hkn : k = cn := by omega
         subst hkn
         rw [List.drop_eq_nil_of_le (by omega),roundP] at hrd
         exact h2 wv ch υ hrd.symm P
     have fin : ∀ (w' : List Int),PropR F.clauses v0 (some w') → ∀ τ,RV σ τ [.int .i64 F.ints,.int .i64 F.bools,.slice aa an ac,.slice ca cn cc] b12 b15 F.bools w' → ∀ R3 : T26_3 → PH → Prop,S26_4 C Q R3 (ptr b12) (some (ptr b15)) (F.bools + 1) (F.bools + 1) false τ := by
       intro w' hpr υ P R3
       unfold S26_4
       refine br_iff.2 ⟨fun h => (by cases h),fun _ => ?_⟩
       unfold S26_9
       refine iloopS_for (G := Sli) (fun k sl => (sl.a,sl.n,sl.c,some (ptr b15),F.bools + 1,F.bools + 1,((F.bools + 1 : Nat) : Int),(k : Int))) (fun k sl τ => υ.sub τ ∧ Own τ 3 1 sl.a sl.n sl.c (ints (litsTo w' (k - 1))) ∧ ∀ p,sl.a = some p → υ p.block = none) (F.bools + 1) ?_ (g := ⟨none,0,0⟩) ⟨.refl _,own_nil,fun p hp => by cases hp⟩
       rintro k sl τ hk ⟨hs,hO,hnew⟩ R9 hR9
       unfold S26_10
       dsimp only at hO hnew ⊢
       refine br_dec.2 ⟨fun hlt => ?_,fun hge => ?_⟩
       · have hkn : k < F.bools + 1 := by omega
         have wk : IntKind.wrap .i64 ((k : Int) + 1) = ((k + 1 : Nat) : Int) := wnat (by omega)
         rw [wk]
         cases k with
         | zero =>
           have hc : τ.cell? ((ptr b15).add 0) = some (.int .i64 0) := hs.cell (P.k15.get (i := 0) rfl)
           refine ⟨_,rfl,by omega,by omega,_,hc,_,rfl,br_iff.2 ⟨fun h => by simp at h,fun _ => hR9 sl τ hkn ⟨hs,hO,hnew⟩⟩⟩
         | succ i =>
           have hin : i < F.bools := by omega
           have hkl : i < w'.length := by rw [P.len]; exact hin
           have hc : τ.cell? ((ptr b15).add (i + 1)) = some (.int .i64 (w'.getD i 0 * ((i : Int) + 1))) := hs.cell (P.k15.get (i := i + 1) (by rw [ints,List.getElem?_map,refV_get hin]; rfl))
           have hsm := P.sm (w'.getD i 0) (by rw [List.getD_eq_getElem?_getD,List.getElem?_eq_getElem hkl]; exact List.getElem_mem _)
           have hlt' := litsTo_succ w' i
           have hll' := litsTo_len w' i
           rw [show i + 1 - 1 = i from rfl] at hO
           generalize w'.getD i 0 = y at *
           refine ⟨_,rfl,by omega,by omega,_,by rw [Int.toNat_natCast,Nat.mul_one]; exact hc,_,rfl,br_iff.2 ⟨fun hne b hbn => ?_,fun he => ?_⟩⟩
           · have hne : y ≠ 0 := by
               rintro rfl; simp at hne
             rw [if_neg hne] at hlt'
             exact growNew hs hO hnew (y * ((i : Int) + 1)) (by omega) hbn (R := fun a n c τ => R9 (a,n,c,some (ptr b15),F.bools + 1,F.bools + 1,((F.bools + 1 : Nat) : Int),((i + 1 + 1 : Nat) : Int)) τ) fun sl' τ' g1 g2 g3 => hR9 sl' τ' hkn ⟨g1,by rw [show i + 1 + 1 - 1 = i + 1 from rfl,hlt']; exact g2,g3⟩
           · have he : y = 0 := by
               have : y * ((i : Int) + 1) = 0 := by simpa using he
               rcases Int.mul_eq_zero.1 this with h | h <;> omega
             rw [if_pos he,List.append_nil] at hlt'
             exact hR9 sl τ hkn ⟨hs,by rw [show i + 1 + 1 - 1 = i + 1 from rfl,hlt']; exact hO,hnew⟩
       · have hkn : k = F.bools + 1 := by omega
         subst hkn
         exact hok v0 w' τ sl hv0 hpr (P.sub.trans hs) hO fun p hp => new_of P.sub (hnew p hp)
     induction hwr with
     | stop h =>
       intro hpr υ P
       unfold S26_3
       intro R3 hR3
       refine hR3 _ _ (step _ hpr υ P R3 (fun h' τ hτ => hno (.inr ⟨v0,hv0,hpr _ (.stop h')⟩) τ hτ) fun w' ch τ h' _ => ?_)
       rw [h] at h'; cases h'
     | @done w w' h =>
       intro hpr υ P
       unfold S26_3
       intro R3 hR3
       refine hR3 _ _ (step _ hpr υ P R3 (fun h' _ _ => ?_) fun w2 ch τ h' P' => ?_)
       · rw [h] at h'; cases h'
       · rw [h] at h'; cases h'
         exact hR3 _ _ (fin _ (hpr _ (.done h)) τ P' R3)
     | @go w w' r h _ ih =>
       intro hpr υ P
       unfold S26_3
       intro R3 hR3
       refine hR3 _ _ (step _ hpr υ P R3 (fun h' _ _ => ?_) fun w2 ch τ h' P' => ?_)
       · rw [h] at h'; cases h'
       · rw [h] at h'; cases h'
         exact ih (fun r' hr' => hpr r' (.go h hr')) τ P' R3 hR3
   exact key val hs.symm val r hr (fun _ h => h) υ P
end Go.Proofs.Ythfnjogadngfiaa
namespace Go.Sv
theorem litT_neg {bl : List Bool} {y : Int} (hy : y ≠ 0) : litT bl (-y) ↔ ¬ litT bl y := by
 unfold litT
 by_cases h : 0 < y
 · rw [if_pos h,if_neg (by omega),Int.neg_neg]; simp
 · rw [if_neg h,if_pos (by omega)]; simp
theorem bound_sat {F : Fm} {bl : List Bool} {x : Nat → Int} (hM : SatM F bl x) {y : Int} {d : Dif} (hb : bound F y = some d) (hy : litT bl y) : x (dX d) - x (dY d) ≤ d.2.2 := by
 unfold bound at hb
 split at hb
 · cases hb
 · rename_i h0
   split at hb
   · cases hb
   · rename_i a b c hat
     have := hM.at' _ _ hat
     split at hb
     · rename_i hp
       cases hb
       unfold litT at hy
       rw [if_pos hp,show (y - 1).toNat = vr y from by unfold vr; omega] at hy
       exact this.1 hy
     · rename_i hp
       cases hb
       unfold litT at hy
       rw [if_neg hp,show (-y - 1).toNat = vr y from by unfold vr; omega] at hy
       have hn : ¬ (x (dX (a,b,c)) - x (dY (a,b,c)) ≤ c) := fun h => by
         have := this.2 h
         rw [hy] at this; cases this
       have e1 : dX (b,a,-c - 1) = dY (a,b,c) := rfl
       have e2 : dY (b,a,-c - 1) = dX (a,b,c) := rfl
       rw [e1,e2]
       show _ ≤ -c - 1
       omega
theorem sound {F : Fm} (hF : FOk F) {bl : List Bool} {x : Nat → Int} (hM : SatM F bl x) {l : List PStep} {cs : List (List Int)} (h : stepsOf F l = some cs) : ∀ (i : Nat) c,cs[i]? = some c → ∃ y ∈ c,litT bl y := by
 obtain ⟨hlen,hat⟩ := stepsOf_pre h
 have hlit := steps_lit hF h
 intro i
 induction i using Nat.strongRecOn with
 | ind i ih =>
   intro c hc
   have hi := (List.getElem?_eq_some_iff.1 hc).1
   obtain ⟨s,hs⟩ : ∃ s,l[i]? = some s := ⟨_,List.getElem?_eq_getElem (by omega)⟩
   obtain ⟨c',q1,q2⟩ := hat i s hs
   rw [hc] at q1; cases q1
   have fin : ∀ {d : List Int},norm d = some c → (∃ y ∈ d,litT bl y) → ∃ y ∈ c,litT bl y := fun hd ⟨y,h1,h2⟩ => by
     obtain ⟨_,hm,_⟩ := norm_some hd
     exact ⟨y,(hm y).2 h1,h2⟩
   unfold stepClause at q2
   split at q2
   · split at q2
     · split at q2
       · rename_i d hd
         exact fin q2 (hM.cl d (List.mem_of_getElem? hd))
       · cases q2
     · cases q2
   · split at q2
     · obtain ⟨h1,h2⟩ := cyclic_litN hF q2
       refine fin h2 ?_
       apply Classical.byContradiction
       intro hne
       have hall : ∀ y ∈ s.lits,litT bl y := by
         intro y hy
         apply Classical.byContradiction
         intro hny
         exact hne ⟨-y,List.mem_map.2 ⟨y,hy,rfl⟩,(litT_neg (h1 y hy).1).2 hny⟩
       unfold cyclic at q2
       split at q2
       · cases q2
       · rename_i lb hb
         split at q2
         · rename_i hr
           refine ring_false (x := x) hr.1 fun d hd => ?_
           obtain ⟨y,hy1,hy2⟩ := bounds_mem hb d hd
           exact bound_sat hM hy2 (hall y hy1)
         · cases q2
     · split at q2
       · split at q2
         · split at q2
           · rename_i a b ha hb
             rw [List.getElem?_take] at ha hb
             split at ha
             · rename_i hp
               split at hb
               · rename_i hq
                 refine fin (resolvent_some q2) ?_
                 obtain ⟨y,y1,y2⟩ := ih _ hp a ha
                 obtain ⟨z,z1,z2⟩ := ih _ hq b hb
                 by_cases hy : y = s.v + 1
                 · have hz : z ≠ -(s.v + 1) := by
                     intro hz
                     rw [hz] at z2
                     rw [hy] at y2
                     have h0 : s.v + 1 ≠ 0 := by
                       have := ((hlit _ a ha).2 y y1).1
                       omega
                     exact (litT_neg h0).1 z2 y2
                   exact ⟨z,List.mem_append_right _ (List.mem_filter.2 ⟨z1,by simpa using hz⟩),z2⟩
                 · exact ⟨y,List.mem_append_left _ (List.mem_filter.2 ⟨y1,by simpa using hy⟩),y2⟩
               · cases hb
             · cases ha
           · cases q2
         · cases q2
       · cases q2
theorem sound_no {F : Fm} (hF : FOk F) {bl : List Bool} {x : Nat → Int} (hM : SatM F bl x) {l : List PStep} {cs : List (List Int)} (h : stepsOf F l = some cs) (hl : cs.getLast? = some []) : False := by
 rw [List.getLast?_eq_getElem?] at hl
 obtain ⟨y,hy,_⟩ := sound hF hM h _ _ hl
 simp at hy
end Go.Sv
namespace Go.Proofs.Ythfnjogadngfiaa
open Go.Sl Go.Sv
def aw1 : Fm := ⟨0,3,[],[[-1,2],[-2,3]]⟩
def aw2 : Fm := ⟨2,2,[(0,1,-1),(1,0,-1)],[[1],[2]]⟩
def aw3 : Fm := ⟨2,2,[(0,1,-1),(1,0,-1)],[[1]]⟩
theorem aw1_ok : FOk aw1 := by
 refine ⟨by decide,by decide,by decide,by decide,?_,by decide⟩
 unfold LitN; decide
theorem aw2_ok : FOk aw2 := by
 refine ⟨by decide,by decide,by decide,by decide,?_,by decide⟩
 unfold LitN; decide
theorem aw3_ok : FOk aw3 := by
 refine ⟨by decide,by decide,by decide,by decide,?_,by decide⟩
 unfold LitN; decide
theorem aw_r1 : roundP aw1.clauses [1,0,0] false = some ([1,1,1],true) := by decide
theorem aw_r2 : roundP aw1.clauses [1,1,1] false = some ([1,1,1],false) := by decide
theorem aw_prop : ∀ {r},PropR aw1.clauses [1,0,0] r → r = some [1,1,1] := by
 have h2 : ∀ {r},PropR aw1.clauses [1,1,1] r → r = some [1,1,1] := by
   intro r h
   cases h with
   | stop h => rw [aw_r2] at h; cases h
   | done h => rw [aw_r2] at h; cases h; rfl
   | go h _ => rw [aw_r2] at h; cases h
 intro r h
 cases h with
 | stop h => rw [aw_r1] at h; cases h
 | done h => rw [aw_r1] at h; cases h
 | go h hr => rw [aw_r1] at h; cases h; exact h2 hr
theorem aw2_no {bl : List Bool} {x : Nat → Int} (h : SatM aw2 bl x) : False := by
 obtain ⟨y,hy,h1⟩ := h.cl [1] (by decide)
 obtain ⟨z,hz,h2⟩ := h.cl [2] (by decide)
 simp at hy hz
 subst hy; subst hz
 have a0 := (h.at' 0 (0,1,-1) rfl).1 (by unfold litT at h1; simpa using h1)
 have a1 := (h.at' 1 (1,0,-1) rfl).1 (by unfold litT at h2; simpa using h2)
 have e0 : dX (0,1,-1) = 0 := rfl
 have e1 : dY (0,1,-1) = 1 := rfl
 have e2 : dX (1,0,-1) = 1 := rfl
 have e3 : dY (1,0,-1) = 0 := rfl
 rw [e0,e1] at a0
 rw [e2,e3] at a1
 dsimp only at a0 a1
 omega
theorem aw3_sat : SatM aw3 [true,false] (fun v => if v = 0 then -1 else 0) := by
 refine ⟨rfl,fun c hc => ?_,fun i d hd => ?_,fun v _ => ?_⟩
 · have : c = [1] := by simpa [aw3] using hc
   subst this
   exact ⟨1,by simp,by unfold litT; decide⟩
 · match i,hd with
   | 0,hd => cases hd; decide
   | 1,hd => cases hd; decide
   | i + 2,hd => simp [aw3] at hd
 · show _ ≤ (if v = 0 then (-1 : Int) else 0) ∧ (if v = 0 then (-1 : Int) else 0) ≤ 0
   split <;> omega
theorem blk_ints {ω : PH} {b : Nat} {l : List Int} {n : Nat} (h : Blk ω b 3 (ints l)) (hn : l.length = n) : Ints ω (some (ptr b)) n l := ⟨hn,.inr ⟨_,rfl,fun i v hv => h.get hv⟩⟩
theorem c20 {σ : PH} {Q : Value → PH → Prop} (hQ : ∀ τ,σ.sub τ → Q (.bool true) τ) : C 20 #[] Q σ := by
 refine go (E20_0 _ _ _) ?_
 unfold S20_0
 have e0 : ∀ b : Nat,(Addr.mk b 0 none).add 0 = ⟨b,0,none⟩ := fun b => rfl
 intro b1 h1
 have s1 := PH.sub_set (o := .cells #[.int .i64 (-1),.int .i64 2] 3) h1
 have k1 : Blk (σ.set b1 (.cells #[.int .i64 (-1),.int .i64 2] 3)) b1 3 (ints [-1,2]) := set_self
 generalize σ.set b1 (.cells #[.int .i64 (-1),.int .i64 2] 3) = ω1 at *
 intro b2 h2
 have s2 := PH.sub_set (o := .cells #[.int .i64 (-2),.int .i64 3] 3) h2
 have k2 : Blk (ω1.set b2 (.cells #[.int .i64 (-2),.int .i64 3] 3)) b2 3 (ints [-2,3]) := set_self
 generalize ω1.set b2 (.cells #[.int .i64 (-2),.int .i64 3] 3) = ω2 at *
 intro b3 h3
 have s3 := PH.sub_set (o := .cells #[.slice (some ⟨b1,0,none⟩) 2 2,.slice (some ⟨b2,0,none⟩) 2 2] 33) h3
 have k3 : Blk (ω2.set b3 (.cells #[.slice (some ⟨b1,0,none⟩) 2 2,.slice (some ⟨b2,0,none⟩) 2 2] 33)) b3 33 [.slice (some (ptr b1)) 2 2,.slice (some (ptr b2)) 2 2] := set_self
 generalize ω2.set b3 (.cells #[.slice (some ⟨b1,0,none⟩) 2 2,.slice (some ⟨b2,0,none⟩) 2 2] 33) = ω3 at *
 intro b4 h4
 have s4 := PH.sub_set (o := .cells #[.int .i64 1] 3) h4
 have k4 : Blk (ω3.set b4 (.cells #[.int .i64 1] 3)) b4 3 (ints [1]) := set_self
 generalize ω3.set b4 (.cells #[.int .i64 1] 3) = ω4 at *
 have sub4 := ((s1.trans s2).trans s3).trans s4
 have L1 : Lists ω4 (some (ptr b3)) 2 aw1.clauses := by
   refine ⟨rfl,fun i c hc => ?_⟩
   match i,hc with
   | 0,hc => cases hc; exact ⟨_,_,_,_,rfl,s4.cell (k3.get (i := 0) rfl),blk_ints (s4 _ _ (s3 _ _ (s2 _ _ k1))) rfl,Nat.le_refl _⟩
   | 1,hc => cases hc; exact ⟨_,_,_,_,rfl,s4.cell (k3.get (i := 1) rfl),blk_ints (s4 _ _ (s3 _ _ k2)) rfl,Nat.le_refl _⟩
   | i + 2,hc => simp [aw1] at hc
 have hset : setAll (List.replicate aw1.bools 0) [1] = some [1,0,0] := by decide
 refine c25 (F := aw1) aw1_ok (by decide) L1 (blk_ints k4 rfl) (by decide) (fun h => ?_) (fun v val υ7 sl hv hp hs7 hO7 hnew7 => ?_) (fun v hv => ?_)
 · exfalso
   rcases h with h | ⟨v,hv,hp⟩
   · rw [hset] at h; cases h
   · rw [hset] at hv; cases hv
     have := aw_prop hp; cases this
 rotate_left
 · rw [hset] at hv; cases hv
   exact ⟨_,.go aw_r1 (.done aw_r2)⟩
 rw [hset] at hv; cases hv
 have hval := aw_prop hp
 cases hval
 have hl123 : litsTo [1,1,1] aw1.bools = [1,2,3] := by decide
 rw [hl123] at hO7
 refine ⟨υ7,.refl _,_,_,_,_,rfl,?_⟩
 have σ7 := sub4.trans hs7
 have I7 := own_ints hO7
 intro b12 h12
 have s12 := PH.sub_set (o := .cells #[.int .i64 0,.int .i64 1,.int .i64 (-1),.int .i64 1,.int .i64 0,.int .i64 (-1)] 50) h12
 have k12 : Blk (υ7.set b12 (.cells #[.int .i64 0,.int .i64 1,.int .i64 (-1),.int .i64 1,.int .i64 0,.int .i64 (-1)] 50)) b12 50 (difV [(0,1,-1),(1,0,-1)]) := set_self
 generalize υ7.set b12 (.cells #[.int .i64 0,.int .i64 1,.int .i64 (-1),.int .i64 1,.int .i64 0,.int .i64 (-1)] 50) = ω12 at *
 intro b13 h13
 have s13 := PH.sub_set (o := .cells #[.int .i64 1] 3) h13
 have k13 : Blk (ω12.set b13 (.cells #[.int .i64 1] 3)) b13 3 (ints [1]) := set_self
 generalize ω12.set b13 (.cells #[.int .i64 1] 3) = ω13 at *
 intro b14 h14
 have s14 := PH.sub_set (o := .cells #[.int .i64 2] 3) h14
 have k14 : Blk (ω13.set b14 (.cells #[.int .i64 2] 3)) b14 3 (ints [2]) := set_self
 generalize ω13.set b14 (.cells #[.int .i64 2] 3) = ω14 at *
 intro b15 h15
 have s15 := PH.sub_set (o := .cells #[.slice (some ⟨b13,0,none⟩) 1 1,.slice (some ⟨b14,0,none⟩) 1 1] 33) h15
 have k15 : Blk (ω14.set b15 (.cells #[.slice (some ⟨b13,0,none⟩) 1 1,.slice (some ⟨b14,0,none⟩) 1 1] 33)) b15 33 [.slice (some (ptr b13)) 1 1,.slice (some (ptr b14)) 1 1] := set_self
 generalize ω14.set b15 (.cells #[.slice (some ⟨b13,0,none⟩) 1 1,.slice (some ⟨b14,0,none⟩) 1 1] 33) = ω15 at *
 intro b16 h16
 simp only [newSet,newSet0,newCell,newCell0,newFroz,newFroz0,List.setIfInBounds_toArray,List.set_cons_zero,List.set_cons_succ,List.getElem?_toArray,List.getElem?_cons_zero,List.getElem?_cons_succ,Option.some.injEq,exists_eq',true_and,exists_eq_left']
 have s16 := PH.sub_set (o := .cells #[.int .i64 2,.int .i64 2,.slice (some ⟨b12,0,none⟩) 2 2,.slice (some ⟨b15,0,none⟩) 2 2] 29) h16
 have k16 : Blk (ω15.set b16 (.cells #[.int .i64 2,.int .i64 2,.slice (some ⟨b12,0,none⟩) 2 2,.slice (some ⟨b15,0,none⟩) 2 2] 29)) b16 29 [.int .i64 2,.int .i64 2,.slice (some (ptr b12)) 2 2,.slice (some (ptr b15)) 2 2] := set_self
 generalize ω15.set b16 (.cells #[.int .i64 2,.int .i64 2,.slice (some ⟨b12,0,none⟩) 2 2,.slice (some ⟨b15,0,none⟩) 2 2] 29) = ω16 at *
 have s715 := ((s12.trans s13).trans s14).trans s15
 have A2 : Atoms ω15 (some (ptr b12)) 2 aw2.atoms := (own_atoms (n := 2) (c := 2) ⟨rfl,Nat.le_refl _,.inr ⟨b12,_,rfl,k12,rfl,rfl⟩⟩).sub ((s13.trans s14).trans s15)
 have L2 : Lists ω15 (some (ptr b15)) 2 aw2.clauses := by
   refine ⟨rfl,fun i c hc => ?_⟩
   match i,hc with
   | 0,hc => cases hc; exact ⟨_,_,_,_,rfl,k15.get (i := 0) rfl,blk_ints (s15 _ _ (s14 _ _ k13)) rfl,Nat.le_refl _⟩
   | 1,hc => cases hc; exact ⟨_,_,_,_,rfl,k15.get (i := 1) rfl,blk_ints (s15 _ _ k14) rfl,Nat.le_refl _⟩
   | i + 2,hc => simp [aw2] at hc
 have n16 : υ7 b16 = none := new_of s715 h16
 refine ⟨_,_,_,_,_,_,_,_,rfl,?_⟩
 refine c17 (F := aw2) aw2_ok (by decide) (by decide) (A2.sub s16) (L2.sub s16) (Nat.le_refl _) (Nat.le_refl _) (fun τ b X bl x _ _ _ hM => (aw2_no hM).elim) fun υ35 a n c ps cs hs35 _ _ _ _ _ => ?_
 refine ⟨υ35,.refl _,_,_,_,_,_,_,_,_,_,_,rfl,?_⟩
 intro b46 h46
 have k16a : Blk υ35 b16 29 [.int .i64 2,.int .i64 2,.slice (some (ptr b12)) 2 2,.slice (some (ptr b15)) 2 2] := hs35 _ _ k16
 have s46 := PH.sub_set (o := .cells #[.slice none 0 0,.slice none 0 0] 35) h46
 generalize υ35.set b46 (.cells #[.slice none 0 0,.slice none 0 0] 35) = ω46 at *
 have k16b : Blk ω46 b16 29 [.int .i64 2,.int .i64 2,.slice (some (ptr b12)) 2 2,.slice (some (ptr b15)) 2 2] := s46 _ _ k16a
 have st : Step (· = b16) ω46 (ω46.setCell ((ptr b16).add 3) (.slice (some (ptr b15)) (Int.toNat 1) 2)) := setCell_step.weaken fun b hb => hb.trans (add_block _ _)
 have k16c := k16b.set 3 (.slice (some (ptr b15)) (Int.toNat 1) 2)
 have s1546 : ω15.sub ω46 := (s16.trans hs35).trans s46
 have sN : ω15.sub (ω46.setCell ((ptr b16).add 3) (.slice (some (ptr b15)) (Int.toNat 1) 2)) := sub_step_new s1546 st (by rintro b rfl; exact h16)
 refine ⟨_,k16b.get (i := 3) rfl,_,_,_,rfl,by omega,by omega,⟨_,k16b.get (i := 3) rfl⟩,k16b.froz 3,?_⟩
 have g0 := k16c.get (i := 0) rfl
 rw [e0] at g0
 refine ⟨_,g0,_,k16c.get (i := 1) rfl,_,k16c.get (i := 2) rfl,_,k16c.get (i := 3) rfl,_,_,_,_,_,_,_,_,rfl,?_⟩
 have L3 : Lists ω15 (some (ptr b15)) 1 aw3.clauses := by
   refine ⟨rfl,fun i c hc => ?_⟩
   match i,hc with
   | 0,hc => cases hc; exact ⟨_,_,_,_,rfl,k15.get (i := 0) rfl,blk_ints (s15 _ _ (s14 _ _ k13)) rfl,Nat.le_refl _⟩
   | i + 1,hc => simp [aw3] at hc
 refine c17 (F := aw3) aw3_ok (by decide) (by decide) (A2.sub sN) (L3.sub sN) (Nat.le_refl _) (by decide) (fun υ68 b X bl x hs68 _ _ _ => ?_) fun τ a n c ps cs _ _ _ hcs hlast _ => (sound_no aw3_ok aw3_sat hcs hlast).elim
 refine ⟨υ68,.refl _,_,_,_,_,_,_,_,_,_,_,rfl,?_⟩
 intro b79 h79
 have s768 : υ7.sub υ68 := (s715.trans sN).trans hs68
 refine br_iff.2 ⟨fun _ b82 h82 => ?_,fun h => (by cases h)⟩
 have s79 := PH.sub_set (o := .cells #[.slice (some (ptr b)) aw3.bools aw3.bools,.slice (some (ptr X)) aw3.ints aw3.ints] 35) h79
 have s82 := PH.sub_set (o := .cells #[.int .i64 1,.int .i64 2,.int .i64 3] 3) h82
 have s7f := (s768.trans s79).trans s82
 have k82 : Blk ((υ68.set b79 (.cells #[.slice (some (ptr b)) aw3.bools aw3.bools,.slice (some (ptr X)) aw3.ints aw3.ints] 35)).set b82 (.cells #[.int .i64 1,.int .i64 2,.int .i64 3] 3)) b82 3 (ints [1,2,3]) := set_self
 have hn7 := I7.1
 refine (c27 (by unfold Len; simp at hn7; omega) (I7.sub s7f) (blk_ints k82 rfl)).mono hb ?_
 rintro _ τ ⟨rfl,eτ⟩
 obtain rfl := eτ.symm
 exact ⟨_,.refl _,_,rfl,br_iff.2 ⟨fun _ => br_iff.2 ⟨fun _ => hQ _ (σ7.trans s7f),fun h => (by cases h)⟩,fun h => by simp at h⟩⟩
theorem le_sum_len : ∀ {l : List (List Int)} {c : List Int},c ∈ l → c.length ≤ (l.map List.length).sum
 | [],c,h => by simp at h
 | d :: l,c,h => by
   rw [List.map_cons,List.sum_cons]
   rcases List.mem_cons.1 h with rfl | h
   · omega
   · have := le_sum_len h; omega
theorem c20' {σ : PH} {Q : Value → PH → Prop} (hQ : ∀ τ,σ.sub τ → Q (.bool true) τ) : C 20 #[] (fun v τ => ∃ υ : PH,υ.sub τ ∧ ∃ q : Bool,v = .bool q ∧ Q (.bool q) υ) σ := c20 fun τ hs => ⟨τ,.refl _,true,rfl,hQ τ hs⟩
def PropO (F : Fm) (l : List Int) (r : Option (List Int)) : Prop :=
 (setAll (List.replicate F.bools 0) l = none ∧ r = none) ∨ ∃ v,setAll (List.replicate F.bools 0) l = some v ∧ PropR F.clauses v r
theorem PropO.det {F : Fm} {l : List Int} {r r' : Option (List Int)} (h : PropO F l r) (h' : PropO F l r') : r = r' := by
 rcases h with ⟨h1,h2⟩ | ⟨v,h1,h2⟩ <;> rcases h' with ⟨h3,h4⟩ | ⟨v',h3,h4⟩
 · rw [h2,h4]
 · rw [h1] at h3; cases h3
 · rw [h1] at h3; cases h3
 · rw [h1] at h3; cases h3; exact h2.det h4
def litsO (F : Fm) : Option (List Int) → List Int
 | none => []
 | some val => litsTo val F.bools
theorem litsO_len (F : Fm) (r : Option (List Int)) : (litsO F r).length ≤ F.bools := by
 cases r with
 | none => exact Nat.zero_le _
 | some val => exact litsTo_len val F.bools
theorem c25r {σ : PH} {F : Fm} (hF : FOk F) (hlen : ∀ c ∈ F.clauses,c.length ≤ 1000000) {aa ca : Option Addr} {an ac cn cc : Nat} (hL : Lists σ ca cn F.clauses) {a : Option Addr} {n c : Nat} {l : List Int} (hI : Ints σ a n l) (hll : l.length ≤ 1000000)
   {Q : Value → PH → Prop} (hQ : ∀ r τ (sl : Sli),PropO F l r → σ.sub τ → Own τ 3 1 sl.a sl.n sl.c (ints (litsO F r)) → (∀ p,sl.a = some p → σ p.block = none) → Q (.tuple #[sl.v,.bool r.isSome]) τ) :
   C 25 #[.agg #[.int .i64 F.ints,.int .i64 F.bools,.slice aa an ac,.slice ca cn cc],.slice a n c] Q σ := by
 refine c25 hF hlen hL hI hll (fun h τ hs => ?_) (fun v val τ sl h1 h2 hs hO hn => hQ (some val) τ sl (.inr ⟨v,h1,h2⟩) hs hO hn) fun v hv => PropR.total hF.cl (by rw [setAll_len hv]; simp)
 refine hQ none τ ⟨none,0,0⟩ ?_ hs own_nil (by simp)
 rcases h with h | ⟨v,h1,h2⟩
 · exact .inl ⟨h,rfl⟩
 · exact .inr ⟨v,h1,h2⟩
theorem c26r {σ : PH} {F : Fm} (hF : FOk F) (hlen : ∀ c ∈ F.clauses,c.length ≤ 1000000) {aa ca : Option Addr} {an ac cn cc : Nat} (hL : Lists σ ca cn F.clauses) {a : Option Addr} {n c : Nat} {l : List Int} (hI : Ints σ a n l) (hll : l.length ≤ 1000000)
   {Q : Value → PH → Prop} (hQ : ∀ r τ (sl : Sli),PropO F l r → σ.sub τ → Own τ 3 1 sl.a sl.n sl.c (ints (litsO F r)) → (∀ p,sl.a = some p → σ p.block = none) → Q (.tuple #[sl.v,.bool r.isSome]) τ) :
   C 26 #[.agg #[.int .i64 F.ints,.int .i64 F.bools,.slice aa an ac,.slice ca cn cc],.slice a n c] Q σ := by
 refine c26 hF hlen hL hI hll (fun h τ hs => ?_) (fun v val τ sl h1 h2 hs hO hn => hQ (some val) τ sl (.inr ⟨v,h1,h2⟩) hs hO hn)
 refine hQ none τ ⟨none,0,0⟩ ?_ hs own_nil (by simp)
 rcases h with h | ⟨v,h1,h2⟩
 · exact .inl ⟨h,rfl⟩
 · exact .inr ⟨v,h1,h2⟩
theorem both {σ : PH} {F : Fm} (hF : FOk F) (hlen : ∀ c ∈ F.clauses,c.length ≤ 1000000) {f : Nat} {A K : Sli} (B : Blk σ f 29 [.int .i64 F.ints,.int .i64 F.bools,A.v,K.v]) (hL : Lists σ K.a K.n F.clauses) {a : Option Addr} {n c : Nat} {l : List Int} (hI : Ints σ a n l) (hll : l.length ≤ 1000000) {Q : Value → PH → Prop} (hQ : ∀ τ,σ.sub τ → Q (.bool true) τ) :
   C 25 #[.agg #[.int .i64 F.ints,.int .i64 F.bools,A.v,K.v],.slice a n c] (fun v82 τ83 => ∃ υ84 : PH,PH.sub υ84 τ83 ∧ ∃ (a85 : Option Addr) (n86 : Nat) (c87 : Nat) (q88 : Bool),v82 = (.tuple #[.slice a85 n86 c87,(.bool q88)]) ∧ ∃ v89,PH.cell? υ84 (ptr f) = some v89 ∧ ∃ v90,PH.cell? υ84 ((ptr f).add 1) = some v90 ∧ ∃ v91,PH.cell? υ84 ((ptr f).add 2) = some v91 ∧ ∃ v92,PH.cell? υ84 ((ptr f).add 3) = some v92 ∧ ∃ (i93 : Int) (i94 : Int) (a95 : Option Addr) (n96 : Nat) (c97 : Nat) (a98 : Option Addr) (n99 : Nat) (c100 : Nat),Value.agg #[v89,v90,v91,v92] = (.agg #[.int .i64 i93,.int .i64 i94,.slice a95 n96 c97,.slice a98 n99 c100]) ∧
     C 26 #[(.agg #[.int .i64 i93,.int .i64 i94,.slice a95 n96 c97,.slice a98 n99 c100]),.slice a n c] (fun v101 τ102 => ∃ υ103 : PH,PH.sub υ103 τ102 ∧ ∃ (a104 : Option Addr) (n105 : Nat) (c106 : Nat) (q107 : Bool),v101 = (.tuple #[.slice a104 n105 c106,(.bool q107)]) ∧
       br (q88 == q107) (C 27 #[.slice a85 n86 c87,.slice a104 n105 c106] (fun v108 τ109 => ∃ υ110 : PH,PH.sub υ110 τ109 ∧ ∃ (q111 : Bool),v108 = (.bool q111) ∧ br q111 (C 20 #[] (fun v112 τ113 => ∃ υ114 : PH,PH.sub υ114 τ113 ∧ ∃ (q115 : Bool),v112 = (.bool q115) ∧ Q (.bool q115) υ114) υ110) (Q (.bool false) υ110)) υ103) (Q (.bool false) υ103)) υ84) σ := by
 have e0 : ∀ b : Nat,(Addr.mk b 0 none).add 0 = ⟨b,0,none⟩ := fun b => rfl
 have hnb := hF.bools
 refine c25r hF hlen hL hI hll fun r τ sl hr hs hO _ => ⟨τ,.refl _,_,_,_,_,rfl,?_⟩
 have B1 : Blk τ f 29 _ := hs _ _ B
 have g := B1.get (i := 0) rfl
 rw [e0] at g
 refine ⟨_,g,_,B1.get (i := 1) rfl,_,B1.get (i := 2) rfl,_,B1.get (i := 3) rfl,_,_,_,_,_,_,_,_,rfl,?_⟩
 refine c26r hF hlen (hL.sub hs) (hI.sub hs) hll fun r' τ' sl' hr' hs' hO' _ => ⟨τ',.refl _,_,_,_,_,rfl,?_⟩
 obtain rfl := hr.det hr'
 refine br_iff.2 ⟨fun _ => ?_,fun h => by simp at h⟩
 have hll2 := litsO_len F r
 have I1 := (own_ints hO).sub hs'
 have hn := I1.1
 refine (c27 (by unfold Len; omega) I1 (own_ints hO')).mono hb ?_
 rintro _ τ2 ⟨rfl,eτ⟩
 obtain rfl := eτ.symm
 refine ⟨_,.refl _,_,rfl,br_iff.2 ⟨fun _ => c20' fun τ3 hs3 => hQ τ3 ((hs.trans hs').trans hs3),fun h => by simp at h⟩⟩
theorem c11 {σ : PH} {i1 i2 : Int} {aa : Option Addr} {an ac : Nat} {ca : Option Addr} {cn cc : Nat} {atoms : List Dif} {clauses : List (List Int)} (hA : Atoms σ aa an atoms) (hL : Lists σ ca cn clauses) (ha : an ≤ ac) (hcc : cn ≤ cc) (han : an ≤ 1152921504606846976) (hcn : cn ≤ 1152921504606846976) (hlen : ∀ c ∈ clauses,c.length ≤ 1152921504606846976)
   {a : Option Addr} {n c : Nat} {l : List Int} (hI : Ints σ a n l) (hn : n ≤ 1152921504606846976) {Q : Value → PH → Prop} (hQ : ∀ τ,σ.sub τ → Q (.bool true) τ) :
   C 11 #[.agg #[.int .i64 i1,.int .i64 i2,.slice aa an ac,.slice ca cn cc],.slice a n c] Q σ := by
 refine go (E11_0 _ _ _ _ _ _ _ _ _ _ _ _ _ _) ?_
 unfold S11_0
 have e0 : ∀ b : Nat,(Addr.mk b 0 none).add 0 = ⟨b,0,none⟩ := fun b => rfl
 have hAn := hA.1
 have hLn := hL.1
 have hIn := hI.1
 intro b9 h9
 have s9 := PH.sub_set (o := .cells #[.int .i64 i1,.int .i64 i2,.slice aa an ac,.slice ca cn cc] 29) h9
 have B9 : Blk (σ.set b9 (.cells #[.int .i64 i1,.int .i64 i2,.slice aa an ac,.slice ca cn cc] 29)) b9 29 [.int .i64 i1,.int .i64 i2,.slice aa an ac,.slice ca cn cc] := set_self
 generalize σ.set b9 (.cells #[.int .i64 i1,.int .i64 i2,.slice aa an ac,.slice ca cn cc] 29) = ω at *
 have g0 := B9.get (i := 0) rfl
 rw [e0] at g0
 refine ⟨_,B9.get (i := 2) rfl,_,_,_,rfl,_,B9.get (i := 3) rfl,_,_,_,rfl,?_⟩
 have w0 : IntKind.wrap .i64 (IntKind.wrap .i64 ((an : Int) + (cn : Int)) + (n : Int)) = ((an + cn + n : Nat) : Int) := by rw [w64 (n := (an : Int) + cn) (by omega) (by omega),w64 (by omega) (by omega)]; omega
 rw [w0]
 have aw : ∀ τ,ω.sub τ → C 20 #[] (fun v τ => ∃ υ : PH,υ.sub τ ∧ ∃ q : Bool,v = .bool q ∧ Q (.bool q) υ) τ := fun τ hs => c20' fun τ' hs' => hQ τ' ((s9.trans hs).trans hs')
 unfold S11_1
 refine iloopS_for (G := Unit) (fun k _ => (a,n,c,ptr b9,((an + cn + n + ((clauses.take k).map List.length).sum : Nat) : Int),(k : Int))) (fun k _ υ => ω = υ ∧ (k = 0 ∨ an + cn + n + ((clauses.take (k - 1)).map List.length).sum < 5000)) cn ?_ (g := ()) ⟨rfl,.inl rfl⟩
 rintro k _ _ hk ⟨rfl,hbd⟩ R hR
 unfold S11_2
 dsimp only
 have hacc : an + cn + n + ((clauses.take k).map List.length).sum ≤ 5764607523034234880 := by
   rcases hbd with rfl | h
   · simp; omega
   · cases k with
     | zero => simp; omega
     | succ k =>
       rw [show k + 1 - 1 = k from rfl] at h
       rw [List.take_add_one,List.map_append,List.sum_append]
       cases hc : clauses[k]? with
       | none =>
         show an + cn + n + (((clauses.take k).map List.length).sum + 0) ≤ _
         omega
       | some c =>
         have := hlen c (List.mem_of_getElem? hc)
         show an + cn + n + (((clauses.take k).map List.length).sum + (c.length + 0)) ≤ _
         omega
 refine ⟨_,B9.get (i := 3) rfl,_,_,_,rfl,br_dec.2 ⟨fun hlt => br_dec.2 ⟨fun hs => ?_,fun hs => br_dec.2 ⟨fun _ => aw _ (.refl _),fun h => by omega⟩⟩,fun hge => br_dec.2 ⟨fun _ => aw _ (.refl _),fun h300 => ?_⟩⟩⟩
 · have hkn : k < cn := by omega
   obtain ⟨c,hc⟩ : ∃ c,clauses[k]? = some c := ⟨_,List.getElem?_eq_getElem (by omega)⟩
   have hcl := hlen c (List.mem_of_getElem? hc)
   obtain ⟨p,y,m,kk,hp,hcell,hI',hmk⟩ := (hL.sub s9).2 k c hc
   have hm := hI'.1
   have hnext : an + cn + n + ((clauses.take (k + 1)).map List.length).sum = an + cn + n + ((clauses.take k).map List.length).sum + m := by
     rw [List.take_add_one,hc,List.map_append,List.sum_append]
     simp; omega
   have wk : IntKind.wrap .i64 ((k : Int) + 1) = ((k + 1 : Nat) : Int) := by rw [w64 (by omega) (by omega)]; omega
   have wa : IntKind.wrap .i64 (((an + cn + n + ((clauses.take k).map List.length).sum : Nat) : Int) + (m : Int)) = ((an + cn + n + ((clauses.take (k + 1)).map List.length).sum : Nat) : Int) := by rw [w64 (by omega) (by omega),hnext]; omega
   refine ⟨_,B9.get (i := 3) rfl,_,_,_,rfl,p,hp,by omega,by omega,_,by rw [Int.toNat_natCast,Nat.mul_one]; exact hcell,_,_,_,rfl,?_⟩
   rw [wk,wa]
   exact hR () _ hkn ⟨rfl,.inr (by rw [show k + 1 - 1 = k from rfl]; omega)⟩
 · have hkn : k = cn := by omega
   subst hkn
   rw [List.take_of_length_le (by omega)] at h300
   have hlen2 : ∀ c ∈ clauses,c.length ≤ 1000000 := by
     intro c hc
     have : c.length ≤ (clauses.map List.length).sum := le_sum_len hc
     omega
   refine ⟨_,g0,_,B9.get (i := 1) rfl,_,B9.get (i := 2) rfl,_,B9.get (i := 3) rfl,_,_,_,_,_,_,_,_,rfl,?_⟩
   refine c22 (hA.sub s9) (hL.sub s9) hlen2 (fun hF τ hs => ⟨τ,.refl _,0,rfl,br_iff.2 ⟨fun h => by simp at h,fun _ => ?_⟩⟩) fun _ τ e hs he => ⟨τ,.refl _,e,rfl,br_iff.2 ⟨fun _ => aw τ hs,fun h => by rcases he with rfl | rfl <;> simp at h⟩⟩
   obtain ⟨hFo,q1,q2⟩ := hF.fok
   have B9t : Blk τ b9 29 [.int .i64 i1,.int .i64 i2,.slice aa an ac,.slice ca k cc] := hs _ _ B9
   rw [← q1,← q2] at B9t
   have g0t := B9t.get (i := 0) rfl
   rw [e0] at g0t
   refine ⟨_,g0t,_,B9t.get (i := 1) rfl,_,B9t.get (i := 2) rfl,_,B9t.get (i := 3) rfl,_,_,_,_,_,_,_,_,rfl,?_⟩
   have sσ := s9.trans hs
   exact both (F := ⟨i1.toNat,i2.toNat,atoms,clauses⟩) hFo hlen2 (A := ⟨aa,an,ac⟩) (K := ⟨ca,k,cc⟩) B9t (hL.sub sσ) (hI.sub sσ) (by omega) fun τ2 hs2 => hQ τ2 (sσ.trans hs2)
def PH.whole (W : World) : PH := fun b => W.heap[b]?
theorem whole_le (W : World) : PH.le (PH.whole W) W := fun _ _ h => h
theorem whole_cell (W : World) (a : Addr) : (PH.whole W).cell? a = W.cell? a := rfl
section
variable {H : Type} {enc : TypeId × Value → H} {W : World} {sp : Nat → Bool} {held : Bool}
theorem wcells_get {a : Addr} {n : Nat} {cs : List Value} (h : W.cells? 0 a n = some cs) : cs.length = n ∧ ∀ i,i < n → W.cell? (a.add i) = cs[i]? := by
 unfold World.cells? at h
 rw [if_pos (Nat.zero_le _)] at h
 have hl := mapM_some_length h
 rw [List.length_range] at hl
 exact ⟨hl,fun i hi => mapM_some_get h i i (by simp [hi])⟩
theorem u3 : prog.underlying 3 = some (.int .i64) := by kernel_rfl
theorem u33 : prog.underlying 33 = some (.slice 3) := by kernel_rfl
theorem u27 : prog.underlying 27 = some (.slice 33) := by kernel_rfl
theorem u26 : prog.underlying 26 = some (.slice 50) := by kernel_rfl
theorem u50 : prog.underlying 50 = some (.struct #[Field.mk "X" 3 0 false "" "" 0, Field.mk "Y" 3 1 false "" "" 8, Field.mk "C" 3 2 false "" "" 16]) := by kernel_rfl
theorem u29 : prog.underlying 29 = some (.struct #[Field.mk "Ints" 3 0 false "" "" 0, Field.mk "Bools" 3 1 false "" "" 8, Field.mk "Atoms" 26 2 false "" "" 16, Field.mk "Clauses" 27 3 false "" "" 40]) := by kernel_rfl
theorem c3' : prog.cellsOf 3 = 1 := by kernel_rfl
theorem c33' : prog.cellsOf 33 = 1 := by kernel_rfl
theorem c50' : prog.cellsOf 50 = 3 := by kernel_rfl
theorem c26' : prog.cellsOf 26 = 1 := by kernel_rfl
theorem c27' : prog.cellsOf 27 = 1 := by kernel_rfl
theorem c29' : prog.cellsOf 29 = 4 := by kernel_rfl
theorem trod_int {fuel : Nat} {cs : List Value} {x : DataW H × List MemPlace} (h : DataW.trod enc prog W 0 sp held fuel 3 cs = some x) : ∃ n : Int,cs = [.int .i64 n] := by
 cases fuel with
 | zero => simp [DataW.trod] at h
 | succ n =>
   unfold DataW.trod at h
   rw [u3] at h
   split at h <;> simp_all
theorem trod_ints {fuel : Nat} {cs : List Value} {x : DataW H × List MemPlace} (h : DataW.trod enc prog W 0 sp held fuel 33 cs = some x) :
   ∃ (a : Option Addr) (m k : Nat) (l : List Int),cs = [.slice a m k] ∧ Ints (PH.whole W) a m l ∧ m ≤ k ∧ (x.1 = .nil ∧ m = 0 ∨ ∃ es rs,x.1 = .slice es rs ∧ es.length = m) := by
 rcases Go.ChangeShapes.open_ints u33 u3 c3' h with ⟨rfl,rfl⟩ | ⟨a,len,cap,zs,rfl,_,hl,_,hz,rfl,hcell,_⟩
 · exact ⟨none,0,0,[],rfl,⟨rfl,.inl rfl⟩,Nat.le_refl _,.inl ⟨rfl,rfl⟩⟩
 · have hzl : len ≤ zs.length := by rw [hz]; split <;> omega
   refine ⟨some a,len,cap,zs.take len,rfl,⟨by simp; omega,.inr ⟨a,rfl,fun i v hv => ?_⟩⟩,hl,.inr ⟨_,_,rfl,?_⟩⟩
   · rw [List.getElem?_map,List.getElem?_take] at hv
     split at hv
     · rename_i hi
       rw [whole_cell,hcell i (by omega)]
       rw [List.getElem?_eq_getElem (by omega)] at hv
       rw [List.getD_eq_getElem?_getD,List.getElem?_eq_getElem (by omega)]
       exact hv
     · cases hv
   · simp [Go.ChangeShapes.lits]; omega
theorem trod_dif {fuel : Nat} {cs : List Value} {x : DataW H × List MemPlace} (h : DataW.trod enc prog W 0 sp held fuel 50 cs = some x) : ∃ d : Dif,cs = [.int .i64 d.1,.int .i64 d.2.1,.int .i64 d.2.2] := by
 obtain ⟨xs,n,_,_,hl,hx,hf⟩ := DataW.trod_struct u50 h
 rw [c50'] at hl
 match cs,hl with
 | [a,b,c],_ =>
   have hx3 : xs.length = 3 := hx
   have f0 : DataW.trod enc prog W 0 sp held n 3 (([a, b, c].drop 0).take (prog.cellsOf 3)) = xs[0]? := hf 0 (Field.mk "X" 3 0 false "" "" 0) rfl
   have f1 : DataW.trod enc prog W 0 sp held n 3 (([a, b, c].drop 1).take (prog.cellsOf 3)) = xs[1]? := hf 1 (Field.mk "Y" 3 1 false "" "" 8) rfl
   have f2 : DataW.trod enc prog W 0 sp held n 3 (([a, b, c].drop 2).take (prog.cellsOf 3)) = xs[2]? := hf 2 (Field.mk "C" 3 2 false "" "" 16) rfl
   rw [c3'] at f0 f1 f2
   obtain ⟨y0,hy0⟩ : ∃ y,xs[0]? = some y := ⟨_,List.getElem?_eq_getElem (by omega)⟩
   obtain ⟨y1,hy1⟩ : ∃ y,xs[1]? = some y := ⟨_,List.getElem?_eq_getElem (by omega)⟩
   obtain ⟨y2,hy2⟩ : ∃ y,xs[2]? = some y := ⟨_,List.getElem?_eq_getElem (by omega)⟩
   rw [hy0] at f0; rw [hy1] at f1; rw [hy2] at f2
   obtain ⟨n0,e0⟩ := trod_int f0
   obtain ⟨n1,e1⟩ := trod_int f1
   obtain ⟨n2,e2⟩ := trod_int f2
   simp at e0 e1 e2
   exact ⟨(n0,n1,n2),by rw [e0,e1,e2]⟩
open Classical in
theorem trod_atoms {fuel : Nat} {cs : List Value} {x : DataW H × List MemPlace} (h : DataW.trod enc prog W 0 sp held fuel 26 cs = some x) :
   ∃ (a : Option Addr) (m k : Nat) (l : List Dif),cs = [.slice a m k] ∧ Atoms (PH.whole W) a m l ∧ m ≤ k ∧ (x.1 = .nil ∧ m = 0 ∨ ∃ es rs,x.1 = .slice es rs ∧ es.length = m) := by
 rcases DataW.trod_slice u26 h with ⟨rfl,rfl⟩ | ⟨a,len,cap,elems,rest,n,_,rfl,rfl,_,hl,_,hlen,hel,_,_⟩
 · exact ⟨none,0,0,[],rfl,⟨rfl,fun i d hd => by simp at hd⟩,Nat.le_refl _,.inl ⟨rfl,rfl⟩⟩
 · have key : ∀ i,i < len → ∃ d : Dif,W.cell? (a.add (i * 3)) = some (.int .i64 d.1) ∧ W.cell? ((a.add (i * 3)).add 1) = some (.int .i64 d.2.1) ∧ W.cell? ((a.add (i * 3)).add 2) = some (.int .i64 d.2.2) := by
     intro i hi
     have he := hel i hi
     rw [c50',List.getElem?_eq_getElem (by omega)] at he
     rw [Option.bind_eq_some_iff] at he
     obtain ⟨cs,h1,h2⟩ := he
     obtain ⟨d,rfl⟩ := trod_dif h2
     obtain ⟨_,hc⟩ := wcells_get h1
     have e0 : (a.add (i * 3)).add 0 = a.add (i * 3) := by simp [Addr.add]
     have g0 := hc 0 (by omega)
     rw [e0] at g0
     exact ⟨d,g0,hc 1 (by omega),hc 2 (by omega)⟩
   refine ⟨some a,len,cap,(List.range len).map fun i => if hi : i < len then (key i hi).choose else (0,0,0),rfl,⟨by simp,fun i d hd => ?_⟩,hl,.inr ⟨_,_,rfl,by simpa using hlen⟩⟩
   have hi : i < len := by have := (List.getElem?_eq_some_iff.1 hd).1; simpa using this
   rw [List.getElem?_map,List.getElem?_range hi] at hd
   simp only [Option.map_some,Option.some.injEq,dif_pos hi] at hd
   subst hd
   obtain ⟨q0,q1,q2⟩ := (key i hi).choose_spec
   exact ⟨a,rfl,q0,q1,q2⟩
theorem by50 : prog.bytesOf 50 = 24 := by kernel_rfl
theorem by33 : prog.bytesOf 33 = 24 := by kernel_rfl
theorem by3 : prog.bytesOf 3 = 8 := by kernel_rfl
theorem weightsAll_mem {e : TypeId} : ∀ {l : List (DataW H)} {d : DataW H},d ∈ l → ∀ n ∈ DataW.weights prog e d,n ∈ DataW.weightsAll prog e l
 | [],d,h,_,_ => by simp at h
 | y :: l,d,h,n,hn => by
   rw [DataW.weightsAll]
   rcases List.mem_cons.1 h with rfl | h
   · exact List.mem_append_left _ hn
   · exact List.mem_append_right _ (weightsAll_mem h n hn)
theorem slice_weight {t e : TypeId} (ht : prog.underlying t = some (.slice e)) {es rs : List (DataW H)} (h : ∀ n ∈ DataW.weights prog t (.slice es rs),n ≤ reachBytes) : (es.length + rs.length) * prog.bytesOf e ≤ reachBytes ∧ ∀ d ∈ es,∀ n ∈ DataW.weights prog e d,n ≤ reachBytes := by
 rw [DataW.weights,ht] at h
 exact ⟨h _ List.mem_cons_self,fun d hd n hn => h n (List.mem_cons_of_mem _ (List.mem_append_left _ (weightsAll_mem hd n hn)))⟩
open Classical in
theorem trod_clauses {fuel : Nat} {cs : List Value} {x : DataW H × List MemPlace} (h : DataW.trod enc prog W 0 sp held fuel 27 cs = some x) (hw : ∀ n ∈ DataW.weights prog 27 x.1,n ≤ reachBytes) :
   ∃ (a : Option Addr) (m k : Nat) (l : List (List Int)),cs = [.slice a m k] ∧ Lists (PH.whole W) a m l ∧ m ≤ k ∧ m ≤ 1152921504606846976 ∧ ∀ c ∈ l,c.length ≤ 1152921504606846976 := by
 rcases DataW.trod_slice u27 h with ⟨rfl,rfl⟩ | ⟨a,len,cap,elems,rest,n,_,rfl,rfl,_,hl,_,hlen,hel,_,_⟩
 · exact ⟨none,0,0,[],rfl,⟨rfl,fun i d hd => by simp at hd⟩,Nat.le_refl _,by omega,by simp⟩
 · obtain ⟨w1,w2⟩ := slice_weight u27 hw
   rw [by33] at w1
   have key : ∀ i,i < len → ∃ c : List Int,c.length ≤ 1152921504606846976 ∧ ∃ y m k,W.cell? (a.add i) = some (.slice y m k) ∧ Ints (PH.whole W) y m c ∧ m ≤ k := by
     intro i hi
     have he := hel i hi
     rw [c33',Nat.mul_one,List.getElem?_eq_getElem (by omega)] at he
     rw [Option.bind_eq_some_iff] at he
     obtain ⟨cs,h1,h2⟩ := he
     obtain ⟨y,m,k,c,rfl,hI,hmk,hd⟩ := trod_ints h2
     obtain ⟨_,hc⟩ := wcells_get h1
     have e0 : (a.add i).add 0 = a.add i := by simp [Addr.add]
     have g0 := hc 0 (by omega)
     rw [e0] at g0
     refine ⟨c,?_,y,m,k,g0,hI,hmk⟩
     rw [hI.1]
     rcases hd with ⟨_,h0⟩ | ⟨es,rs,h0,h3⟩
     · omega
     · have hm : (elems[i]'(by omega)).1 ∈ elems.map (·.1) := List.mem_map_of_mem (List.getElem_mem _)
       have w3 := w2 _ hm
       rw [h0] at w3
       have w4 := (slice_weight u33 w3).1
       rw [by3] at w4
       unfold reachBytes at w4
       omega
   refine ⟨some a,len,cap,(List.range len).map fun i => if hi : i < len then (key i hi).choose else [],rfl,⟨by simp,fun i c hc => ?_⟩,hl,?_,fun c hc => ?_⟩
   · have hi : i < len := by have := (List.getElem?_eq_some_iff.1 hc).1; simpa using this
     rw [List.getElem?_map,List.getElem?_range hi] at hc
     simp only [Option.map_some,Option.some.injEq,dif_pos hi] at hc
     subst hc
     obtain ⟨_,y,m,k,q1,q2,q3⟩ := (key i hi).choose_spec
     exact ⟨a,y,m,k,rfl,q1,q2,q3⟩
   · simp only [List.length_map] at w1
     unfold reachBytes at w1
     omega
   · obtain ⟨i,hi,rfl⟩ := List.mem_map.1 hc
     have hi : i < len := List.mem_range.1 hi
     rw [dif_pos hi]
     exact (key i hi).choose_spec.1
theorem trod_formula {v : Value} {d : DataW H} {ps : List MemPlace} (h : DataW.Trod enc prog W 0 sp held 29 v d ps) (hw : ∀ n ∈ DataW.weights prog 29 d,n ≤ reachBytes) :
   ∃ (i1 i2 : Int) (aa : Option Addr) (an ac : Nat) (ca : Option Addr) (cn cc : Nat) (atoms : List Dif) (clauses : List (List Int)),v.cells.toList = [.int .i64 i1,.int .i64 i2,.slice aa an ac,.slice ca cn cc] ∧ Atoms (PH.whole W) aa an atoms ∧ Lists (PH.whole W) ca cn clauses ∧ an ≤ ac ∧ cn ≤ cc ∧
     an ≤ 1152921504606846976 ∧ cn ≤ 1152921504606846976 ∧ ∀ c ∈ clauses,c.length ≤ 1152921504606846976 := by
 obtain ⟨fuel,h⟩ := h
 obtain ⟨xs,n,_,hd,hl,hx,hf⟩ := DataW.trod_struct u29 h
 rw [c29'] at hl
 generalize hcs : v.cells.toList = cs at *
 match cs,hl with
 | [a,b,c,e],_ =>
   have hx4 : xs.length = 4 := hx
   have f0 : DataW.trod enc prog W 0 sp held n 3 (([a, b, c, e].drop 0).take (prog.cellsOf 3)) = xs[0]? := hf 0 (Field.mk "Ints" 3 0 false "" "" 0) rfl
   have f1 : DataW.trod enc prog W 0 sp held n 3 (([a, b, c, e].drop 1).take (prog.cellsOf 3)) = xs[1]? := hf 1 (Field.mk "Bools" 3 1 false "" "" 8) rfl
   have f2 : DataW.trod enc prog W 0 sp held n 26 (([a, b, c, e].drop 2).take (prog.cellsOf 26)) = xs[2]? := hf 2 (Field.mk "Atoms" 26 2 false "" "" 16) rfl
   have f3 : DataW.trod enc prog W 0 sp held n 27 (([a, b, c, e].drop 3).take (prog.cellsOf 27)) = xs[3]? := hf 3 (Field.mk "Clauses" 27 3 false "" "" 40) rfl
   rw [c3'] at f0 f1
   rw [c26'] at f2
   rw [c27'] at f3
   match xs,hx4 with
   | [y0,y1,y2,y3],_ =>
     have hdd : d = .agg [y0.1,y1.1,y2.1,y3.1] := by simpa using congrArg Prod.fst hd
     subst hdd
     rw [DataW.weights,u29] at hw
     have hwA : ∀ n ∈ DataW.weights prog 26 y2.1,n ≤ reachBytes := fun n hn => hw n (by simp [DataW.weightsEach,hn])
     have hwC : ∀ n ∈ DataW.weights prog 27 y3.1,n ≤ reachBytes := fun n hn => hw n (by simp [DataW.weightsEach,hn])
     obtain ⟨n0,e0⟩ := trod_int f0
     obtain ⟨n1,e1⟩ := trod_int f1
     obtain ⟨aa,an,ac,atoms,e2,hA,ha,hAd⟩ := trod_atoms f2
     obtain ⟨ca,cn,cc,clauses,e3,hC,hc,hcn,hcl⟩ := trod_clauses f3 hwC
     simp at e0 e1 e2 e3
     refine ⟨n0,n1,aa,an,ac,ca,cn,cc,atoms,clauses,by rw [e0,e1,e2,e3],hA,hC,ha,hc,?_,hcn,hcl⟩
     rcases hAd with ⟨_,h0⟩ | ⟨es,rs,h0,h1⟩
     · omega
     · rw [h0] at hwA
       have := (slice_weight u26 hwA).1
       rw [by50] at this
       unfold reachBytes at this
       omega
end
section
variable {H : Type} {enc : TypeId × Value → H} {W : World} {sp : Nat → Bool} {held : Bool}
end
end Go.Proofs.Ythfnjogadngfiaa
namespace Go.Proofs.Ythfnjogadngfiaa.PropagateAny
open Go.ChangeShapes Go.WideShapes Go.ChangeAt Go.RowKit Go.Sl Go.Sv
theorem own : ownKnob Try.prog.godebug = none := by kernel_rfl
theorem laidOut : laidOutB Try.prog = true := by kernel_rfl
theorem walkOf {f : FuncId} {args : Array Value} {W : World} (h : C f args (fun v τ => v = .bool true ∧ (PH.whole W).sub τ) (PH.whole W)) : Calls Try.prog f args W fun e w' => e = .returned (.bool true) ∧ Below W.heap.size W w' := by
 have hm : prog.follows .mixedOrders = true := by kernel_rfl
 refine ((ICall.calls hm SemCall.hc) _ _ _ _ W h (whole_le W)).mono fun e w' hcp => ?_
 obtain ⟨v,τ,rfl,⟨rfl,hs⟩,hle,hfr⟩ := hcp
 refine ⟨rfl,hfr.os,hfr.tape,hfr.output,hfr.size,fun k hk => ?_⟩
 have hg : W.heap[k]? = some W.heap[k] := Array.getElem?_eq_getElem hk
 rw [hg]
 exact hle _ _ (hs _ _ hg)
theorem lifted (os : Os) (started : os.Started) (H : Type) (enc : TypeId × Value → H) :
   ReturnsInHanded {} Try.checked os 11 .any (Rows.propagateAnySpec.pre6 enc Try.prog Try.f11 Rows.propagateAnyRow.domain false) (Rows.propagateAnySpec.post enc Try.prog Try.f11 false true false false) := by
 refine returnsInHanded_of_change_sized (C := Try.checked) own started (by kernel_rfl) Try.func11
   (ChangeSpec.witness6 (enc := enc) (C := Try.checked) false ⟨#[],#[.agg #[.int .i64 0,.int .i64 0,.slice none 0 0,.slice none 0 0],.slice none 0 0],[]⟩ 8 (by kernel_rfl) (by kernel_rfl) (by kernel_rfl) (by kernel_rfl)) ?_
 intro W base args ds gs before hval0 hW hcnd0 hsz0 _
 have hsz : (DataW.weightsEach Try.prog (Try.f11.params.toList ++ Rows.propagateAnySpec.plain.varTypes Try.prog) (ds ++ gs)).all (· ≤ reachBytes) = true := hsz0
 clear hsz0
 have hval : ∀ (j : Nat) t v,Try.f11.params[j]? = some t → args[j]? = some v → Value.okWide Try.prog W .any base t v := hval0
 have hW' := hW
 obtain ⟨p,q,hA0,hV,rfl,hfz,hnd⟩ := hW
 have hA : DataW.TrodAll enc Try.prog W 0 (fun _ => true) true Try.f11.params.toList args.toList ds p := hA0
 rw [Try.params11] at hA hval hsz
 obtain ⟨v0,vs0,d0,ds0,p0,q0,hargs0,rfl,rfl,h0,r0⟩ := trodAll_cons hA
 obtain ⟨v1,vs1,d1,ds1,p1,q1,hargs1,rfl,rfl,h1,r1⟩ := trodAll_cons r0
 obtain ⟨rfl,rfl,rfl⟩ := trodAll_nil r1
 obtain rfl : args = #[v0,v1] := by cases args; simp_all
 obtain ⟨rfl,rfl⟩ := trodVars_none hV
 obtain ⟨cs0,rfl,hcsz0⟩ := okWide_struct Try.underlying29 (hval 0 29 v0 rfl rfl)
 have k0 := h0
 have lt0 : ∀ x ∈ p0,x.block < W.heap.size := by obtain ⟨m,hm⟩ := k0; exact DataW.trod_lt m _ _ _ hm
 have hw0 : ∀ n ∈ DataW.weights prog 29 d0,n ≤ reachBytes := by
   intro n hn
   have := List.all_eq_true.1 hsz n (by simp only [List.cons_append,DataW.weightsEach,List.mem_append]; first | exact Or.inl hn | exact Or.inr (Or.inl hn) | exact Or.inr (Or.inr (Or.inl hn)))
   simpa using this
 obtain ⟨i10,i20,aa0,an0,ac0,ca0,cn0,cc0,atoms0,clauses0,hcs0,hAt0,hLi0,ha0,hcc0,han0,hcn0,hlen0⟩ := trod_formula h0 hw0
 obtain rfl : cs0 = #[.int .i64 i10,.int .i64 i20,.slice aa0 an0 ac0,.slice ca0 cn0 cc0] := by
   have : cs0.toList = _ := hcs0
   cases cs0; simp_all
 obtain ⟨a1,m1,c1,rfl⟩ := okWide_slice Try.underlying33 (hval 1 33 v1 rfl rfl)
 have k1 := h1
 have lt1 : ∀ x ∈ p1,x.block < W.heap.size := by obtain ⟨m,hm⟩ := k1; exact DataW.trod_lt m _ _ _ hm
 have hw1 : ∀ n ∈ DataW.weights prog 33 d1,n ≤ reachBytes := by
   intro n hn
   have := List.all_eq_true.1 hsz n (by simp only [List.cons_append,DataW.weightsEach,List.mem_append]; first | exact Or.inl hn | exact Or.inr (Or.inl hn) | exact Or.inr (Or.inr (Or.inl hn)))
   simpa using this
 obtain ⟨l1,hI1,hmk1,hd1⟩ : ∃ l,Ints (PH.whole W) a1 m1 l ∧ m1 ≤ c1 ∧ m1 ≤ 1152921504606846976 := by
   obtain ⟨fu,hm⟩ := h1
   obtain ⟨a,m,k,l,e,hI,hmk,hd⟩ := trod_ints hm
   simp [Value.cells] at e
   obtain ⟨rfl,rfl,rfl⟩ := e
   refine ⟨l,hI,hmk,?_⟩
   rcases hd with ⟨_,h0⟩ | ⟨es,rs,h0,h3⟩
   · omega
   · have h0 : d1 = DataW.slice es rs := h0
     rw [h0] at hw1
     have w4 := (slice_weight u33 hw1).1
     rw [by3] at w4
     unfold reachBytes at w4
     omega
 clear hA0 hval0
 refine (walkOf (c11 hAt0 hLi0 ha0 hcc0 han0 hcn0 hlen0 hI1 hd1 fun τ hs => ⟨rfl,hs⟩)).mono fun e W' ⟨he,bel⟩ => ?_
 subst he
 exact ⟨_,rfl,_,_,_,[],_,[],hW',trodAll_mk1 (shut_bool Try.underlying4 _),trodAll_cons_mk (Below.trod laidOut (by kernel_rfl) (of_decide_eq_true (by kernel_rfl)) k0 bel lt0) (trodAll_cons_mk (Below.trod laidOut (by kernel_rfl) (of_decide_eq_true (by kernel_rfl)) k1 bel lt1) trodAll_mk0),rfl,bel.frame _,fun h => by cases h⟩
theorem over : Rows.propagateAnyRow.holds Try.pinned (OpenSpec.ofChange Rows.propagateAnySpec) :=
 OpenClaim.holds_of_wide 11 Try.f11 rfl rfl rfl rfl rfl rfl rfl ⟨rfl,rfl,rfl,rfl,rfl⟩ rfl rfl rfl rfl rfl (by kernel_rfl) Try.func11 (by kernel_rfl)
   (of_decide_eq_true (by kernel_rfl)) (by unfold Func.isWrapper; first | (rw [if_pos (by decide +kernel)]; kernel_rfl) | (rw [if_neg (by decide +kernel)]; exact ⟨rfl,rfl⟩))
   (fun os started H enc _ => lifted os started H enc)
theorem proved : Rows.PropagateAnySaid := over
end Go.Proofs.Ythfnjogadngfiaa.PropagateAny
