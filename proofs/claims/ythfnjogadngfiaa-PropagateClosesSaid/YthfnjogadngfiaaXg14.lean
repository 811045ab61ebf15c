/- PropagateCloses answers true at every input that the row lets in; no condition beyond the row's own. -/
import Derived.ChangeArms
import Derived.ChangeSlices
import Derived.DataReads
import Derived.OpenShut
import Derived.WalkKit
import Derived.ProofKit
import Derived.ShutString
import Derived.ChangeOld
import Derived.Below
import Derived.Carry
import Derived.SizedLaws
import Derived.Test.YthfnjogadngfiaaRows
import Derived.Test.YthfnjogadngfiaaXg13
set_option maxRecDepth 100000
set_option linter.unusedVariables false
set_option linter.unusedSimpArgs false
namespace Go.Proofs.Ythfnjogadngfiaa
open Go.Sl Go.Sv
def litOf (B v : Int) : Int := if v.tmod 2 = 1 then -(1 + (v.tdiv 2).tmod B) else 1 + (v.tdiv 2).tmod B
def difOf (I x y : Int) : Dif := (x.tmod I,((x.tmod I + 1) + y.tmod (I - 1)).tmod I,(x.tdiv 16).tmod 7 - 4)
def atR (l : List Int) (I : Int) : Nat → Nat × List Dif
 | 0 => (0,[])
 | i + 1 => (nxk l (nxk l (atR l I i).1),(atR l I i).2 ++ [difOf I (nxv l (atR l I i).1) (nxv l (nxk l (atR l I i).1))])
def litS (l : List Int) (B : Int) (k0 : Nat) : Nat → Nat × List Int
 | 0 => (k0,[])
 | i + 1 => (nxk l (litS l B k0 i).1,(litS l B k0 i).2 ++ [litOf B (nxv l (litS l B k0 i).1)])
def clS (l : List Int) (B : Int) (k0 : Nat) : Nat → Nat × List (List Int)
 | 0 => (k0,[])
 | i + 1 => ((litS l B (nxk l (clS l B k0 i).1) (((nxv l (clS l B k0 i).1).tmod 4).toNat + 1)).1,(clS l B k0 i).2 ++ [(litS l B (nxk l (clS l B k0 i).1) (((nxv l (clS l B k0 i).1).tmod 4).toNat + 1)).2])
def clE (l : List Int) (B : Int) (k0 : Nat) : Nat → Nat → List (List Int)
 | 0,i => (clS l B k0 i).2
 | f + 1,i => if (clS l B k0 i).1 < l.length then clE l B k0 f (i + 1) else (clS l B k0 i).2
def probF (s0 s1 s2 : Int) (l : List Int) : Fm :=
 ⟨(2 + s0.tmod 5).toNat,((atR l (2 + s0.tmod 5) (1 + s1.tmod 12).toNat).2.length + s2.tmod 7).toNat,(atR l (2 + s0.tmod 5) (1 + s1.tmod 12).toNat).2,
   clE l ((atR l (2 + s0.tmod 5) (1 + s1.tmod 12).toNat).2.length + s2.tmod 7) (atR l (2 + s0.tmod 5) (1 + s1.tmod 12).toNat).1 40 0⟩
theorem tm {a b : Int} (h : 0 ≤ a) (hb : 0 < b) : 0 ≤ a.tmod b ∧ a.tmod b < b := ⟨Int.tmod_nonneg b h,Int.tmod_lt_of_pos a hb⟩
theorem td {a b : Int} (h : 0 ≤ a) (hb : 0 ≤ b) : 0 ≤ a.tdiv b ∧ a.tdiv b ≤ a := ⟨Int.tdiv_nonneg h hb,Int.tdiv_le_self b h⟩
theorem tm_id {a b : Int} (h : 0 ≤ a) (hb : a < b) : a.tmod b = a := Int.tmod_eq_of_lt h hb
theorem atR_len {l : List Int} {I : Int} : ∀ i,(atR l I i).2.length = i
 | 0 => rfl
 | i + 1 => by rw [atR,List.length_append,atR_len i]; rfl
theorem atR_le {l : List Int} {I : Int} : ∀ i,(atR l I i).1 ≤ l.length
 | 0 => Nat.zero_le _
 | i + 1 => by rw [atR]; exact nxk_le (nxk_le (atR_le i))
theorem litS_len {l : List Int} {B : Int} {k0 : Nat} : ∀ i,(litS l B k0 i).2.length = i
 | 0 => rfl
 | i + 1 => by rw [litS,List.length_append,litS_len i]; rfl
theorem clS_len {l : List Int} {B : Int} {k0 : Nat} : ∀ i,(clS l B k0 i).2.length = i
 | 0 => rfl
 | i + 1 => by rw [clS,List.length_append,clS_len i]; rfl
theorem difOf_ok {I x y : Int} (hI : 2 ≤ I) (hI6 : I ≤ 6) (hx : 0 ≤ x) (hy : 0 ≤ y) : 0 ≤ (difOf I x y).1 ∧ (difOf I x y).1 < I ∧ 0 ≤ (difOf I x y).2.1 ∧ (difOf I x y).2.1 < I ∧ (difOf I x y).1 ≠ (difOf I x y).2.1 ∧ -4 ≤ (difOf I x y).2.2 ∧ (difOf I x y).2.2 ≤ 2 := by
 unfold difOf
 obtain ⟨a1,a2⟩ := tm hx (show (0 : Int) < I by omega)
 obtain ⟨b1,b2⟩ := tm hy (show (0 : Int) < I - 1 by omega)
 obtain ⟨c1,c2⟩ := tm (td hx (show (0 : Int) ≤ 16 by omega)).1 (show (0 : Int) < 7 by omega)
 generalize x.tmod I = u at *
 generalize y.tmod (I - 1) = w at *
 generalize (x.tdiv 16).tmod 7 = z at *
 obtain ⟨d1,d2⟩ := tm (show 0 ≤ u + 1 + w by omega) (show (0 : Int) < I by omega)
 refine ⟨a1,a2,d1,d2,?_,by show -4 ≤ z - 4; omega,by show z - 4 ≤ 2; omega⟩
 show u ≠ (u + 1 + w).tmod I
 intro e
 by_cases hlt : u + 1 + w < I
 · rw [tm_id (by omega) hlt] at e; omega
 · have : (u + 1 + w).tmod I = u + 1 + w - I := by
     rw [Int.tmod_eq_emod_of_nonneg (by omega),← Int.sub_emod_right,Int.emod_eq_of_lt (by omega) (by omega)]
   omega
theorem litOf_ok {B v : Int} (hB : 1 ≤ B) (hv : 0 ≤ v) : LitN B.toNat (litOf B v) := by
 unfold litOf LitN
 obtain ⟨c1,c2⟩ := tm (td hv (show (0 : Int) ≤ 2 by omega)).1 (show (0 : Int) < B by omega)
 split <;> omega
theorem atR_ok {l : List Int} (hl : ∀ x ∈ l,0 ≤ x ∧ x < 256) {I : Int} (hI : 2 ≤ I) (hI6 : I ≤ 6) : ∀ i,∀ d ∈ (atR l I i).2,0 ≤ d.1 ∧ d.1 < I ∧ 0 ≤ d.2.1 ∧ d.2.1 < I ∧ d.1 ≠ d.2.1 ∧ -4 ≤ d.2.2 ∧ d.2.2 ≤ 2
 | 0,d,h => by simp [atR] at h
 | i + 1,d,h => by
   rw [atR,List.mem_append] at h
   rcases h with h | h
   · exact atR_ok hl hI hI6 i d h
   · simp at h; subst h
     exact difOf_ok hI hI6 (nxv_rng hl _).1 (nxv_rng hl _).1
theorem litS_ok {l : List Int} (hl : ∀ x ∈ l,0 ≤ x ∧ x < 256) {B : Int} (hB : 1 ≤ B) {k0 : Nat} : ∀ i,∀ x ∈ (litS l B k0 i).2,LitN B.toNat x
 | 0,d,h => by simp [litS] at h
 | i + 1,d,h => by
   rw [litS,List.mem_append] at h
   rcases h with h | h
   · exact litS_ok hl hB i d h
   · simp at h; subst h
     exact litOf_ok hB (nxv_rng hl _).1
theorem clS_ok {l : List Int} (hl : ∀ x ∈ l,0 ≤ x ∧ x < 256) {B : Int} (hB : 1 ≤ B) {k0 : Nat} : ∀ i,∀ c ∈ (clS l B k0 i).2,c.length ≤ 4 ∧ ∀ x ∈ c,LitN B.toNat x
 | 0,d,h => by simp [clS] at h
 | i + 1,d,h => by
   rw [clS,List.mem_append] at h
   rcases h with h | h
   · exact clS_ok hl hB i d h
   · simp at h; subst h
     refine ⟨?_,litS_ok hl hB _⟩
     rw [litS_len]
     have := (tm (nxv_rng hl (clS l B k0 i).1).1 (show (0 : Int) < 4 by omega)).2
     omega
theorem clE_ok {l : List Int} (hl : ∀ x ∈ l,0 ≤ x ∧ x < 256) {B : Int} (hB : 1 ≤ B) {k0 : Nat} : ∀ f i,(clE l B k0 f i).length ≤ i + f ∧ ∀ c ∈ clE l B k0 f i,c.length ≤ 4 ∧ ∀ x ∈ c,LitN B.toNat x
 | 0,i => by rw [clE,clS_len]; exact ⟨by omega,clS_ok hl hB i⟩
 | f + 1,i => by
   rw [clE]
   split
   · have := clE_ok hl hB (k0 := k0) f (i + 1)
     exact ⟨by omega,this.2⟩
   · rw [clS_len]; exact ⟨by omega,clS_ok hl hB i⟩
structure PrOk (F : Fm) : Prop where
 fok : FOk F
 bools : 1 ≤ F.bools ∧ F.bools ≤ 18
 ints : 2 ≤ F.ints ∧ F.ints ≤ 6
 an : 1 ≤ F.atoms.length ∧ F.atoms.length ≤ 12
 cn : F.clauses.length ≤ 40
 cl : ∀ c ∈ F.clauses,c.length ≤ 4
 at' : ∀ d ∈ F.atoms,-4 ≤ d.2.2 ∧ d.2.2 ≤ 2
theorem probF_ok {s0 s1 s2 : Int} (h0 : 0 ≤ s0) (h1 : 0 ≤ s1) (h2 : 0 ≤ s2) {l : List Int} (hl : ∀ x ∈ l,0 ≤ x ∧ x < 256) : PrOk (probF s0 s1 s2 l) := by
 obtain ⟨a1,a2⟩ := tm h0 (show (0 : Int) < 5 by omega)
 obtain ⟨b1,b2⟩ := tm h1 (show (0 : Int) < 12 by omega)
 obtain ⟨c1,c2⟩ := tm h2 (show (0 : Int) < 7 by omega)
 unfold probF
 generalize s0.tmod 5 = u at *
 generalize s1.tmod 12 = w at *
 generalize s2.tmod 7 = z at *
 have hat := atR_ok hl (I := 2 + u) (by omega) (by omega) (1 + w).toNat
 have hlen : (atR l (2 + u) (1 + w).toNat).2.length = (1 + w).toNat := atR_len _
 generalize (atR l (2 + u) (1 + w).toNat).1 = k at *
 generalize (atR l (2 + u) (1 + w).toNat).2 = at' at *
 have hcl := clE_ok hl (B := (at'.length : Int) + z) (by omega) (k0 := k) 40 0
 generalize clE l ((at'.length : Int) + z) k 40 0 = cs at *
 refine ⟨⟨?_,?_,?_,?_,?_,?_⟩,⟨?_,?_⟩,⟨?_,?_⟩,⟨?_,?_⟩,?_,?_,?_⟩ <;> dsimp only
 · omega
 · omega
 · omega
 · intro d hd
   have := hat d hd
   refine ⟨this.1,?_,this.2.2.1,?_,this.2.2.2.2.1,by omega,by omega⟩ <;> omega
 · exact fun c hc => (hcl.2 c hc).2
 · omega
 · omega
 · omega
 · omega
 · omega
 · omega
 · omega
 · omega
 · exact fun c hc => (hcl.2 c hc).1
 · exact fun d hd => (hat d hd).2.2.2.2.2
theorem wi {x : Int} (h : 0 ≤ x ∧ x < 256) : IntKind.wrap .i64 x = x := w64 (by omega) (by omega)
theorem nx256 {l : List Int} (hl : ∀ x ∈ l,0 ≤ x ∧ x < 256) (k : Nat) : (nxv l k).tmod 256 = nxv l k := tm_id (nxv_rng hl k).1 (nxv_rng hl k).2
theorem c21 {σ : PH} {s0 s1 s2 : Int} {a : Option Addr} {n c : Nat} {l : List Int} (hU : U8s σ a n l) (hc : n ≤ c) (h0 : 0 ≤ s0 ∧ s0 < 256) (h1 : 0 ≤ s1 ∧ s1 < 256) (h2 : 0 ≤ s2 ∧ s2 < 256) {Q : Value → PH → Prop}
   (hQ : ∀ φ τ A K,σ.sub φ → FR φ τ A K (probF s0 s1 s2 (l.take 300)).atoms (probF s0 s1 s2 (l.take 300)).clauses → A.n ≤ A.c → K.n ≤ K.c →
     Q (.agg #[.int .i64 (probF s0 s1 s2 (l.take 300)).ints,.int .i64 (probF s0 s1 s2 (l.take 300)).bools,A.v,K.v]) τ) :
   C 21 #[.agg #[.int .u8 s0,.int .u8 s1,.int .u8 s2,.slice a n c]] Q σ := by
 refine go (E21_0 _ _ _ _ _ _ _ _ _) ?_
 unfold S21_0
 have e0 : ∀ b : Nat,(Addr.mk b 0 none).add 0 = ⟨b,0,none⟩ := fun b => rfl
 have hp := probF_ok h0.1 h1.1 h2.1 (hU.take 300).rng
 obtain ⟨l',hl'⟩ : ∃ l',l' = l.take 300 := ⟨_,rfl⟩
 rw [← hl'] at hQ hp
 have hU' : U8s σ a (min 300 n) l' := by rw [hl']; exact hU.take 300
 have hl := hU'.rng
 have hll := hU'.len
 clear hl'
 obtain ⟨u1,u2⟩ := tm h0.1 (show (0 : Int) < 5 by omega)
 obtain ⟨v1,v2⟩ := tm h1.1 (show (0 : Int) < 12 by omega)
 obtain ⟨z1,z2⟩ := tm h2.1 (show (0 : Int) < 7 by omega)
 obtain ⟨I,hI⟩ : ∃ I : Int,I = 2 + s0.tmod 5 := ⟨_,rfl⟩
 obtain ⟨N,hN⟩ : ∃ N : Nat,N = (1 + s1.tmod 12).toNat := ⟨_,rfl⟩
 have wI : IntKind.wrap .i64 ((2 : Int) + Int.tmod (IntKind.wrap .i64 s0) 5) = I := by rw [wi h0,w64 (by omega) (by omega),hI]
 have wN : IntKind.wrap .i64 ((1 : Int) + Int.tmod (IntKind.wrap .i64 s1) 12) = (N : Int) := by rw [wi h1,w64 (by omega) (by omega),hN]; omega
 intro b7 h7
 have s7 := PH.sub_set (o := .cells #[.int .u8 s0,.int .u8 s1,.int .u8 s2,.slice a n c] 25) h7
 have B7 : Blk (σ.set b7 (.cells #[.int .u8 s0,.int .u8 s1,.int .u8 s2,.slice a n c] 25)) b7 25 [.int .u8 s0,.int .u8 s1,.int .u8 s2,.slice a n c] := set_self
 generalize σ.set b7 (.cells #[.int .u8 s0,.int .u8 s1,.int .u8 s2,.slice a n c] 25) = φ at *
 intro b8 h8
 have s8 := PH.sub_set (o := .cells #[.int .i64 0,.int .i64 0,.slice none 0 0,.slice none 0 0] 29) h8
 have B8 : Blk (φ.set b8 (.cells #[.int .i64 0,.int .i64 0,.slice none 0 0,.slice none 0 0] 29)) b8 29 [.int .i64 0,.int .i64 0,.slice none 0 0,.slice none 0 0] := set_self
 generalize φ.set b8 (.cells #[.int .i64 0,.int .i64 0,.slice none 0 0,.slice none 0 0] 29) = ω8 at *
 refine ⟨_,s8.cell (B7.get (i := 0) rfl),_,rfl,by omega,rfl,?_⟩
 intro b11 h11
 simp only [newSet,newSet0,newCell,newCell0,newFroz,newFroz0,List.setIfInBounds_toArray,List.set_cons_zero,List.set_cons_succ,List.getElem?_toArray,List.getElem?_cons_zero,List.getElem?_cons_succ,Option.some.injEq,exists_eq',true_and,exists_eq_left']
 rw [wI]
 have s11 := PH.sub_set (o := .cells #[.int .i64 I,.int .i64 0,.slice none 0 0,.slice none 0 0] 29) h11
 have B11 : Blk (ω8.set b11 (.cells #[.int .i64 I,.int .i64 0,.slice none 0 0,.slice none 0 0] 29)) b11 29 [.int .i64 I,.int .i64 0,.slice none 0 0,.slice none 0 0] := set_self
 generalize ω8.set b11 (.cells #[.int .i64 I,.int .i64 0,.slice none 0 0,.slice none 0 0] 29) = ω11 at *
 have B7' := s11 _ _ (s8 _ _ B7)
 refine ⟨_,Blk.get (i := 3) B7' rfl,_,_,_,rfl,_,Blk.get (i := 3) B7' rfl,_,_,_,rfl,by split <;> omega,by split <;> omega,?_⟩
 intro b24 h24
 have wmin : (if (300 : Int) < (n : Int) then (300 : Int) else (n : Int)).toNat = min 300 n := by split <;> omega
 rw [wmin]
 have s24 := PH.sub_set (o := .cells #[.slice a (min 300 n) c,.int .i64 0] 90) h24
 have B24 : Blk (ω11.set b24 (.cells #[.slice a (min 300 n) c,.int .i64 0] 90)) b24 90 [.slice a (min 300 n) c,.int .i64 0] := set_self
 generalize ω11.set b24 (.cells #[.slice a (min 300 n) c,.int .i64 0] 90) = ω24 at *
 have n8 : φ b8 = none := h8
 have n11 : φ b11 = none := new_of s8 h11
 have n24 : φ b24 = none := new_of (s8.trans s11) h24
 have d8 : b8 ≠ b11 := by rintro rfl; rw [B8] at h11; cases h11
 have hFB0 : FB φ ω24 b11 I 0 ⟨none,0,0⟩ ⟨none,0,0⟩ [] [] := ⟨⟨(s8.trans s11).trans s24,own_nil,by simp,⟨[],own_nil,rfl,by simp⟩,by simp⟩,s24 _ _ B11,n11⟩
 have hT0 : Tape φ ω24 b24 ⟨a,min 300 n,c⟩ l' 0 := ⟨B24,n24,hU'.sub s7,Nat.zero_le _⟩
 have hR0 : Blk ω24 b8 29 [.int .i64 0,.int .i64 0,.slice none 0 0,.slice none 0 0] := s24 _ _ (s11 _ _ B8)
 unfold S21_1
 refine iloopS_for (G := Sli) (fun k _ => (ptr b7,ptr b8,ptr b11,ptr b24,(k : Int))) (fun k A ω => FB φ ω b11 I 0 A ⟨none,0,0⟩ (atR l' I k).2 [] ∧ Tape φ ω b24 ⟨a,min 300 n,c⟩ l' (atR l' I k).1 ∧ Blk ω b8 29 [.int .i64 0,.int .i64 0,.slice none 0 0,.slice none 0 0]) N ?_ (g := ⟨none,0,0⟩) ⟨hFB0,hT0,hR0⟩
 rintro k A ω hk ⟨hF,hT,hR⟩ R hRR
 unfold S21_2
 dsimp only
 have hP : Blk ω b7 25 [.int .u8 s0,.int .u8 s1,.int .u8 s2,.slice a n c] := hF.sub _ _ B7
 refine ⟨_,hP.get (i := 1) rfl,_,rfl,by omega,rfl,?_⟩
 rw [wN]
 refine br_dec.2 ⟨fun hlt => ?_,fun hge => ?_⟩
 · refine c41 hT hF.sub (by omega) (by omega) fun τ st1 hs1 hT1 => ?_
   rw [nx256 hl]
   have hF1 := hF.step1 hT.blk (by decide) hT.new st1
   have hR1 := hR.keep st1 (by rintro rfl; exact absurd rfl (ne_ty hT.blk hR (by decide)))
   have g0 := hF1.blk.get (i := 0) rfl
   rw [e0] at g0
   refine ⟨τ,.refl _,_,rfl,_,g0,_,rfl,by omega,rfl,by omega,rfl,by omega,rfl,?_⟩
   intro b43 h43
   simp only [newSet,newSet0,newCell,newCell0,newFroz,newFroz0,List.setIfInBounds_toArray,List.set_cons_zero,List.set_cons_succ,List.getElem?_toArray,List.getElem?_cons_zero,List.getElem?_cons_succ,Option.some.injEq,exists_eq',true_and,exists_eq_left']
   obtain ⟨x1,x2⟩ := nxv_rng hl (atR l' I k).1
   obtain ⟨y1,y2⟩ := nxv_rng hl (nxk l' (atR l' I k).1)
   generalize hx : nxv l' (atR l' I k).1 = x at *
   generalize hy : nxv l' (nxk l' (atR l' I k).1) = y at *
   obtain ⟨q1,q2⟩ := td x1 (show (0 : Int) ≤ 16 by omega)
   obtain ⟨q3,q4⟩ := tm q1 (show (0 : Int) < 7 by omega)
   obtain ⟨q5,q6⟩ := tm x1 (show (0 : Int) < I by omega)
   obtain ⟨q7,q8⟩ := tm y1 (show (0 : Int) < I - 1 by omega)
   have wC : IntKind.wrap .i64 (Int.tmod (IntKind.wrap .i64 (Int.tdiv x 16)) 7 - 4) = (x.tdiv 16).tmod 7 - 4 := by
     rw [w64 (n := x.tdiv 16) (by omega) (by omega),w64 (by omega) (by omega)]
   rw [wC]
   have s43 := PH.sub_set (o := .cells #[.int .i64 (x.tmod I),.int .i64 0,.int .i64 ((x.tdiv 16).tmod 7 - 4)] 50) h43
   have B43 : Blk (τ.set b43 (.cells #[.int .i64 (x.tmod I),.int .i64 0,.int .i64 ((x.tdiv 16).tmod 7 - 4)] 50)) b43 50 [.int .i64 (x.tmod I),.int .i64 0,.int .i64 ((x.tdiv 16).tmod 7 - 4)] := set_self
   generalize τ.set b43 (.cells #[.int .i64 (x.tmod I),.int .i64 0,.int .i64 ((x.tdiv 16).tmod 7 - 4)] 50) = τ2 at *
   have hF2 := hF1.sub' s43
   have hT2 : Tape φ τ2 b24 ⟨a,min 300 n,c⟩ l' (nxk l' (atR l' I k).1) := hT1.keep (M := fun _ => False) s43.step (fun h => h)
   have hR2 := s43 _ _ hR1
   have n43 : φ b43 = none := new_of hF1.sub h43
   have g0b := hF2.blk.get (i := 0) rfl
   rw [e0] at g0b
   have g43 := B43.get (i := 0) rfl
   rw [e0] at g43
   refine ⟨_,rfl,_,g0b,_,rfl,_,g0b,_,rfl,?_⟩
   refine c41 hT2 hF2.sub (by omega) (by omega) fun τ3 st3 hs3 hT3 => ?_
   rw [nx256 hl,hy]
   have hF3 := hF2.step1 hT2.blk (by decide) hT2.new st3
   have hR3 : Blk τ3 b8 29 _ := Blk.keep st3 (by rintro rfl; exact absurd rfl (ne_ty hT2.blk hR2 (by decide))) hR2
   have B43c := B43.keep st3 (by rintro rfl; exact absurd rfl (ne_ty hT2.blk B43 (by decide)))
   have g0c := hF3.blk.get (i := 0) rfl
   rw [e0] at g0c
   have g43c := B43c.get (i := 0) rfl
   rw [e0] at g43c
   have wY : Int.tmod (IntKind.wrap .i64 (IntKind.wrap .i64 (x.tmod I + 1) + y.tmod (IntKind.wrap .i64 (I - 1)))) I = (x.tmod I + 1 + y.tmod (I - 1)).tmod I := by
     rw [w64 (n := x.tmod I + 1) (by omega) (by omega),w64 (n := I - 1) (by omega) (by omega),w64 (by omega) (by omega)]
   refine ⟨τ3,.refl _,g0c.trans g0b.symm,g0c.trans g0b.symm,g43c,_,rfl,by rw [w64 (by omega) (by omega)]; omega,by omega,⟨_,B43c.get (i := 1) rfl⟩,B43c.froz 1,?_⟩
   rw [wY]
   obtain ⟨w,hw⟩ : ∃ w,w = (x.tmod I + 1 + y.tmod (I - 1)).tmod I := ⟨_,rfl⟩
   rw [← hw]
   have st4 : Step (· = b43) τ3 (τ3.setCell ((ptr b43).add 1) (.int .i64 w)) := setCell_step.weaken fun b hb => hb.trans (add_block _ _)
   have B43d : Blk (τ3.setCell ((ptr b43).add 1) (.int .i64 w)) b43 50 [.int .i64 (x.tmod I),.int .i64 w,.int .i64 ((x.tdiv 16).tmod 7 - 4)] := B43c.set 1 (.int .i64 w)
   have nA : ∀ p,A.a = some p → b43 ≠ p.block := by
     rintro p hp rfl
     obtain ⟨arr,ha⟩ := hF1.oa.obj hp
     rw [ha] at h43; cases h43
   have hF4 := hF3.keep st4 (by rintro b rfl; exact ⟨n43,ne_ty B43c hF3.blk (by decide),nA,hF3.nK B43c (by decide)⟩)
   have hT4 := hT3.keep st4 (by rintro rfl; exact absurd rfl (ne_ty hT3.blk B43c (by decide)))
   have hR4 := hR3.keep st4 (by rintro rfl; exact absurd rfl (ne_ty hR3 B43c (by decide)))
   generalize τ3.setCell ((ptr b43).add 1) (.int .i64 w) = τ4 at *
   have g43d := B43d.get (i := 0) rfl
   rw [e0] at g43d
   refine ⟨_,hF4.blk.get (i := 2) rfl,_,_,_,rfl,_,g43d,_,B43d.get (i := 1) rfl,_,B43d.get (i := 2) rfl,_,_,_,rfl,?_⟩
   intro b68 h68
   refine hF4.atom (x.tmod I,w,(x.tdiv 16).tmod 7 - 4) (by rw [atR_len]; omega) h68 fun A' τ5 hF5 st5 => ?_
   rw [wnat (by omega)]
   refine hRR A' _ (by omega) ⟨?_,?_,?_⟩
   · rw [atR,hx,hy]; unfold difOf; rw [← hw]; exact hF5
   · rw [atR]
     exact hT4.keep st5 (by rintro (h | ⟨p,hp,h⟩); exact ne_ty hT4.blk hF4.blk (by decide) h; exact hF4.nA hT4.blk (by decide) p hp h)
   · exact hR4.keep st5 (by rintro (h | ⟨p,hp,h⟩); exact d8 h; exact hF4.nA hR4 (by decide) p hp h)
 · have hkN : k = N := by omega
   subst hkN
   have han := hF.an
   rw [atR_len] at han
   refine ⟨_,hF.blk.get (i := 2) rfl,_,_,_,rfl,_,hP.get (i := 2) rfl,_,rfl,by omega,rfl,⟨_,hF.blk.get (i := 1) rfl⟩,hF.blk.froz 1,?_⟩
   obtain ⟨B,hB⟩ : ∃ B : Int,B = ((atR l' I k).2.length : Int) + s2.tmod 7 := ⟨_,rfl⟩
   have wB : IntKind.wrap .i64 ((A.n : Int) + Int.tmod (IntKind.wrap .i64 s2) 7) = B := by rw [wi h2,w64 (by omega) (by omega),hB,atR_len,han]
   rw [wB]
   have hprob : probF s0 s1 s2 l' = ⟨I.toNat,B.toNat,(atR l' I k).2,clE l' B (atR l' I k).1 40 0⟩ := by
     unfold probF; rw [← hI,← hN,← hB]
   rw [hprob] at hQ hp
   have hB1 : 1 ≤ B ∧ B ≤ 18 := by rw [hB,atR_len]; omega
   have hF' := hF.setBools B
   have st : Step (· = b11) ω (ω.setCell ((ptr b11).add 1) (.int .i64 B)) := setCell_step.weaken fun b hb => hb.trans (add_block _ _)
   have hT' := hT.keep st (fun h => ne_ty hT.blk hF.blk (by decide) h)
   have hR' := hR.keep st (fun h => d8 h)
   generalize ω.setCell ((ptr b11).add 1) (.int .i64 B) = ω' at *
   have hk0 := atR_le (l := l') (I := I) k
   generalize (atR l' I k).1 = k0 at *
   generalize (atR l' I k).2 = at' at *
   clear hT hR hF st
   unfold S21_3
   refine iloopS_for (G := Sli) (fun _ _ => (ptr b8,ptr b11,ptr b24)) (fun i K υ => clE l' B k0 (40 - i) i = clE l' B k0 40 0 ∧ Blk υ b8 29 [.int .i64 0,.int .i64 0,.slice none 0 0,.slice none 0 0] ∧ ∃ φ',φ.sub φ' ∧ φ' b8 = none ∧ FB φ' υ b11 I B A K at' (clS l' B k0 i).2 ∧ Tape φ' υ b24 ⟨a,min 300 n,c⟩ l' (clS l' B k0 i).1) 40 ?_ (g := ⟨none,0,0⟩) ⟨rfl,hR',φ,.refl _,n8,hF',hT'⟩
   rintro i K υ hi ⟨hE,hRu,φ',hφ,hn8,hFu,hTu⟩ R hRR
   unfold S21_4
   dsimp only
   have hkn := hFu.kn
   rw [clS_len] at hkn
   have t0 := hTu.blk.get (i := 0) rfl
   rw [e0] at t0
   have fin : clE l' B k0 40 0 = (clS l' B k0 i).2 → ∃ v167,PH.cell? υ (ptr b11) = some v167 ∧ ∃ v168,PH.cell? υ ((ptr b11).add 1) = some v168 ∧ ∃ v169,PH.cell? υ ((ptr b11).add 2) = some v169 ∧ ∃ v170,PH.cell? υ ((ptr b11).add 3) = some v170 ∧ ∃ (i171 : Int) (i172 : Int) (a173 : Option Addr) (n174 : Nat) (c175 : Nat) (a176 : Option Addr) (n177 : Nat) (c178 : Nat),letI h903 : PH := PH.setCell υ (ptr b8) (.int .i64 i171); letI h904 : PH := PH.setCell h903 ((ptr b8).add 1) (.int .i64 i172); letI h906 : PH := PH.setCell h904 ((ptr b8).add 2) (.slice a173 n174 c175); letI h908 : PH := PH.setCell h906 ((ptr b8).add 3) (.slice a176 n177 c178); Value.agg #[v167,v168,v169,v170] = (.agg #[.int .i64 i171,.int .i64 i172,.slice a173 n174 c175,.slice a176 n177 c178]) ∧ (∃ u179,PH.cell? υ (ptr b8) = some u179) ∧ PH.froz υ (ptr b8) = some false ∧ (∃ u180,PH.cell? h903 ((ptr b8).add 1) = some u180) ∧ PH.froz h903 ((ptr b8).add 1) = some false ∧ (∃ u181,PH.cell? h904 ((ptr b8).add 2) = some u181) ∧ PH.froz h904 ((ptr b8).add 2) = some false ∧ (∃ u182,PH.cell? h906 ((ptr b8).add 3) = some u182) ∧ PH.froz h906 ((ptr b8).add 3) = some false ∧ ∃ v183,PH.cell? h908 (ptr b8) = some v183 ∧ ∃ v184,PH.cell? h908 ((ptr b8).add 1) = some v184 ∧ ∃ v185,PH.cell? h908 ((ptr b8).add 2) = some v185 ∧ ∃ v186,PH.cell? h908 ((ptr b8).add 3) = some v186 ∧ Q (.agg #[v183,v184,v185,v186]) h908 := by
     intro hfin
     rw [hfin] at hQ
     have f0 := hFu.blk.get (i := 0) rfl
     rw [e0] at f0
     refine ⟨_,f0,_,hFu.blk.get (i := 1) rfl,_,hFu.blk.get (i := 2) rfl,_,hFu.blk.get (i := 3) rfl,_,_,_,_,_,_,_,_,rfl,?_⟩
     have r0 := hRu.get (i := 0) rfl
     rw [e0] at r0
     have z0 := hRu.froz 0
     rw [e0] at z0
     have R1 : Blk (υ.setCell (ptr b8) (.int .i64 I)) b8 29 [.int .i64 I,.int .i64 0,.slice none 0 0,.slice none 0 0] := hRu.set 0 (.int .i64 I)
     have R2 : Blk ((υ.setCell (ptr b8) (.int .i64 I)).setCell ((ptr b8).add 1) (.int .i64 B)) b8 29 [.int .i64 I,.int .i64 B,.slice none 0 0,.slice none 0 0] := R1.set 1 (.int .i64 B)
     have R3 : Blk (((υ.setCell (ptr b8) (.int .i64 I)).setCell ((ptr b8).add 1) (.int .i64 B)).setCell ((ptr b8).add 2) A.v) b8 29 [.int .i64 I,.int .i64 B,A.v,.slice none 0 0] := R2.set 2 A.v
     have R4 : Blk ((((υ.setCell (ptr b8) (.int .i64 I)).setCell ((ptr b8).add 1) (.int .i64 B)).setCell ((ptr b8).add 2) A.v).setCell ((ptr b8).add 3) K.v) b8 29 [.int .i64 I,.int .i64 B,A.v,K.v] := R3.set 3 K.v
     refine ⟨⟨_,r0⟩,z0,⟨_,R1.get (i := 1) rfl⟩,R1.froz 1,⟨_,R2.get (i := 2) rfl⟩,R2.froz 2,⟨_,R3.get (i := 3) rfl⟩,R3.froz 3,?_⟩
     have q0 := R4.get (i := 0) rfl
     rw [e0] at q0
     refine ⟨_,q0,_,R4.get (i := 1) rfl,_,R4.get (i := 2) rfl,_,R4.get (i := 3) rfl,?_⟩
     have w1 : ∀ {x : PH} {j : Nat} {v : Value},Step (· = b8) x (x.setCell ((ptr b8).add j) v) := fun {x j v} => setCell_step.weaken fun b hb => hb.trans (add_block _ _)
     have sR : Step (· = b8) υ ((((υ.setCell (ptr b8) (.int .i64 I)).setCell ((ptr b8).add 1) (.int .i64 B)).setCell ((ptr b8).add 2) A.v).setCell ((ptr b8).add 3) K.v) := (((w1 (j := 0)).trans w1).trans w1).trans w1
     have hFR := hFu.toFR.keep sR (by rintro b rfl; exact ⟨hn8,hFu.nA hRu (by decide),hFu.nK hRu (by decide)⟩)
     have := hQ φ' _ A K (s7.trans hφ) hFR hFu.oa.le (by obtain ⟨vs,o,_⟩ := hFu.ok; exact o.le)
     rw [show ((I.toNat : Nat) : Int) = I by omega,show ((B.toNat : Nat) : Int) = B by omega] at this
     exact this
   have hTlen := hTu.u8.len
   have hTle := hTu.le
   refine ⟨_,rfl,_,hTu.blk.get (i := 1) rfl,_,rfl,_,rfl,_,t0,_,_,_,rfl,br_dec.2 ⟨fun hlt => ⟨_,hFu.blk.get (i := 3) rfl,_,_,_,rfl,br_dec.2 ⟨fun h40 => ?_,fun h40 => ?_⟩⟩,fun hge => ?_⟩⟩
   · have hi40 : i < 40 := by omega
     have hcont : clE l' B k0 (40 - (i + 1)) (i + 1) = clE l' B k0 40 0 := by
       rw [← hE,show 40 - i = (40 - (i + 1)) + 1 by omega,clE,if_pos (by omega)]
     refine c41 hTu hFu.sub (by omega) (by omega) fun τ st1 hs1 hT1 => ?_
     rw [nx256 hl]
     have hF1 := hFu.step1 hTu.blk (by decide) hTu.new st1
     have hR1 := hRu.keep st1 (by rintro rfl; exact absurd rfl (ne_ty hTu.blk hRu (by decide)))
     refine ⟨τ,.refl _,_,rfl,by omega,rfl,?_⟩
     obtain ⟨x1,x2⟩ := nxv_rng hl (clS l' B k0 i).1
     obtain ⟨y1,y2⟩ := tm x1 (show (0 : Int) < 4 by omega)
     obtain ⟨m,hm⟩ : ∃ m : Nat,m = ((nxv l' (clS l' B k0 i).1).tmod 4).toNat + 1 := ⟨_,rfl⟩
     rw [show (nxv l' (clS l' B k0 i).1).tmod 4 = (m : Int) - 1 by omega]
     obtain ⟨k1,hk1⟩ : ∃ k1,k1 = nxk l' (clS l' B k0 i).1 := ⟨_,rfl⟩
     rw [← hk1] at hT1
     have hm4 : 1 ≤ m ∧ m ≤ 4 := by omega
     clear st1 hs1
     unfold S21_5
     have hst0 : ((ptr b8,ptr b11,ptr b24,(none : Option Addr),0,0,(m : Int) - 1) : T21_5) = (fun (j : Nat) (s : Sli) => ((ptr b8,ptr b11,ptr b24,s.a,s.n,s.c,(m : Int) - 1 - (j : Int)) : T21_5)) 0 ⟨none,0,0⟩ := by simp
     rw [hst0]
     refine iloopS_for (G := Sli) (fun (j : Nat) (s : Sli) => ((ptr b8,ptr b11,ptr b24,s.a,s.n,s.c,(m : Int) - 1 - (j : Int)) : T21_5)) (fun j s ξ => FB φ' ξ b11 I B A K at' (clS l' B k0 i).2 ∧ Tape φ' ξ b24 ⟨a,min 300 n,c⟩ l' (litS l' B k1 j).1 ∧ Blk ξ b8 29 [.int .i64 0,.int .i64 0,.slice none 0 0,.slice none 0 0] ∧ Own ξ 3 1 s.a s.n s.c (ints (litS l' B k1 j).2) ∧ ∀ p,s.a = some p → φ' p.block = none) m ?_ (g := ⟨none,0,0⟩) ⟨hF1,hT1,hR1,own_nil,by simp⟩
     rintro j s ξ hj ⟨hFx,hTx,hRx,hO,hOn⟩ R5 hR5
     unfold S21_6
     dsimp only
     have hOl := own_len hO
     rw [litS_len] at hOl
     refine br_dec.2 ⟨fun hge => ?_,fun hlt2 => ?_⟩
     · have hjm : j < m := by omega
       refine c41 hTx hFx.sub (by omega) (by omega) fun τ2 st2 hs2 hT2 => ?_
       rw [nx256 hl]
       have hF2 := hFx.step1 hTx.blk (by decide) hTx.new st2
       have hR2 := hRx.keep st2 (by rintro rfl; exact absurd rfl (ne_ty hTx.blk hRx (by decide)))
       have hO2 : Own τ2 3 1 s.a s.n s.c (ints (litS l' B k1 j).2) := hO.keep st2 (by
         intro p hp e
         obtain ⟨arr,ha⟩ := hO.obj hp
         exact ne_ty ha hTx.blk (by decide) e)
       obtain ⟨xx1,xx2⟩ := nxv_rng hl (litS l' B k1 j).1
       have hnext : (litS l' B k1 (j + 1)) = (nxk l' (litS l' B k1 j).1,(litS l' B k1 j).2 ++ [litOf B (nxv l' (litS l' B k1 j).1)]) := rfl
       generalize nxv l' (litS l' B k1 j).1 = x at *
       obtain ⟨q1,q2⟩ := td xx1 (show (0 : Int) ≤ 2 by omega)
       obtain ⟨q3,q4⟩ := tm q1 (show (0 : Int) < B by omega)
       have wx : IntKind.wrap .i64 (Int.tdiv x 2) = x.tdiv 2 := w64 (by omega) (by omega)
       have wl : IntKind.wrap .i64 (1 + (x.tdiv 2).tmod B) = 1 + (x.tdiv 2).tmod B := w64 (by omega) (by omega)
       have wn : IntKind.wrap .i64 (0 - (1 + (x.tdiv 2).tmod B)) = -(1 + (x.tdiv 2).tmod B) := by rw [w64 (by omega) (by omega)]; omega
       have wj : IntKind.wrap .i64 ((m : Int) - 1 - (j : Int) - 1) = (m : Int) - 1 - ((j + 1 : Nat) : Int) := by rw [w64 (by omega) (by omega)]; omega
       refine ⟨τ2,.refl _,_,rfl,by omega,rfl,_,hF2.blk.get (i := 1) rfl,_,rfl,by omega,rfl,by omega,rfl,?_⟩
       rw [wx,wl,wn,wj]
       have key : ∀ (y : Int),y = litOf B x → ∀ b : Nat,τ2 b = none → iappend prog 3 (.slice s.a s.n s.c) (.slice (some ⟨b,0,none⟩) 1 1) (fun v τ => ∃ (a : Option Addr) (n c : Nat),v = .slice a n c ∧ R5 (ptr b8,ptr b11,ptr b24,a,n,c,(m : Int) - 1 - ((j + 1 : Nat) : Int)) τ) (PH.set τ2 b (.cells #[.int .i64 y] 3)) := by
         intro y hy b hb
         refine pushRow t3.1 t3.2.1 t3.2.2 rfl (by decide) hO2 hb (news := [.int .i64 y]) rfl (by intro v hv; simp at hv; subst hv; trivial) (by omega) ?_
         intro a' c' τ3 hO3 hst hnew
         have hM : ∀ b,(∃ p,s.a = some p ∧ b = p.block) → φ' b = none ∧ b ≠ b11 ∧ (∀ p,A.a = some p → b ≠ p.block) ∧ (∀ p,K.a = some p → b ≠ p.block) := by
           rintro b ⟨p,hp,rfl⟩
           obtain ⟨arr,ha⟩ := hO2.obj hp
           exact ⟨hOn p hp,ne_ty ha hF2.blk (by decide),hF2.nA ha (by decide),hF2.nK ha (by decide)⟩
         refine ⟨_,_,_,rfl,hR5 ⟨a',s.n + 1,c'⟩ τ3 hjm ⟨hF2.keep hst hM,?_,?_,?_,?_⟩⟩
         · rw [hnext]
           refine hT2.keep hst ?_
           rintro ⟨p,hp,e⟩
           obtain ⟨arr,ha⟩ := hO2.obj hp
           exact ne_ty hT2.blk ha (by decide) e
         · refine hR2.keep hst ?_
           rintro ⟨p,hp,e⟩
           obtain ⟨arr,ha⟩ := hO2.obj hp
           exact ne_ty hR2 ha (by decide) e
         · rw [hnext,← hy]
           have : ints ((litS l' B k1 j).2 ++ [y]) = ints (litS l' B k1 j).2 ++ [.int .i64 y] := by unfold ints; simp
           rw [this]; exact hO3
         · intro p hp
           rcases hnew p hp with ⟨p',g1,g2⟩ | g1
           · rw [g2]; exact hOn p' g1
           · exact new_of hF2.sub g1
       refine br_iff.2 ⟨fun h => key _ ?_,fun h => key _ ?_⟩
       · unfold litOf; rw [if_pos (eq_of_beq h)]
       · unfold litOf; rw [if_neg (by simpa using h)]
     · have hjm : j = m := by omega
       subst hjm
       refine ⟨_,hFx.blk.get (i := 3) rfl,_,_,_,rfl,?_⟩
       intro b140 h140
       obtain ⟨φ2,f1,f2,f3,f4⟩ := hFx.freeze (fun b => b = b8 ∨ b = b24) (by rintro b (rfl | rfl); exact hn8; exact hTx.new)
       have hI2 : Own φ2 3 1 s.a s.n s.c (ints (litS l' B k1 j).2) := own_frozen hO fun p hp => by
         obtain ⟨arr,ha⟩ := hO.obj hp
         refine f4 _ (ne_ty ha hFx.blk (by decide)) (hFx.nA ha (by decide)) (hFx.nK ha (by decide)) ?_
         rintro (e | e)
         · exact ne_ty ha hRx (by decide) e
         · exact ne_ty ha hTx.blk (by decide) e
       refine f2.clause hI2 (by rw [clS_len]; omega) h140 fun K' τ5 hF5 st5 => ?_
       have hnext : clS l' B k0 (i + 1) = ((litS l' B k1 j).1,(clS l' B k0 i).2 ++ [(litS l' B k1 j).2]) := by rw [clS,← hm,← hk1]
       have hTf : Tape φ2 ξ b24 ⟨a,min 300 n,c⟩ l' (litS l' B k1 j).1 := hTx.grow f1 (f3 _ (.inr rfl))
       refine hRR K' τ5 hi40 ⟨hcont,?_,φ2,hφ.trans f1,f3 _ (.inl rfl),?_,?_⟩
       · exact hRx.keep st5 (by rintro (h | ⟨p,hp,h⟩); exact d8 h; exact hFx.nK hRx (by decide) p hp h)
       · rw [hnext]; exact hF5
       · rw [hnext]
         exact hTf.keep st5 (by rintro (h | ⟨p,hp,h⟩); exact ne_ty hTf.blk hFx.blk (by decide) h; exact hFx.nK hTf.blk (by decide) p hp h)
   · refine fin ?_
     have : i = 40 := by omega
     subst this
     exact hE.symm
   · refine fin ?_
     rw [← hE]
     cases hd : 40 - i with
     | zero => rfl
     | succ f => rw [clE,if_neg (by omega)]
theorem PrOk.len {F : Fm} (h : PrOk F) : ∀ c ∈ F.clauses,c.length ≤ 1000000 := fun c hc => by have := h.cl c hc; omega
end Go.Proofs.Ythfnjogadngfiaa
namespace Go.Sv
theorem scan_held {v : List Int} : ∀ {c : List Int} {s : Int × Nat × Bool},(scanC v c s).2.2 = true ↔ s.2.2 = true ∨ ∃ x ∈ c,valS v x > 0
 | [],s => by rw [scanC]; simp
 | x :: c,s => by
   rw [scanC,scan_held]
   unfold scan1
   split
   · rename_i h
     simp [h]
   · rename_i h
     have e : (∃ y ∈ x :: c,valS v y > 0) ↔ ∃ y ∈ c,valS v y > 0 := by
       constructor
       · rintro ⟨y,hy,hv⟩
         rcases List.mem_cons.1 hy with rfl | hy
         · exact absurd hv h
         · exact ⟨y,hy,hv⟩
       · rintro ⟨y,hy,hv⟩; exact ⟨y,List.mem_cons_of_mem _ hy,hv⟩
     rw [e]
     split <;> exact Iff.rfl
theorem scan_mono {v : List Int} : ∀ {c : List Int} {s : Int × Nat × Bool},s.2.1 ≤ (scanC v c s).2.1
 | [],s => Nat.le_refl _
 | x :: c,s => by
   rw [scanC]
   refine Nat.le_trans ?_ scan_mono
   unfold scan1
   split
   · exact Nat.le_refl _
   · split
     · exact Nat.le_succ _
     · exact Nat.le_refl _
theorem scan_same {v : List Int} : ∀ {c : List Int} {s : Int × Nat × Bool},(scanC v c s).2.1 = s.2.1 → (scanC v c s).1 = s.1 ∧ ∀ x ∈ c,valS v x = 0 → x = s.1
 | [],s,_ => ⟨rfl,fun x h => by simp at h⟩
 | x :: c,s,h => by
   rw [scanC] at h ⊢
   have hm := scan_mono (v := v) (c := c) (s := scan1 v x s)
   unfold scan1 at h hm ⊢
   split at h
   · rename_i h1
     rw [if_pos h1] at hm ⊢
     obtain ⟨q1,q2⟩ := scan_same (s := (s.1,s.2.1,true)) h
     refine ⟨q1,fun y hy h0 => ?_⟩
     rcases List.mem_cons.1 hy with rfl | hy
     · omega
     · exact q2 y hy h0
   · rename_i h1
     rw [if_neg h1] at hm ⊢
     split at h
     · rename_i h2
       rw [if_pos h2] at hm
       dsimp only at h hm
       omega
     · rename_i h2
       rw [if_neg h2] at hm ⊢
       obtain ⟨q1,q2⟩ := scan_same h
       refine ⟨q1,fun y hy h0 => ?_⟩
       rcases List.mem_cons.1 hy with rfl | hy
       · by_cases e : y = s.1
         · exact e
         · exact absurd ⟨h0,e⟩ h2
       · exact q2 y hy h0
theorem scan_one {v : List Int} : ∀ {c : List Int} {s : Int × Nat × Bool},(scanC v c s).2.1 = s.2.1 + 1 → (∀ x ∈ c,valS v x = 0 → x = s.1 ∨ x = (scanC v c s).1) ∧ (scanC v c s).1 ∈ c ∧ valS v (scanC v c s).1 = 0
 | [],s,h => by rw [scanC] at h; omega
 | x :: c,s,h => by
   rw [scanC] at h ⊢
   by_cases h1 : valS v x > 0
   · have e : scan1 v x s = (s.1,s.2.1,true) := if_pos h1
     rw [e] at h ⊢
     obtain ⟨q1,q2,q3⟩ := scan_one (s := (s.1,s.2.1,true)) h
     refine ⟨fun y hy h0 => ?_,List.mem_cons_of_mem _ q2,q3⟩
     rcases List.mem_cons.1 hy with rfl | hy
     · omega
     · exact q1 y hy h0
   · by_cases h2 : valS v x = 0 ∧ x ≠ s.1
     · have e : scan1 v x s = (x,s.2.1 + 1,s.2.2) := by unfold scan1; rw [if_neg h1,if_pos h2]
       rw [e] at h ⊢
       obtain ⟨q1,q2⟩ := scan_same (s := (x,s.2.1 + 1,s.2.2)) h
       rw [q1]
       refine ⟨fun y hy h0 => ?_,List.mem_cons_self,h2.1⟩
       rcases List.mem_cons.1 hy with rfl | hy
       · exact .inr rfl
       · exact .inr (q2 y hy h0)
     · have e : scan1 v x s = s := by unfold scan1; rw [if_neg h1,if_neg h2]
       rw [e] at h ⊢
       obtain ⟨q1,q2,q3⟩ := scan_one h
       refine ⟨fun y hy h0 => ?_,List.mem_cons_of_mem _ q2,q3⟩
       rcases List.mem_cons.1 hy with rfl | hy
       · left
         by_cases e : y = s.1
         · exact e
         · exact absurd ⟨h0,e⟩ h2
       · exact q1 y hy h0
theorem scan_few {v : List Int} {u : Int} : ∀ {c : List Int} {s : Int × Nat × Bool},(∀ x ∈ c,valS v x = 0 → x = u) → (s.1 = u → (scanC v c s).2.1 = s.2.1) ∧ (scanC v c s).2.1 ≤ s.2.1 + 1
 | [],s,_ => ⟨fun _ => rfl,Nat.le_succ _⟩
 | x :: c,s,h => by
   rw [scanC]
   have h' : ∀ y ∈ c,valS v y = 0 → y = u := fun y hy => h y (List.mem_cons_of_mem _ hy)
   by_cases h1 : valS v x > 0
   · have e : scan1 v x s = (s.1,s.2.1,true) := if_pos h1
     rw [e]
     exact scan_few (s := (s.1,s.2.1,true)) h'
   · by_cases h2 : valS v x = 0 ∧ x ≠ s.1
     · have e : scan1 v x s = (x,s.2.1 + 1,s.2.2) := by unfold scan1; rw [if_neg h1,if_pos h2]
       rw [e]
       have hu := h x List.mem_cons_self h2.1
       obtain ⟨q1,q2⟩ := scan_few (s := (x,s.2.1 + 1,s.2.2)) h'
       have := q1 hu
       dsimp only at this
       exact ⟨fun e => absurd (hu.trans e.symm) h2.2,by omega⟩
     · have e : scan1 v x s = s := by unfold scan1; rw [if_neg h1,if_neg h2]
       rw [e]
       exact scan_few h'
theorem scan_none {v : List Int} : ∀ {c : List Int} {s : Int × Nat × Bool},(∀ x ∈ c,valS v x ≠ 0) → (scanC v c s).2.1 = s.2.1
 | [],s,_ => rfl
 | x :: c,s,h => by
   rw [scanC]
   have h0 := h x List.mem_cons_self
   rw [scan_none fun y hy => h y (List.mem_cons_of_mem _ hy)]
   unfold scan1
   split
   · rfl
   · rw [if_neg fun e => h0 e.1]
def Closed (w : List Int) (cs : List (List Int)) : Prop := ∀ c ∈ cs,(scanC w c (0,0,false)).2.2 = true ∨ 1 < (scanC w c (0,0,false)).2.1
theorem round_true : ∀ {cs : List (List Int)} {v v' : List Int},roundP cs v true = some (v',false) → False
 | [],v,v',h => by rw [roundP] at h; cases h
 | c :: cs,v,v',h => by
   rw [roundP] at h
   split at h
   · exact round_true h
   · split at h
     · cases h
     · exact round_true h
theorem round_closed : ∀ {cs : List (List Int)} {v v' : List Int},roundP cs v false = some (v',false) → v' = v ∧ Closed v cs
 | [],v,v',h => by rw [roundP] at h; cases h; exact ⟨rfl,fun c hc => by simp at hc⟩
 | c :: cs,v,v',h => by
   rw [roundP] at h
   split at h
   · rename_i hc
     obtain ⟨q1,q2⟩ := round_closed h
     refine ⟨q1,fun d hd => ?_⟩
     rcases List.mem_cons.1 hd with rfl | hd
     · exact hc
     · exact q2 d hd
   · split at h
     · cases h
     · exact (round_true h).elim
theorem closed_round : ∀ {cs : List (List Int)} {v : List Int},Closed v cs → roundP cs v false = some (v,false)
 | [],v,_ => rfl
 | c :: cs,v,h => by
   rw [roundP,if_pos (h c List.mem_cons_self)]
   exact closed_round fun d hd => h d (List.mem_cons_of_mem _ hd)
theorem PropR.closed {cs : List (List Int)} {v val : List Int} {r : Option (List Int)} (h : PropR cs v r) : r = some val → Closed val cs := by
 induction h with
 | stop _ => intro e; cases e
 | done h => intro e; cases e; obtain ⟨q1,q2⟩ := round_closed h; rw [q1]; exact q2
 | go _ _ ih => exact ih
def Ext (v w : List Int) : Prop := ∀ i,v.getD i 0 ≠ 0 → w.getD i 0 = v.getD i 0
theorem Ext.refl (v : List Int) : Ext v v := fun _ _ => rfl
theorem Ext.trans {u v w : List Int} (h : Ext u v) (h' : Ext v w) : Ext u w := fun i hi => (h' i (by rw [h i hi]; exact hi)).trans (h i hi)
theorem Ext.valS {n : Nat} {v w : List Int} (hv : v.length = n) (hw : w.length = n) (h : Ext v w) {x : Int} (hx : LitN n x) (h0 : valS v x ≠ 0) : Go.Sv.valS w x = Go.Sv.valS v x := by
 rw [valS_eq hv hx] at h0 ⊢
 rw [valS_eq hw hx]
 split at h0
 · rw [h _ h0]
 · rw [h _ (by omega)]
theorem Ext.set {n : Nat} {v w : List Int} (hw : w.length = n) (h : Ext v w) {x : Int} (hx : LitN n x) (h0 : Go.Sv.valS w x > 0) (hs : ∀ y ∈ w,-1 ≤ y ∧ y ≤ 1) : Ext (v.set (vr x) (sgn x)) w := by
 intro i hi
 have hg : (v.set (vr x) (sgn x)).getD i 0 = if vr x = i then (if vr x < v.length then sgn x else 0) else v.getD i 0 := by
   rw [List.getD_eq_getElem?_getD,List.getElem?_set,List.getD_eq_getElem?_getD]
   split
   · split <;> rfl
   · rfl
 rw [hg] at hi ⊢
 by_cases e : vr x = i
 · subst e
   rw [if_pos rfl] at hi ⊢
   split
   · rw [valS_eq hw hx] at h0
     have hm := hs (w.getD (vr x) 0) (by rw [List.getD_eq_getElem?_getD,List.getElem?_eq_getElem (by rw [hw]; exact hx.vr_lt)]; exact List.getElem_mem _)
     unfold sgn
     have := hx.1
     split at h0 <;> split <;> omega
   · rename_i h1; rw [if_neg h1] at hi; exact absurd rfl hi
 · rw [if_neg e] at hi ⊢
   exact h i hi
theorem round_ext {n : Nat} {w : List Int} (hw : w.length = n) (hs : ∀ y ∈ w,-1 ≤ y ∧ y ≤ 1) : ∀ {cs : List (List Int)} {v : List Int} {ch : Bool},v.length = n → (∀ c ∈ cs,∀ x ∈ c,LitN n x) → Closed w cs → Ext v w → ∃ v' ch',roundP cs v ch = some (v',ch') ∧ Ext v' w ∧ Ext v v' ∧ v'.length = n
 | [],v,ch,hv,_,_,h => ⟨v,ch,rfl,h,.refl _,hv⟩
 | c :: cs,v,ch,hv,hc,hcl,h => by
   have hc1 := hc c List.mem_cons_self
   have hc2 : ∀ d ∈ cs,∀ x ∈ d,LitN n x := fun d hd => hc d (List.mem_cons_of_mem _ hd)
   have hcl2 : Closed w cs := fun d hd => hcl d (List.mem_cons_of_mem _ hd)
   rw [roundP]
   by_cases h1 : (scanC v c (0,0,false)).2.2 = true ∨ 1 < (scanC v c (0,0,false)).2.1
   · rw [if_pos h1]
     exact round_ext hw hs hv hc2 hcl2 h
   · rw [if_neg h1]
     have hnh : ∀ x ∈ c,¬ Go.Sv.valS v x > 0 := fun x hx hp => h1 (.inl (scan_held.2 (.inr ⟨x,hx,hp⟩)))
     by_cases h2 : (scanC v c (0,0,false)).2.1 = 0
     · exfalso
       obtain ⟨_,q2⟩ := scan_same (v := v) (c := c) (s := (0,0,false)) h2
       have hne : ∀ x ∈ c,Go.Sv.valS v x ≠ 0 := fun x hx h0 => (hc1 x hx).1 (q2 x hx h0)
       rcases hcl c List.mem_cons_self with h3 | h3
       · rcases scan_held.1 h3 with h4 | ⟨x,hx,hp⟩
         · cases h4
         · rw [h.valS hv hw (hc1 x hx) (hne x hx)] at hp
           exact hnh x hx hp
       · rw [scan_none fun x hx => by rw [h.valS hv hw (hc1 x hx) (hne x hx)]; exact hne x hx] at h3
         simp at h3
     · rw [if_neg h2]
       have h3 : (scanC v c (0,0,false)).2.1 = (0,0,false).2.1 + 1 := by
         have : ¬ 1 < (scanC v c (0,0,false)).2.1 := fun h => h1 (.inr h)
         show _ = 0 + 1
         omega
       obtain ⟨q1,q2,q3⟩ := scan_one (v := v) (c := c) (s := (0,0,false)) h3
       generalize hu : (scanC v c (0,0,false)).1 = u at *
       have hul := hc1 u q2
       have hq1 : ∀ x ∈ c,Go.Sv.valS v x = 0 → x = u := fun x hx h0 => (q1 x hx h0).resolve_left (hc1 x hx).1
       have hpos : Go.Sv.valS w u > 0 := by
         rcases hcl c List.mem_cons_self with h4 | h4
         · rcases scan_held.1 h4 with h5 | ⟨x,hx,hp⟩
           · cases h5
           · by_cases h0 : Go.Sv.valS v x = 0
             · rw [hq1 x hx h0] at hp; exact hp
             · rw [h.valS hv hw (hc1 x hx) h0] at hp
               exact absurd hp (hnh x hx)
         · exfalso
           have := (scan_few (v := w) (u := u) (c := c) (s := (0,0,false)) fun x hx h0 => by
             by_cases h5 : Go.Sv.valS v x = 0
             · exact hq1 x hx h5
             · rw [h.valS hv hw (hc1 x hx) h5] at h0; exact absurd h0 h5).2
           dsimp only at this
           omega
       have h00 := valS_zero hv hul q3
       rw [setV_open hv hul h00,Option.getD_some]
       obtain ⟨v',ch',g1,g2,g3,g4⟩ := round_ext hw hs (ch := true) (by simpa using hv) hc2 hcl2 (h.set hw hul hpos hs)
       refine ⟨v',ch',g1,g2,Ext.trans (fun i hi => ?_) g3,g4⟩
       rw [List.getD_eq_getElem?_getD,List.getElem?_set,if_neg (by rintro rfl; exact hi h00),← List.getD_eq_getElem?_getD]
theorem PropR.ext {n : Nat} {w : List Int} (hw : w.length = n) (hs : ∀ y ∈ w,-1 ≤ y ∧ y ≤ 1) {cs : List (List Int)} (hc : ∀ c ∈ cs,∀ x ∈ c,LitN n x) (hcl : Closed w cs) {v : List Int} {r : Option (List Int)} (h : PropR cs v r) : v.length = n → Ext v w → ∃ val,r = some val ∧ Ext val w ∧ Ext v val ∧ val.length = n := by
 induction h with
 | stop h =>
   intro hv he
   obtain ⟨v',ch',g1,_⟩ := round_ext hw hs (ch := false) hv hc hcl he
   rw [h] at g1; cases g1
 | done h =>
   intro hv he
   obtain ⟨v',ch',g1,g2,g3,g4⟩ := round_ext hw hs (ch := false) hv hc hcl he
   rw [h] at g1; cases g1
   exact ⟨_,rfl,g2,g3,g4⟩
 | go h _ ih =>
   intro hv he
   obtain ⟨v',ch',g1,g2,g3,g4⟩ := round_ext hw hs (ch := false) hv hc hcl he
   rw [h] at g1; cases g1
   obtain ⟨val,k1,k2,k3,k4⟩ := ih g4 g2
   exact ⟨val,k1,k2,g3.trans k3,k4⟩
theorem round_small {n : Nat} : ∀ {cs : List (List Int)} {v v' : List Int} {ch ch' : Bool},(∀ y ∈ v,-1 ≤ y ∧ y ≤ 1) → roundP cs v ch = some (v',ch') → ∀ y ∈ v',-1 ≤ y ∧ y ≤ 1
 | [],v,v',ch,ch',hs,h => by rw [roundP] at h; cases h; exact hs
 | c :: cs,v,v',ch,ch',hs,h => by
   rw [roundP] at h
   split at h
   · exact round_small (n := n) hs h
   · split at h
     · cases h
     · refine round_small (n := n) ?_ h
       cases hset : setV v (scanC v c (0,0,false)).1 with
       | none => exact hs
       | some w => exact setV_small hset hs
theorem PropR.small {cs : List (List Int)} {v : List Int} {r : Option (List Int)} (h : PropR cs v r) : (∀ y ∈ v,-1 ≤ y ∧ y ≤ 1) → ∀ val,r = some val → (∀ y ∈ val,-1 ≤ y ∧ y ≤ 1) := by
 induction h with
 | stop _ => intro _ val e; cases e
 | done h => intro hs val e; cases e; exact round_small (n := 0) hs h
 | go h _ ih => intro hs val e; exact ih (round_small (n := 0) hs h) val e
theorem round_len {n : Nat} : ∀ {cs : List (List Int)} {v v' : List Int} {ch ch' : Bool},v.length = n → roundP cs v ch = some (v',ch') → v'.length = n
 | [],v,v',ch,ch',hs,h => by rw [roundP] at h; cases h; exact hs
 | c :: cs,v,v',ch,ch',hs,h => by
   rw [roundP] at h
   split at h
   · exact round_len hs h
   · split at h
     · cases h
     · refine round_len ?_ h
       cases hset : setV v (scanC v c (0,0,false)).1 with
       | none => exact hs
       | some w => exact (setV_len hset).trans hs
theorem PropR.len {n : Nat} {cs : List (List Int)} {v : List Int} {r : Option (List Int)} (h : PropR cs v r) : v.length = n → ∀ val,r = some val → val.length = n := by
 induction h with
 | stop _ => intro _ val e; cases e
 | done h => intro hs val e; cases e; exact round_len hs h
 | go h _ ih => intro hs val e; exact ih (round_len hs h) val e
theorem setAll_small : ∀ {l v v' : List Int},(∀ y ∈ v,-1 ≤ y ∧ y ≤ 1) → setAll v l = some v' → ∀ y ∈ v',-1 ≤ y ∧ y ≤ 1
 | [],v,v',hs,h => by rw [setAll] at h; cases h; exact hs
 | x :: l,v,v',hs,h => by
   rw [setAll] at h
   cases hset : setV v x with
   | none => rw [hset] at h; cases h
   | some w => rw [hset] at h; exact setAll_small (setV_small hset hs) h
theorem setV_ext {v v' : List Int} (hs : ∀ y ∈ v,-1 ≤ y ∧ y ≤ 1) {x : Int} (h : setV v x = some v') : Ext v v' := by
 unfold setV at h
 split at h
 · cases h
 · rename_i hx
   split at h
   · cases h
   · rename_i hne
     cases h
     intro i hi
     rw [List.getD_eq_getElem?_getD,List.getElem?_set]
     by_cases e : vr x = i
     · subst e
       have hlt : vr x < v.length := by unfold vr; omega
       rw [if_pos rfl,if_pos hlt,Option.getD_some]
       have hm := hs (v.getD (vr x) 0) (by rw [List.getD_eq_getElem?_getD,List.getElem?_eq_getElem hlt]; exact List.getElem_mem _)
       unfold sgn at hne ⊢
       split at hne <;> split <;> omega
     · rw [if_neg e,← List.getD_eq_getElem?_getD]
theorem setAll_ext : ∀ {l v v' : List Int},(∀ y ∈ v,-1 ≤ y ∧ y ≤ 1) → setAll v l = some v' → Ext v v'
 | [],v,v',_,h => by rw [setAll] at h; cases h; exact .refl _
 | x :: l,v,v',hs,h => by
   rw [setAll] at h
   cases hset : setV v x with
   | none => rw [hset] at h; cases h
   | some w => rw [hset] at h; exact (setV_ext hs hset).trans (setAll_ext (setV_small hset hs) h)
theorem litsTo_mem {val : List Int} {n : Nat} {x : Int} : x ∈ litsTo val n ↔ ∃ i,i < n ∧ val.getD i 0 ≠ 0 ∧ x = val.getD i 0 * ((i : Int) + 1) := by
 unfold litsTo
 rw [List.mem_map]
 constructor
 · rintro ⟨i,hi,rfl⟩
   rw [List.mem_filter,List.mem_range] at hi
   exact ⟨i,hi.1,by simpa using hi.2,rfl⟩
 · rintro ⟨i,h1,h2,rfl⟩
   exact ⟨i,List.mem_filter.2 ⟨List.mem_range.2 h1,by simpa using h2⟩,rfl⟩
theorem Ext.lits {v w : List Int} (h : Ext v w) {n : Nat} {x : Int} (hx : x ∈ litsTo v n) : x ∈ litsTo w n := by
 obtain ⟨i,h1,h2,rfl⟩ := litsTo_mem.1 hx
 exact litsTo_mem.2 ⟨i,h1,by rw [h i h2]; exact h2,by rw [h i h2]⟩
theorem setAll_lits {n : Nat} {val : List Int} (hv : val.length = n) (hs : ∀ y ∈ val,-1 ≤ y ∧ y ≤ 1) : ∀ k,k ≤ n → setAll (List.replicate n 0) (litsTo val k) = some (val.take k ++ List.replicate (n - k) 0)
 | 0,_ => by simp [litsTo,setAll]
 | k + 1,hk => by
   have app : ∀ (l m v : List Int),setAll v (l ++ m) = (setAll v l).bind fun w => setAll w m := by
     intro l m
     induction l with
     | nil => intro v; rfl
     | cons x l ih =>
       intro v
       rw [List.cons_append,setAll,setAll]
       cases setV v x with
       | none => rfl
       | some w => exact ih w
   rw [litsTo_succ,app,setAll_lits hv hs k (by omega),Option.bind_some]
   have hkv : k < val.length := by omega
   have hg : val.getD k 0 = val[k] := by rw [List.getD_eq_getElem?_getD,List.getElem?_eq_getElem hkv]; rfl
   have hm := hs _ (List.getElem_mem hkv)
   have htk : val.take (k + 1) = val.take k ++ [val[k]] := List.take_succ_eq_append_getElem hkv
   have hrep : List.replicate (n - k) (0 : Int) = 0 :: List.replicate (n - (k + 1)) 0 := by
     rw [show n - k = (n - (k + 1)) + 1 by omega,List.replicate_succ]
   rw [hg]
   by_cases h0 : val[k] = 0
   · rw [if_pos h0,setAll,htk,hrep,h0,List.append_assoc]; rfl
   · rw [if_neg h0,setAll]
     have hlen : (val.take k).length = k := by rw [List.length_take]; omega
     have hx : vr (val[k] * ((k : Int) + 1)) = k ∧ sgn (val[k] * ((k : Int) + 1)) = val[k] ∧ val[k] * ((k : Int) + 1) ≠ 0 ∧ (val[k] * ((k : Int) + 1)).natAbs = k + 1 := by
       have : val[k] = -1 ∨ val[k] = 1 := by omega
       rcases this with e | e <;> rw [e] <;> unfold vr sgn <;> refine ⟨by omega,?_,by omega,by omega⟩ <;> split <;> omega
     obtain ⟨x1,x2,x3,x4⟩ := hx
     have hsv : setV (val.take k ++ List.replicate (n - k) 0) (val[k] * ((k : Int) + 1)) = some (val.take (k + 1) ++ List.replicate (n - (k + 1)) 0) := by
       unfold setV
       rw [x1,x2]
       have hgz : (val.take k ++ List.replicate (n - k) 0).getD k 0 = 0 := by
         rw [List.getD_eq_getElem?_getD,List.getElem?_append_right (by omega),hlen,hrep,Nat.sub_self]; rfl
       rw [hgz,if_neg (by rw [List.length_append,hlen,List.length_replicate]; omega),if_neg (by omega)]
       congr 1
       rw [List.set_append_right _ _ (by omega),hlen,Nat.sub_self,hrep,List.set_cons_zero,htk,List.append_assoc]
       rfl
     rw [hsv]; rfl
theorem setAll_self {n : Nat} {val : List Int} (hv : val.length = n) (hs : ∀ y ∈ val,-1 ≤ y ∧ y ≤ 1) : setAll (List.replicate n 0) (litsTo val n) = some val := by
 rw [setAll_lits hv hs n (Nat.le_refl _),Nat.sub_self,List.replicate_zero,List.append_nil,List.take_of_length_le (by omega)]
theorem round_grow : ∀ {cs : List (List Int)} {v v' : List Int} {ch ch' : Bool},(∀ y ∈ v,-1 ≤ y ∧ y ≤ 1) → roundP cs v ch = some (v',ch') → Ext v v'
 | [],v,v',ch,ch',_,h => by rw [roundP] at h; cases h; exact .refl _
 | c :: cs,v,v',ch,ch',hs,h => by
   rw [roundP] at h
   split at h
   · exact round_grow hs h
   · split at h
     · cases h
     · cases hset : setV v (scanC v c (0,0,false)).1 with
       | none => rw [hset] at h; exact round_grow hs h
       | some w => rw [hset] at h; exact (setV_ext hs hset).trans (round_grow (setV_small hset hs) h)
theorem PropR.grow {cs : List (List Int)} {v : List Int} {r : Option (List Int)} (h : PropR cs v r) : (∀ y ∈ v,-1 ≤ y ∧ y ≤ 1) → ∀ val,r = some val → Ext v val := by
 induction h with
 | stop _ => intro _ val e; cases e
 | done h => intro hs val e; cases e; exact round_grow hs h
 | go h _ ih => intro hs val e; exact (round_grow hs h).trans (ih (round_small (n := 0) hs h) val e)
end Go.Sv
namespace Go.Proofs.Ythfnjogadngfiaa
open Go.Sl Go.Sv
theorem pushFull {e : TypeId} {size bytes : Nat} {z : Value} (hs : sizeT prog e = some size) (hbt : bytesT prog e = some bytes) (hz : zeroT prog e = some z) (hzs : z.cells.size = size) (h0 : bytes ≠ 0)
   {σ : PH} {a : Option Addr} {n c b : Nat} {vs news : List Value} (O : Own σ e size a n c vs) (hcn : c < n + 1) (hb : σ b = none) (hl : news.length = size) (hn : ((n + 1) + (n + 1) / 4 + 256) * bytes ≤ 2 ^ 48) {Q : Value → PH → Prop}
   (hQ : ∀ b' c' τ,σ b' = none → Own τ e size (some (ptr b')) (n + 1) c' (vs ++ news) → σ.sub τ → Q (.slice (some (ptr b')) (n + 1) c') τ) :
   iappend prog e (.slice a n c) (.slice (some ⟨b,0,none⟩) 1 1) Q (σ.set b (.cells news.toArray e)) := by
 have sb := PH.sub_set (o := .cells news.toArray e) hb
 have O2 := O.keep (M := fun _ => False) sb.step (fun _ _ h => h)
 have hr : readsRow (σ.set b (.cells news.toArray e)) (some ⟨b,0,none⟩) news := rowAt_of (b := b) (arr := news.toArray) (e := e) (f := (0,0)) set_self _ 0 0 (fun j v hv => by simpa using hv)
 unfold iappend
 simp only [hs,hbt,hz,hzs,beq_self_eq_true]
 refine ⟨vs,news,O2.len,by rw [hl,Nat.one_mul],O2.reads,hr,fun hle => absurd hle (by omega),fun hlt => ⟨h0,?_,fun c' b' hc' hbn => ?_⟩⟩
 · exact Nat.le_trans (Nat.mul_le_mul_right _ (nextcap_le hlt)) hn
 · refine hQ b' c' _ (new_of sb hbn) ⟨by rw [List.length_append,O.len,hl,Nat.add_mul,Nat.one_mul],hc',.inr ⟨b',_,rfl,by unfold PH.set; rw [if_pos rfl],?_,?_⟩⟩ (sb.trans (PH.sub_set hbn))
   · simp only [Array.size_append,List.size_toArray,O.len,hl,zeros,Builtin.zeroCells,Array.size_map,Array.size_range,hzs]
     rw [← Nat.succ_mul,← Nat.add_mul]
     congr 1
     omega
   · simp only [Array.toList_append]
     rw [List.take_append_of_le_length (by simp [O.len,hl,Nat.add_mul]),List.take_of_length_le (by simp [O.len,hl,Nat.add_mul])]
theorem c28 {σ : PH} {a : Option Addr} {n c : Nat} {l : List Int} {i : Int} (hn : Len n) (hl : Ints σ a n l) : C 28 #[.slice a n c,.int .i64 i] (fun v τ => v = .bool (l.contains i) ∧ τ = σ) σ := by
 refine go (E28_0 _ _ _ _ _ _ _) ?_
 unfold S28_0 S28_1
 refine iloopS_for (fun k (_ : Unit) => (i,a,n,c,(n : Int),(k : Int))) (fun k _ τ => τ = σ ∧ l.contains i = (l.drop k).contains i) n ?_ (g := ()) ⟨rfl,rfl⟩
 rintro k _ τ hk ⟨rfl,hI⟩ R hR
 unfold S28_2
 dsimp only
 refine br_dec.2 ⟨fun h => ?_,fun h => ?_⟩
 · obtain ⟨p,hp,hc⟩ := hl.at (i := (k : Int)) (by omega) (by omega)
   refine ⟨p,hp,by omega,by omega,_,hc,_,rfl,?_⟩
   have hlt : k < l.length := by have := hl.1; omega
   have hd : l.drop k = l[k] :: l.drop (k + 1) := List.drop_eq_getElem_cons hlt
   have hg : l.getD (k : Int).toNat 0 = l[k] := by simp [hlt]
   rw [hg]
   refine br_iff.2 ⟨fun h1 => ⟨?_,rfl⟩,fun h1 => ?_⟩
   · have : l[k] = i := eq_of_beq h1
     have h2 : (l.drop k).contains i = true := by rw [hd,List.contains_cons,this,beq_self_eq_true,Bool.true_or]
     rw [hI,h2]
   · have h3 := hR () τ (by omega) ⟨rfl,by rw [hI,hd,List.contains_cons]; simp at h1; simp [show (i == l[k]) = false from by simp; exact fun e => h1 e.symm]⟩
     unfold Len at hn
     rw [wnat (by omega)]
     exact h3
 · have : k = n := by omega
   subst this
   refine ⟨?_,rfl⟩
   rw [hI,List.drop_eq_nil_of_le (by rw [hl.1]; exact Nat.le_refl _)]
   rfl
theorem zsmall {n : Nat} : ∀ y ∈ List.replicate n (0 : Int),-1 ≤ y ∧ y ≤ 1 := fun y hy => by rw [List.mem_replicate] at hy; omega
theorem PropO.spec {F : Fm} {l val : List Int} (h : PropO F l (some val)) : ∃ v,setAll (List.replicate F.bools 0) l = some v ∧ PropR F.clauses v (some val) ∧ v.length = F.bools ∧ (∀ y ∈ v,-1 ≤ y ∧ y ≤ 1) ∧ val.length = F.bools ∧ (∀ y ∈ val,-1 ≤ y ∧ y ≤ 1) ∧ Closed val F.clauses ∧ Go.Sv.Ext v val := by
 rcases h with ⟨_,h⟩ | ⟨v,h1,h2⟩
 · cases h
 · have hl : v.length = F.bools := by rw [setAll_len h1]; simp
   have hs := setAll_small zsmall h1
   exact ⟨v,h1,h2,hl,hs,h2.len hl _ rfl,h2.small hs _ rfl,h2.closed rfl,h2.grow hs _ rfl⟩
theorem PropO.less {F : Fm} (hF : FOk F) {x y : Int} {r : Option (List Int)} {val : List Int} (h1 : PropO F [x] r) (h2 : PropO F [x,y] (some val)) : ∃ val1,r = some val1 ∧ Go.Sv.Ext val1 val := by
 obtain ⟨v2,k1,k2,k3,k4,k5,k6,k7,k8⟩ := h2.spec
 have hset : ∃ v1,setV (List.replicate F.bools 0) x = some v1 ∧ setAll v1 [y] = some v2 := by
   rw [setAll] at k1
   cases hs : setV (List.replicate F.bools 0) x with
   | none => rw [hs] at k1; cases k1
   | some v1 => rw [hs] at k1; exact ⟨v1,rfl,k1⟩
 obtain ⟨v1,e1,e2⟩ := hset
 have hall : setAll (List.replicate F.bools 0) [x] = some v1 := by rw [setAll,e1]; rfl
 rcases h1 with ⟨q,_⟩ | ⟨v,q1,q2⟩
 · rw [hall] at q; cases q
 · rw [hall] at q1; cases q1
   obtain ⟨val1,g1,g2,_⟩ := q2.ext k5 k6 hF.cl k7 (by rw [setV_len e1]; simp) ((setAll_ext (setV_small e1 zsmall) e2).trans k8)
   exact ⟨val1,g1,g2⟩
theorem PropO.again {F : Fm} {l val : List Int} {r : Option (List Int)} (h : PropO F l (some val)) (h' : PropO F (litsTo val F.bools) r) : r = some val := by
 obtain ⟨v,_,_,_,_,k5,k6,k7,_⟩ := h.spec
 refine h'.det (.inr ⟨val,setAll_self k5 k6,.done (closed_round k7)⟩)
theorem PropO.self {F : Fm} {x : Int} {val : List Int} (h : PropO F [x] (some val)) (hx : 1 ≤ x ∧ x ≤ F.bools) : x ∈ litsTo val F.bools := by
 obtain ⟨v,k1,k2,k3,k4,k5,k6,k7,k8⟩ := h.spec
 have hv : v.getD (vr x) 0 = 1 := by
   rw [setAll] at k1
   cases hs : setV (List.replicate F.bools 0) x with
   | none => rw [hs] at k1; cases k1
   | some w =>
     rw [hs] at k1
     cases k1
     unfold setV at hs
     rw [if_neg (by simp; omega)] at hs
     split at hs
     · cases hs
     · cases hs
       rw [List.getD_eq_getElem?_getD,List.getElem?_set,if_pos rfl,if_pos (by simp; unfold vr; omega)]
       unfold sgn
       rw [if_neg (by omega)]; rfl
 refine litsTo_mem.2 ⟨vr x,by unfold vr; omega,by rw [k8 _ (by rw [hv]; decide),hv]; decide,?_⟩
 rw [k8 _ (by rw [hv]; decide),hv]
 unfold vr; omega
theorem c12 {σ : PH} {s0 s1 s2 : Int} {a : Option Addr} {n c : Nat} {l : List Int} (hU : U8s σ a n l) (hc : n ≤ c) (h0 : 0 ≤ s0 ∧ s0 < 256) (h1 : 0 ≤ s1 ∧ s1 < 256) (h2 : 0 ≤ s2 ∧ s2 < 256)
   {u w : Int} (hu : 0 ≤ u ∧ u < 256) (hw : 0 ≤ w ∧ w < 256) {Q : Value → PH → Prop} (hQ : ∀ τ,σ.sub τ → Q (.bool true) τ) :
   C 12 #[.agg #[.int .u8 s0,.int .u8 s1,.int .u8 s2,.slice a n c],.int .u8 u,.int .u8 w] Q σ := by
 refine go (E12_0 _ _ _ _ _ _ _ _ _ _ _) ?_
 unfold S12_0
 have e0 : ∀ b : Nat,(Addr.mk b 0 none).add 0 = ⟨b,0,none⟩ := fun b => rfl
 intro b11 h11
 have s11 := PH.sub_set (o := .cells #[.int .u8 s0,.int .u8 s1,.int .u8 s2,.slice a n c] 25) h11
 have B11 : Blk (σ.set b11 (.cells #[.int .u8 s0,.int .u8 s1,.int .u8 s2,.slice a n c] 25)) b11 25 [.int .u8 s0,.int .u8 s1,.int .u8 s2,.slice a n c] := set_self
 generalize σ.set b11 (.cells #[.int .u8 s0,.int .u8 s1,.int .u8 s2,.slice a n c] 25) = ω at *
 have g11 := B11.get (i := 0) rfl
 rw [e0] at g11
 refine ⟨_,g11,_,B11.get (i := 1) rfl,_,B11.get (i := 2) rfl,_,B11.get (i := 3) rfl,_,_,_,_,_,_,rfl,?_⟩
 have hp := probF_ok h0.1 h1.1 h2.1 (hU.take 300).rng
 refine c21 (hU.sub s11) hc h0 h1 h2 fun φ τ A K hφ hR _ _ => ?_
 generalize probF s0 s1 s2 (l.take 300) = F at *
 refine ⟨τ,.refl _,_,_,_,_,_,_,_,_,rfl,?_⟩
 intro b33 h33
 simp only [newSet,newSet0,newCell,newCell0,newFroz,newFroz0,List.setIfInBounds_toArray,List.set_cons_zero,List.set_cons_succ,List.getElem?_toArray,List.getElem?_cons_zero,List.getElem?_cons_succ,Option.some.injEq,exists_eq',true_and,exists_eq_left']
 have s33 := PH.sub_set (o := .cells #[.int .i64 F.ints,.int .i64 F.bools,A.v,K.v] 29) h33
 have B33 : Blk (τ.set b33 (.cells #[.int .i64 F.ints,.int .i64 F.bools,A.v,K.v] 29)) b33 29 [.int .i64 F.ints,.int .i64 F.bools,A.v,K.v] := set_self
 generalize τ.set b33 (.cells #[.int .i64 F.ints,.int .i64 F.bools,A.v,K.v] 29) = ω2 at *
 have hR2 := hR.grow s33
 have hpb := hp.bools
 have hω : σ.sub ω2 := ((s11.trans hφ).trans hR.sub).trans s33
 obtain ⟨u1,u2⟩ := tm hu.1 (show (0 : Int) < (F.bools : Int) by omega)
 obtain ⟨w1,w2⟩ := tm hw.1 (show (0 : Int) < (F.bools : Int) by omega)
 have wu : IntKind.wrap .i64 ((1 : Int) + Int.tmod (IntKind.wrap .i64 u) F.bools) = 1 + u.tmod F.bools := by rw [wi hu,w64 (by omega) (by omega)]
 have ww : IntKind.wrap .i64 (0 - IntKind.wrap .i64 ((1 : Int) + Int.tmod (IntKind.wrap .i64 w) F.bools)) = -(1 + w.tmod F.bools) := by rw [wi hw,w64 (n := 1 + _) (by omega) (by omega),w64 (by omega) (by omega)]; omega
 refine ⟨_,rfl,by omega,fun b38 h38 => ?_⟩
 rw [wu]
 obtain ⟨x,hx⟩ : ∃ x,x = 1 + u.tmod F.bools := ⟨_,rfl⟩
 obtain ⟨y,hy⟩ : ∃ y,y = -(1 + w.tmod F.bools) := ⟨_,rfl⟩
 rw [← hx]
 have hxr : 1 ≤ x ∧ x ≤ F.bools := by omega
 have s38 := PH.sub_set (o := .cells #[.int .i64 x] 3) h38
 have B38 : Blk (ω2.set b38 (.cells #[.int .i64 x] 3)) b38 3 (ints [x]) := set_self
 generalize ω2.set b38 (.cells #[.int .i64 x] 3) = ω3 at *
 have hR3 := hR2.grow s38
 have B33a : Blk ω3 b33 29 _ := s38 _ _ B33
 have g33 := B33a.get (i := 0) rfl
 rw [e0] at g33
 refine ⟨_,g33,_,B33a.get (i := 1) rfl,_,B33a.get (i := 2) rfl,_,B33a.get (i := 3) rfl,_,_,_,_,_,_,_,_,rfl,?_⟩
 refine c25r hp.fok hp.len hR3.lists (blk_ints B38 rfl) (by simp) fun r1 τ1 sl1 hr1 hs1 hO1 _ => ⟨τ1,.refl _,_,_,_,_,rfl,?_⟩
 have hR4 := hR3.grow hs1
 have B33b : Blk τ1 b33 29 _ := hs1 _ _ B33a
 have B38b : Blk τ1 b38 3 (ints [x]) := hs1 _ _ B38
 have g33 := B33b.get (i := 0) rfl
 rw [e0] at g33
 have hne : b38 ≠ b33 := ne_ty B38b B33b (by decide)
 refine ⟨_,g33,_,B33b.get (i := 1) rfl,_,B33b.get (i := 2) rfl,_,B33b.get (i := 3) rfl,_,_,_,_,_,_,_,_,rfl,_,B33b.get (i := 1) rfl,_,rfl,by omega,fun b72 h72 => ?_⟩
 rw [ww,← hy]
 refine ⟨by rintro p rfl e; exact hne e,by rintro p rfl e; exact hne (e.trans (add_block _ _)),by rintro p rfl e; exact hne (e.trans (add_block _ _)),by rintro p rfl e; exact hne (e.trans (add_block _ _)),?_⟩
 refine pushFull (n := 1) (c := 1) t3.1 t3.2.1 t3.2.2 rfl (by decide) (blk_own (n := 1) B38b rfl) (by omega) h72 (news := [.int .i64 y]) rfl (by omega) fun b' c' τ2 hb' hO2 hs2 => ⟨_,_,_,rfl,?_⟩
 have hI2 : Ints τ2 (some (ptr b')) 2 [x,y] := own_ints hO2
 refine c25r hp.fok hp.len (hR4.lists.sub hs2) hI2 (by simp) fun r2 τ3 sl2 hr2 hs3 hO3 _ => ⟨τ3,.refl _,_,_,_,_,rfl,?_⟩
 have hR5 := (hR4.grow hs2).grow hs3
 have hsub3 : σ.sub τ3 := ((((hω.trans s38).trans hs1).trans hs2).trans hs3)
 have hO1' := own_len hO1
 have hll1 := litsO_len F r1
 have hll2 := litsO_len F r2
 have hsl2 := own_len hO3
 refine br_iff.2 ⟨fun hno => ?_,fun hyes => ?_⟩
 · have hr1n : r1 = none := by cases r1; rfl; simp at hno
   subst hr1n
   refine br_iff.2 ⟨fun _ => br_iff.2 ⟨fun _ => c20' fun τ hs => hQ τ (hsub3.trans hs),fun hy2 => ?_⟩,fun hz => ?_⟩
   · exfalso
     cases r2 with
     | none => simp at hy2
     | some val2 =>
       obtain ⟨val1,e,_⟩ := hr1.less hp.fok hr2
       cases e
   · exfalso
     rw [hO1'] at hz
     simp [litsO] at hz
 · obtain ⟨val1,hval1⟩ : ∃ val1,r1 = some val1 := by
     cases r1 with
     | none => simp at hyes
     | some v => exact ⟨v,rfl⟩
   subst hval1
   have B33c : Blk τ3 b33 29 _ := hs3 _ _ (hs2 _ _ B33b)
   have g33 := B33c.get (i := 0) rfl
   rw [e0] at g33
   have I1 : Ints τ3 sl1.a sl1.n (litsTo val1 F.bools) := ((own_ints hO1).sub hs2).sub hs3
   have hll1' := litsTo_len val1 F.bools
   have hI1n := I1.1
   refine ⟨_,g33,_,B33c.get (i := 1) rfl,_,B33c.get (i := 2) rfl,_,B33c.get (i := 3) rfl,_,_,_,_,_,_,_,_,rfl,?_⟩
   refine c25r hp.fok hp.len hR5.lists I1 (by omega) fun r3 τ4 sl3 hr3 hs4 hO4 _ => ⟨τ4,.refl _,_,_,_,_,rfl,?_⟩
   obtain rfl := hr1.again hr3
   refine br_iff.2 ⟨fun h => by simp at h,fun _ => ?_⟩
   have I1' := I1.sub hs4
   refine (c27 (by unfold Len; omega) I1' (own_ints hO4)).mono hb ?_
   rintro _ τ5 ⟨rfl,eτ⟩
   obtain rfl := eτ.symm
   refine ⟨_,.refl _,_,rfl,br_iff.2 ⟨fun h => by simp [litsO] at h,fun _ => ?_⟩⟩
   have B38c : Blk τ4 b38 3 (ints [x]) := hs4 _ _ (hs3 _ _ (hs2 _ _ B38b))
   refine ⟨by omega,by omega,_,B38c.get (i := 0) rfl,_,rfl,?_⟩
   refine (c28 (by unfold Len; omega) I1').mono hb ?_
   rintro _ τ5 ⟨rfl,eτ⟩
   obtain rfl := eτ.symm
   have hself := hr1.self hxr
   refine ⟨_,.refl _,_,rfl,br_iff.2 ⟨fun h => by simp [hself] at h,fun _ => ?_⟩⟩
   unfold S12_1
   refine iloopS_for (G := Unit) (fun k _ => ((sl2.a,sl2.n,sl2.c,r2.isSome,sl1.a,sl1.n,sl1.c,(sl1.n : Int),(k : Int)) : T12_1)) (fun k _ υ => τ4 = υ) sl1.n ?_ (g := ()) rfl
   rintro k _ _ hk rfl R hR'
   unfold S12_2
   dsimp only
   refine br_dec.2 ⟨fun hlt => ?_,fun hge => c20' fun τ hs => hQ τ ((hsub3.trans hs4).trans hs)⟩
   have hkl : k < (litsTo val1 F.bools).length := by omega
   obtain ⟨p,hp',hcell⟩ := I1'.2.at (i := k) (v := .int .i64 ((litsTo val1 F.bools)[k])) (by rw [List.getElem?_map,List.getElem?_eq_getElem hkl]; rfl)
   have wk : IntKind.wrap .i64 ((k : Int) + 1) = ((k + 1 : Nat) : Int) := wnat (by omega)
   refine ⟨p,hp',by omega,by omega,_,by rw [Int.toNat_natCast,Nat.mul_one]; exact hcell,_,rfl,?_⟩
   rw [wk]
   refine br_iff.2 ⟨fun hy2 => ?_,fun _ => hR' () _ (by omega) rfl⟩
   obtain ⟨val2,hval2⟩ : ∃ val2,r2 = some val2 := by
     cases r2 with
     | none => simp at hy2
     | some v => exact ⟨v,rfl⟩
   subst hval2
   have I2 : Ints τ4 sl2.a sl2.n (litsTo val2 F.bools) := (own_ints hO3).sub hs4
   refine (c28 (by unfold Len; omega) I2).mono hb ?_
   rintro _ τ5 ⟨rfl,eτ⟩
   obtain rfl := eτ.symm
   obtain ⟨_,e,hext⟩ := hr1.less hp.fok hr2
   cases e
   have hin := hext.lits (n := F.bools) (List.getElem_mem hkl)
   refine ⟨_,.refl _,_,rfl,br_iff.2 ⟨fun h => by simp [hin] at h,fun _ => hR' () _ (by omega) rfl⟩⟩
def PH.whole (W : World) : PH := fun b => W.heap[b]?
theorem whole_le (W : World) : PH.le (PH.whole W) W := fun _ _ h => h
theorem whole_cell (W : World) (a : Addr) : (PH.whole W).cell? a = W.cell? a := rfl
section
variable {H : Type} {enc : TypeId × Value → H} {W : World} {sp : Nat → Bool} {held : Bool}
end
section
variable {H : Type} {enc : TypeId × Value → H} {W : World} {sp : Nat → Bool} {held : Bool}
theorem u5 : prog.underlying 5 = some (.int .u8) := by kernel_rfl
theorem u22 : prog.underlying 22 = some (.array 3 5) := by kernel_rfl
theorem u23 : prog.underlying 23 = some (.slice 5) := by kernel_rfl
theorem u25 : prog.underlying 25 = some (.struct #[Field.mk "Size" 22 0 false "" "" 0, Field.mk "Numbers" 23 3 false "" "" 8]) := by kernel_rfl
theorem c5' : prog.cellsOf 5 = 1 := by kernel_rfl
theorem c22' : prog.cellsOf 22 = 3 := by kernel_rfl
theorem c23' : prog.cellsOf 23 = 1 := by kernel_rfl
theorem c25' : prog.cellsOf 25 = 4 := by kernel_rfl
theorem wf_u8 {n : Int} (h : (Lit.int .u8 n).wf = true) : 0 ≤ n ∧ n < 256 := by
 simp [Lit.wf,IntKind.min,IntKind.max,IntKind.signed,IntKind.bits] at h
 omega
theorem trod_u8 {fuel : Nat} {cs : List Value} {x : DataW H × List MemPlace} (h : DataW.trod enc prog W 0 sp held fuel 5 cs = some x) : ∃ n : Int,cs = [.int .u8 n] ∧ 0 ≤ n ∧ n < 256 := by
 obtain ⟨n,h1,_,h2⟩ := DataW.trod_int u5 h
 exact ⟨n,h1,wf_u8 h2⟩
theorem trod_u8s {fuel : Nat} {cs : List Value} {x : DataW H × List MemPlace} (h : DataW.trod enc prog W 0 sp held fuel 23 cs = some x) :
   ∃ (a : Option Addr) (m k : Nat) (l : List Int),cs = [.slice a m k] ∧ U8s (PH.whole W) a m l ∧ m ≤ k ∧ m ≤ maxLen := by
 rcases Go.ChangeShapes.open_ints u23 u5 c5' h with ⟨rfl,rfl⟩ | ⟨a,len,cap,zs,rfl,_,hl,hm,hz,rfl,hcell,hwf⟩
 · exact ⟨none,0,0,[],rfl,⟨rfl,.inl rfl,by simp⟩,Nat.le_refl _,Nat.zero_le _⟩
 · have hzl : len ≤ zs.length := by rw [hz]; split <;> omega
   refine ⟨some a,len,cap,zs.take len,rfl,⟨by simp; omega,.inr ⟨a,rfl,fun i v hv => ?_⟩,fun x hx => wf_u8 (hwf x (List.mem_of_mem_take hx))⟩,hl,Nat.le_trans hl hm⟩
   rw [List.getElem?_map,List.getElem?_take] at hv
   split at hv
   · rename_i hi
     rw [whole_cell,hcell i (by omega)]
     rw [List.getElem?_eq_getElem (by omega)] at hv
     rw [List.getD_eq_getElem?_getD,List.getElem?_eq_getElem (by omega)]
     exact hv
   · cases hv
theorem trod_problem {v : Value} {d : DataW H} {ps : List MemPlace} (h : DataW.Trod enc prog W 0 sp held 25 v d ps) :
   ∃ (s0 s1 s2 : Int) (a : Option Addr) (n c : Nat) (l : List Int),v.cells.toList = [.int .u8 s0,.int .u8 s1,.int .u8 s2,.slice a n c] ∧ U8s (PH.whole W) a n l ∧ n ≤ c ∧ (0 ≤ s0 ∧ s0 < 256) ∧ (0 ≤ s1 ∧ s1 < 256) ∧ (0 ≤ s2 ∧ s2 < 256) := by
 obtain ⟨fuel,h⟩ := h
 obtain ⟨xs,n,_,hd,hl,hx,hf⟩ := DataW.trod_struct u25 h
 rw [c25'] at hl
 generalize v.cells.toList = cs at *
 match cs,hl with
 | [a,b,c,e],_ =>
   have hx2 : xs.length = 2 := hx
   have f0 : DataW.trod enc prog W 0 sp held n 22 (([a, b, c, e].drop 0).take (prog.cellsOf 22)) = xs[0]? := hf 0 (Field.mk "Size" 22 0 false "" "" 0) rfl
   have f1 : DataW.trod enc prog W 0 sp held n 23 (([a, b, c, e].drop 3).take (prog.cellsOf 23)) = xs[1]? := hf 1 (Field.mk "Numbers" 23 3 false "" "" 8) rfl
   rw [c22'] at f0
   rw [c23'] at f1
   match xs,hx2 with
   | [y0,y1],_ =>
     obtain ⟨zs,m,_,_,_,hz,g⟩ := DataW.trod_array u22 f0
     have g0 := g 0 (by omega)
     have g1 := g 1 (by omega)
     have g2 := g 2 (by omega)
     rw [c5'] at g0 g1 g2
     match zs,hz with
     | [w0,w1,w2],_ =>
       obtain ⟨n0,e0,r0⟩ := trod_u8 g0
       obtain ⟨n1,e1,r1⟩ := trod_u8 g1
       obtain ⟨n2,e2,r2⟩ := trod_u8 g2
       obtain ⟨aa,m',k,l,e3,hU,hmk,_⟩ := trod_u8s f1
       simp at e0 e1 e2 e3
       exact ⟨n0,n1,n2,aa,m',k,l,by rw [e0,e1,e2,e3],hU,hmk,r0,r1,r2⟩
end
end Go.Proofs.Ythfnjogadngfiaa
namespace Go.Proofs.Ythfnjogadngfiaa.PropagateCloses
open Go.ChangeShapes Go.WideShapes Go.ChangeAt Go.RowKit Go.Sl Go.Sv
theorem own : ownKnob Try.prog.godebug = none := by kernel_rfl
theorem laidOut : laidOutB Try.prog = true := by kernel_rfl
theorem walkOf {f : FuncId} {args : Array Value} {W : World} (h : C f args (fun v τ => v = .bool true ∧ (PH.whole W).sub τ) (PH.whole W)) : Calls Try.prog f args W fun e w' => e = .returned (.bool true) ∧ Below W.heap.size W w' := by
 have hm : prog.follows .mixedOrders = true := by kernel_rfl
 refine ((ICall.calls hm SemCall.hc) _ _ _ _ W h (whole_le W)).mono fun e w' hcp => ?_
 obtain ⟨v,τ,rfl,⟨rfl,hs⟩,hle,hfr⟩ := hcp
 refine ⟨rfl,hfr.os,hfr.tape,hfr.output,hfr.size,fun k hk => ?_⟩
 have hg : W.heap[k]? = some W.heap[k] := Array.getElem?_eq_getElem hk
 rw [hg]
 exact hle _ _ (hs _ _ hg)
theorem lifted (os : Os) (started : os.Started) (H : Type) (enc : TypeId × Value → H) :
   ReturnsInHanded {} Try.checked os 12 .any (Rows.propagateClosesSpec.pre6 enc Try.prog Try.f12 Rows.propagateClosesRow.domain false) (Rows.propagateClosesSpec.post enc Try.prog Try.f12 false true false false) := by
 refine returnsInHanded_of_change_sized (C := Try.checked) own started (by kernel_rfl) Try.func12
   (ChangeSpec.witness6 (enc := enc) (C := Try.checked) false ⟨#[],#[.agg #[.int .u8 0,.int .u8 0,.int .u8 0,.slice none 0 0],.int .u8 0,.int .u8 0],[]⟩ 8 (by kernel_rfl) (by kernel_rfl) (by kernel_rfl) (by kernel_rfl)) ?_
 intro W base args ds gs before hval0 hW hcnd0 hsz0 _
 clear hsz0
 have hval : ∀ (j : Nat) t v,Try.f12.params[j]? = some t → args[j]? = some v → Value.okWide Try.prog W .any base t v := hval0
 have hW' := hW
 obtain ⟨p,q,hA0,hV,rfl,hfz,hnd⟩ := hW
 have hA : DataW.TrodAll enc Try.prog W 0 (fun _ => true) true Try.f12.params.toList args.toList ds p := hA0
 rw [Try.params12] at hA hval
 obtain ⟨v0,vs0,d0,ds0,p0,q0,hargs0,rfl,rfl,h0,r0⟩ := trodAll_cons hA
 obtain ⟨v1,vs1,d1,ds1,p1,q1,hargs1,rfl,rfl,h1,r1⟩ := trodAll_cons r0
 obtain ⟨v2,vs2,d2,ds2,p2,q2,hargs2,rfl,rfl,h2,r2⟩ := trodAll_cons r1
 obtain ⟨rfl,rfl,rfl⟩ := trodAll_nil r2
 obtain rfl : args = #[v0,v1,v2] := by cases args; simp_all
 obtain ⟨rfl,rfl⟩ := trodVars_none hV
 obtain ⟨cs0,rfl,hcsz0⟩ := okWide_struct Try.underlying25 (hval 0 25 v0 rfl rfl)
 have k0 := h0
 have lt0 : ∀ x ∈ p0,x.block < W.heap.size := by obtain ⟨m,hm⟩ := k0; exact DataW.trod_lt m _ _ _ hm
 obtain ⟨s00,s10,s20,a0,m0,c0,l0,hcs0,hU0,hnc0,b00,b10,b20⟩ := trod_problem h0
 obtain rfl : cs0 = #[.int .u8 s00,.int .u8 s10,.int .u8 s20,.slice a0 m0 c0] := by
   have : cs0.toList = _ := hcs0
   cases cs0; simp_all
 obtain ⟨n1,rfl⟩ := okWide_int Try.underlying5 (hval 1 5 v1 rfl rfl)
 have k1 := h1
 have lt1 : ∀ x ∈ p1,x.block < W.heap.size := by obtain ⟨m,hm⟩ := k1; exact DataW.trod_lt m _ _ _ hm
 have b1 : 0 ≤ n1 ∧ n1 < 256 := by
   obtain ⟨fu,hm⟩ := h1
   obtain ⟨z,e,r⟩ := trod_u8 hm
   simp [Value.cells] at e
   subst e; exact r
 obtain ⟨n2,rfl⟩ := okWide_int Try.underlying5 (hval 2 5 v2 rfl rfl)
 have k2 := h2
 have lt2 : ∀ x ∈ p2,x.block < W.heap.size := by obtain ⟨m,hm⟩ := k2; exact DataW.trod_lt m _ _ _ hm
 have b2 : 0 ≤ n2 ∧ n2 < 256 := by
   obtain ⟨fu,hm⟩ := h2
   obtain ⟨z,e,r⟩ := trod_u8 hm
   simp [Value.cells] at e
   subst e; exact r
 clear hA0 hval0
 refine (walkOf (c12 hU0 hnc0 b00 b10 b20 b1 b2 fun τ hs => ⟨rfl,hs⟩)).mono fun e W' ⟨he,bel⟩ => ?_
 subst he
 exact ⟨_,rfl,_,_,_,[],_,[],hW',trodAll_mk1 (shut_bool Try.underlying4 _),trodAll_cons_mk (Below.trod laidOut (by kernel_rfl) (of_decide_eq_true (by kernel_rfl)) k0 bel lt0) (trodAll_cons_mk (Below.trod laidOut (by kernel_rfl) (of_decide_eq_true (by kernel_rfl)) k1 bel lt1) (trodAll_cons_mk (Below.trod laidOut (by kernel_rfl) (of_decide_eq_true (by kernel_rfl)) k2 bel lt2) trodAll_mk0)),rfl,bel.frame _,fun h => by cases h⟩
theorem over : Rows.propagateClosesRow.holds Try.pinned (OpenSpec.ofChange Rows.propagateClosesSpec) :=
 OpenClaim.holds_of_wide 12 Try.f12 rfl rfl rfl rfl rfl rfl rfl ⟨rfl,rfl,rfl,rfl,rfl⟩ rfl rfl rfl rfl rfl (by kernel_rfl) Try.func12 (by kernel_rfl)
   (of_decide_eq_true (by kernel_rfl)) (by unfold Func.isWrapper; first | (rw [if_pos (by decide +kernel)]; kernel_rfl) | (rw [if_neg (by decide +kernel)]; exact ⟨rfl,rfl⟩))
   (fun os started H enc _ => lifted os started H enc)
theorem proved : Rows.PropagateClosesSaid := over
end Go.Proofs.Ythfnjogadngfiaa.PropagateCloses
