/- PropagateExact answers true at every problem and list; no condition beyond the row's own. -/
import Derived.ChangeArms
import Derived.ChangeSlices
import Derived.DataReads
import Derived.OpenShut
import Derived.WalkKit
import Derived.ProofKit
import Derived.ShutString
import Derived.ChangeOld
import Derived.Below
import Derived.Carry
import Derived.SizedLaws
import Derived.Test.YthfnjogadngfiaaRows
import Derived.Test.YthfnjogadngfiaaXf14
set_option maxRecDepth 100000
set_option linter.unusedVariables false
set_option linter.unusedSimpArgs false
namespace Go.Proofs.Ythfnjogadngfiaa
open Go.Sl Go.Sv
theorem PrOk.len {F : Fm} (h : PrOk F) : ∀ c ∈ F.clauses,c.length ≤ 1000000 := fun c hc => by have := h.cl c hc; omega
structure I8s (σ : PH) (a : Option Addr) (n : Nat) (l : List Int) : Prop where
 len : l.length = n
 row : Row σ a (l.map (.int .i8))
 rng : ∀ x ∈ l,-128 ≤ x ∧ x < 128
theorem I8s.sub {σ τ : PH} (h : σ.sub τ) {a : Option Addr} {n : Nat} {l : List Int} (u : I8s σ a n l) : I8s τ a n l := ⟨u.len,u.row.sub h,u.rng⟩
theorem c10 {σ : PH} {s0 s1 s2 : Int} {a : Option Addr} {n c : Nat} {l : List Int} (hU : U8s σ a n l) (hc : n ≤ c) (h0 : 0 ≤ s0 ∧ s0 < 256) (h1 : 0 ≤ s1 ∧ s1 < 256) (h2 : 0 ≤ s2 ∧ s2 < 256)
   {a7 : Option Addr} {n8 c9 : Nat} {l7 : List Int} (hU7 : I8s σ a7 n8 l7) (hn8 : n8 ≤ maxLen) {Q : Value → PH → Prop} (hQ : ∀ τ,σ.sub τ → Q (.bool true) τ) :
   C 10 #[.agg #[.int .u8 s0,.int .u8 s1,.int .u8 s2,.slice a n c],.slice a7 n8 c9] Q σ := by
 refine go (E10_0 _ _ _ _ _ _ _ _ _ _ _ _) ?_
 unfold S10_0
 have hn8' : n8 ≤ 9223372036854775807 := hn8
 have e0 : ∀ b : Nat,(Addr.mk b 0 none).add 0 = ⟨b,0,none⟩ := fun b => rfl
 intro b11 h11
 have s11 := PH.sub_set (o := .cells #[.int .u8 s0,.int .u8 s1,.int .u8 s2,.slice a n c] 25) h11
 have B11 : Blk (σ.set b11 (.cells #[.int .u8 s0,.int .u8 s1,.int .u8 s2,.slice a n c] 25)) b11 25 [.int .u8 s0,.int .u8 s1,.int .u8 s2,.slice a n c] := set_self
 generalize σ.set b11 (.cells #[.int .u8 s0,.int .u8 s1,.int .u8 s2,.slice a n c] 25) = ω at *
 have g11 := B11.get (i := 0) rfl
 rw [e0] at g11
 refine ⟨_,g11,_,B11.get (i := 1) rfl,_,B11.get (i := 2) rfl,_,B11.get (i := 3) rfl,_,_,_,_,_,_,rfl,?_⟩
 have hp := probF_ok h0.1 h1.1 h2.1 (hU.take 300).rng
 refine c21 (hU.sub s11) hc h0 h1 h2 fun φ τ A K hφ hR _ _ => ?_
 generalize probF s0 s1 s2 (l.take 300) = F at *
 refine ⟨τ,.refl _,_,_,_,_,_,_,_,_,rfl,?_⟩
 intro b33 h33
 simp only [newSet,newSet0,newCell,newCell0,newFroz,newFroz0,List.setIfInBounds_toArray,List.set_cons_zero,List.set_cons_succ,List.getElem?_toArray,List.getElem?_cons_zero,List.getElem?_cons_succ,Option.some.injEq,exists_eq',true_and,exists_eq_left']
 have s33 := PH.sub_set (o := .cells #[.int .i64 F.ints,.int .i64 F.bools,A.v,K.v] 29) h33
 have B33 : Blk (τ.set b33 (.cells #[.int .i64 F.ints,.int .i64 F.bools,A.v,K.v] 29)) b33 29 [.int .i64 F.ints,.int .i64 F.bools,A.v,K.v] := set_self
 generalize τ.set b33 (.cells #[.int .i64 F.ints,.int .i64 F.bools,A.v,K.v] 29) = ω2 at *
 have hR2 := hR.grow s33
 have hpb := hp.bools
 have hω : σ.sub ω2 := ((s11.trans hφ).trans hR.sub).trans s33
 have hl7 := hU7.len
 unfold S10_1
 refine iloopS_for (G := Sli) (fun i s => ((ptr b33,s.a,s.n,s.c,a7,n8,c9,(n8 : Int),(i : Int)) : T10_1)) (fun i s υ => ω2.sub υ ∧ (∃ ls,Own υ 3 1 s.a s.n s.c (ints ls) ∧ ls.length ≤ min i 6) ∧ ∀ p,s.a = some p → ω2 p.block = none) n8 ?_ (g := ⟨none,0,0⟩) ⟨.refl _,⟨[],own_nil,Nat.zero_le _⟩,by simp⟩
 rintro i s υ hi ⟨hsub,⟨ls,hO,hls⟩,hnew⟩ R hR'
 unfold S10_2
 dsimp only at hO hnew ⊢
 have hB : Blk υ b33 29 _ := hsub _ _ B33
 refine br_dec.2 ⟨fun hlt => ?_,fun hge => ?_⟩
 · have hil : i < l7.length := by omega
   obtain ⟨p,hp7,hc7⟩ := (hU7.sub (hω.trans hsub)).row.at (i := i) (v := .int .i8 (l7[i])) (by rw [List.getElem?_map,List.getElem?_eq_getElem hil]; rfl)
   have hr := hU7.rng _ (List.getElem_mem hil)
   generalize l7[i] = x at *
   have wk : IntKind.wrap .i64 ((i : Int) + 1) = ((i + 1 : Nat) : Int) := wnat (by omega)
   refine ⟨p,hp7,by omega,by omega,_,by rw [Int.toNat_natCast,Nat.mul_one]; exact hc7,_,rfl,?_⟩
   rw [wk]
   refine br_dec.2 ⟨fun h6 => br_iff.2 ⟨fun _ => ⟨_,hB.get (i := 1) rfl,_,rfl,by rw [w64 (by omega) (by omega)]; omega,rfl,fun b hb => ?_⟩,fun _ => ?_⟩,fun _ => ?_⟩
   · exact growNew hsub hO hnew _ (by omega) hb (R := fun a n c τ => R (ptr b33,a,n,c,a7,n8,c9,(n8 : Int),((i + 1 : Nat) : Int)) τ) fun sl' τ' g1 g2 g3 => hR' sl' τ' (by omega) ⟨g1,⟨_,g2,by rw [List.length_append,List.length_singleton]; omega⟩,g3⟩
   · exact hR' s υ (by omega) ⟨hsub,⟨ls,hO,by omega⟩,hnew⟩
   · exact hR' s υ (by omega) ⟨hsub,⟨ls,hO,by omega⟩,hnew⟩
 · have g0 := hB.get (i := 0) rfl
   rw [e0] at g0
   refine ⟨_,g0,_,hB.get (i := 1) rfl,_,hB.get (i := 2) rfl,_,hB.get (i := 3) rfl,_,_,_,_,_,_,_,_,rfl,?_⟩
   exact both hp.fok hp.len hB (hR2.lists.sub hsub) (own_ints hO) (by omega) fun τ2 hs2 => hQ τ2 ((hω.trans hsub).trans hs2)
def PH.whole (W : World) : PH := fun b => W.heap[b]?
theorem whole_le (W : World) : PH.le (PH.whole W) W := fun _ _ h => h
theorem whole_cell (W : World) (a : Addr) : (PH.whole W).cell? a = W.cell? a := rfl
section
variable {H : Type} {enc : TypeId × Value → H} {W : World} {sp : Nat → Bool} {held : Bool}
end
section
variable {H : Type} {enc : TypeId × Value → H} {W : World} {sp : Nat → Bool} {held : Bool}
theorem u5 : prog.underlying 5 = some (.int .u8) := by kernel_rfl
theorem u22 : prog.underlying 22 = some (.array 3 5) := by kernel_rfl
theorem u23 : prog.underlying 23 = some (.slice 5) := by kernel_rfl
theorem u25 : prog.underlying 25 = some (.struct #[Field.mk "Size" 22 0 false "" "" 0, Field.mk "Numbers" 23 3 false "" "" 8]) := by kernel_rfl
theorem c5' : prog.cellsOf 5 = 1 := by kernel_rfl
theorem c22' : prog.cellsOf 22 = 3 := by kernel_rfl
theorem c23' : prog.cellsOf 23 = 1 := by kernel_rfl
theorem c25' : prog.cellsOf 25 = 4 := by kernel_rfl
theorem wf_u8 {n : Int} (h : (Lit.int .u8 n).wf = true) : 0 ≤ n ∧ n < 256 := by
 simp [Lit.wf,IntKind.min,IntKind.max,IntKind.signed,IntKind.bits] at h
 omega
theorem trod_u8 {fuel : Nat} {cs : List Value} {x : DataW H × List MemPlace} (h : DataW.trod enc prog W 0 sp held fuel 5 cs = some x) : ∃ n : Int,cs = [.int .u8 n] ∧ 0 ≤ n ∧ n < 256 := by
 obtain ⟨n,h1,_,h2⟩ := DataW.trod_int u5 h
 exact ⟨n,h1,wf_u8 h2⟩
theorem trod_u8s {fuel : Nat} {cs : List Value} {x : DataW H × List MemPlace} (h : DataW.trod enc prog W 0 sp held fuel 23 cs = some x) :
   ∃ (a : Option Addr) (m k : Nat) (l : List Int),cs = [.slice a m k] ∧ U8s (PH.whole W) a m l ∧ m ≤ k ∧ m ≤ maxLen := by
 rcases Go.ChangeShapes.open_ints u23 u5 c5' h with ⟨rfl,rfl⟩ | ⟨a,len,cap,zs,rfl,_,hl,hm,hz,rfl,hcell,hwf⟩
 · exact ⟨none,0,0,[],rfl,⟨rfl,.inl rfl,by simp⟩,Nat.le_refl _,Nat.zero_le _⟩
 · have hzl : len ≤ zs.length := by rw [hz]; split <;> omega
   refine ⟨some a,len,cap,zs.take len,rfl,⟨by simp; omega,.inr ⟨a,rfl,fun i v hv => ?_⟩,fun x hx => wf_u8 (hwf x (List.mem_of_mem_take hx))⟩,hl,Nat.le_trans hl hm⟩
   rw [List.getElem?_map,List.getElem?_take] at hv
   split at hv
   · rename_i hi
     rw [whole_cell,hcell i (by omega)]
     rw [List.getElem?_eq_getElem (by omega)] at hv
     rw [List.getD_eq_getElem?_getD,List.getElem?_eq_getElem (by omega)]
     exact hv
   · cases hv
theorem trod_problem {v : Value} {d : DataW H} {ps : List MemPlace} (h : DataW.Trod enc prog W 0 sp held 25 v d ps) :
   ∃ (s0 s1 s2 : Int) (a : Option Addr) (n c : Nat) (l : List Int),v.cells.toList = [.int .u8 s0,.int .u8 s1,.int .u8 s2,.slice a n c] ∧ U8s (PH.whole W) a n l ∧ n ≤ c ∧ (0 ≤ s0 ∧ s0 < 256) ∧ (0 ≤ s1 ∧ s1 < 256) ∧ (0 ≤ s2 ∧ s2 < 256) := by
 obtain ⟨fuel,h⟩ := h
 obtain ⟨xs,n,_,hd,hl,hx,hf⟩ := DataW.trod_struct u25 h
 rw [c25'] at hl
 generalize v.cells.toList = cs at *
 match cs,hl with
 | [a,b,c,e],_ =>
   have hx2 : xs.length = 2 := hx
   have f0 : DataW.trod enc prog W 0 sp held n 22 (([a, b, c, e].drop 0).take (prog.cellsOf 22)) = xs[0]? := hf 0 (Field.mk "Size" 22 0 false "" "" 0) rfl
   have f1 : DataW.trod enc prog W 0 sp held n 23 (([a, b, c, e].drop 3).take (prog.cellsOf 23)) = xs[1]? := hf 1 (Field.mk "Numbers" 23 3 false "" "" 8) rfl
   rw [c22'] at f0
   rw [c23'] at f1
   match xs,hx2 with
   | [y0,y1],_ =>
     obtain ⟨zs,m,_,_,_,hz,g⟩ := DataW.trod_array u22 f0
     have g0 := g 0 (by omega)
     have g1 := g 1 (by omega)
     have g2 := g 2 (by omega)
     rw [c5'] at g0 g1 g2
     match zs,hz with
     | [w0,w1,w2],_ =>
       obtain ⟨n0,e0,r0⟩ := trod_u8 g0
       obtain ⟨n1,e1,r1⟩ := trod_u8 g1
       obtain ⟨n2,e2,r2⟩ := trod_u8 g2
       obtain ⟨aa,m',k,l,e3,hU,hmk,_⟩ := trod_u8s f1
       simp at e0 e1 e2 e3
       exact ⟨n0,n1,n2,aa,m',k,l,by rw [e0,e1,e2,e3],hU,hmk,r0,r1,r2⟩
end
section
variable {H : Type} {enc : TypeId × Value → H} {W : World} {sp : Nat → Bool} {held : Bool}
theorem u48 : prog.underlying 48 = some (.int .i8) := by kernel_rfl
theorem u47 : prog.underlying 47 = some (.slice 48) := by kernel_rfl
theorem c48' : prog.cellsOf 48 = 1 := by kernel_rfl
theorem wf_i8 {n : Int} (h : (Lit.int .i8 n).wf = true) : -128 ≤ n ∧ n < 128 := by
 simp [Lit.wf,IntKind.min,IntKind.max,IntKind.signed,IntKind.bits] at h
 omega
theorem trod_i8s {fuel : Nat} {cs : List Value} {x : DataW H × List MemPlace} (h : DataW.trod enc prog W 0 sp held fuel 47 cs = some x) :
   ∃ (a : Option Addr) (m k : Nat) (l : List Int),cs = [.slice a m k] ∧ I8s (PH.whole W) a m l ∧ m ≤ k ∧ m ≤ maxLen := by
 rcases Go.ChangeShapes.open_ints u47 u48 c48' h with ⟨rfl,rfl⟩ | ⟨a,len,cap,zs,rfl,_,hl,hm,hz,rfl,hcell,hwf⟩
 · exact ⟨none,0,0,[],rfl,⟨rfl,.inl rfl,by simp⟩,Nat.le_refl _,Nat.zero_le _⟩
 · have hzl : len ≤ zs.length := by rw [hz]; split <;> omega
   refine ⟨some a,len,cap,zs.take len,rfl,⟨by simp; omega,.inr ⟨a,rfl,fun i v hv => ?_⟩,fun x hx => wf_i8 (hwf x (List.mem_of_mem_take hx))⟩,hl,Nat.le_trans hl hm⟩
   rw [List.getElem?_map,List.getElem?_take] at hv
   split at hv
   · rename_i hi
     rw [whole_cell,hcell i (by omega)]
     rw [List.getElem?_eq_getElem (by omega)] at hv
     rw [List.getD_eq_getElem?_getD,List.getElem?_eq_getElem (by omega)]
     exact hv
   · cases hv
end
end Go.Proofs.Ythfnjogadngfiaa
namespace Go.Proofs.Ythfnjogadngfiaa.PropagateExact
open Go.ChangeShapes Go.WideShapes Go.ChangeAt Go.RowKit Go.Sl Go.Sv
theorem own : ownKnob Try.prog.godebug = none := by kernel_rfl
theorem laidOut : laidOutB Try.prog = true := by kernel_rfl
theorem walkOf {f : FuncId} {args : Array Value} {W : World} (h : C f args (fun v τ => v = .bool true ∧ (PH.whole W).sub τ) (PH.whole W)) : Calls Try.prog f args W fun e w' => e = .returned (.bool true) ∧ Below W.heap.size W w' := by
 have hm : prog.follows .mixedOrders = true := by kernel_rfl
 refine ((ICall.calls hm SemCall.hc) _ _ _ _ W h (whole_le W)).mono fun e w' hcp => ?_
 obtain ⟨v,τ,rfl,⟨rfl,hs⟩,hle,hfr⟩ := hcp
 refine ⟨rfl,hfr.os,hfr.tape,hfr.output,hfr.size,fun k hk => ?_⟩
 have hg : W.heap[k]? = some W.heap[k] := Array.getElem?_eq_getElem hk
 rw [hg]
 exact hle _ _ (hs _ _ hg)
theorem lifted (os : Os) (started : os.Started) (H : Type) (enc : TypeId × Value → H) :
   ReturnsInHanded {} Try.checked os 10 .any (Rows.propagateExactSpec.pre6 enc Try.prog Try.f10 Rows.propagateExactRow.domain false) (Rows.propagateExactSpec.post enc Try.prog Try.f10 false true false false) := by
 refine returnsInHanded_of_change_sized (C := Try.checked) own started (by kernel_rfl) Try.func10
   (ChangeSpec.witness6 (enc := enc) (C := Try.checked) false ⟨#[],#[.agg #[.int .u8 0,.int .u8 0,.int .u8 0,.slice none 0 0],.slice none 0 0],[]⟩ 8 (by kernel_rfl) (by kernel_rfl) (by kernel_rfl) (by kernel_rfl)) ?_
 intro W base args ds gs before hval0 hW hcnd0 hsz0 _
 clear hsz0
 have hval : ∀ (j : Nat) t v,Try.f10.params[j]? = some t → args[j]? = some v → Value.okWide Try.prog W .any base t v := hval0
 have hW' := hW
 obtain ⟨p,q,hA0,hV,rfl,hfz,hnd⟩ := hW
 have hA : DataW.TrodAll enc Try.prog W 0 (fun _ => true) true Try.f10.params.toList args.toList ds p := hA0
 rw [Try.params10] at hA hval
 obtain ⟨v0,vs0,d0,ds0,p0,q0,hargs0,rfl,rfl,h0,r0⟩ := trodAll_cons hA
 obtain ⟨v1,vs1,d1,ds1,p1,q1,hargs1,rfl,rfl,h1,r1⟩ := trodAll_cons r0
 obtain ⟨rfl,rfl,rfl⟩ := trodAll_nil r1
 obtain rfl : args = #[v0,v1] := by cases args; simp_all
 obtain ⟨rfl,rfl⟩ := trodVars_none hV
 obtain ⟨cs0,rfl,hcsz0⟩ := okWide_struct Try.underlying25 (hval 0 25 v0 rfl rfl)
 have k0 := h0
 have lt0 : ∀ x ∈ p0,x.block < W.heap.size := by obtain ⟨m,hm⟩ := k0; exact DataW.trod_lt m _ _ _ hm
 obtain ⟨s00,s10,s20,a0,m0,c0,l0,hcs0,hU0,hnc0,b00,b10,b20⟩ := trod_problem h0
 obtain rfl : cs0 = #[.int .u8 s00,.int .u8 s10,.int .u8 s20,.slice a0 m0 c0] := by
   have : cs0.toList = _ := hcs0
   cases cs0; simp_all
 obtain ⟨a1,m1,c1,rfl⟩ := okWide_slice Try.underlying47 (hval 1 47 v1 rfl rfl)
 have k1 := h1
 have lt1 : ∀ x ∈ p1,x.block < W.heap.size := by obtain ⟨m,hm⟩ := k1; exact DataW.trod_lt m _ _ _ hm
 obtain ⟨l1,hU1,hnc1,hml1⟩ : ∃ l,I8s (PH.whole W) a1 m1 l ∧ m1 ≤ c1 ∧ m1 ≤ maxLen := by
   obtain ⟨fu,hm⟩ := h1
   obtain ⟨a,m,k,l,e,hU,hmk,hml⟩ := trod_i8s hm
   simp [Value.cells] at e
   obtain ⟨rfl,rfl,rfl⟩ := e
   exact ⟨l,hU,hmk,hml⟩
 clear hA0 hval0
 refine (walkOf (c10 hU0 hnc0 b00 b10 b20 hU1 hml1 fun τ hs => ⟨rfl,hs⟩)).mono fun e W' ⟨he,bel⟩ => ?_
 subst he
 exact ⟨_,rfl,_,_,_,[],_,[],hW',trodAll_mk1 (shut_bool Try.underlying4 _),trodAll_cons_mk (Below.trod laidOut (by kernel_rfl) (of_decide_eq_true (by kernel_rfl)) k0 bel lt0) (trodAll_cons_mk (Below.trod laidOut (by kernel_rfl) (of_decide_eq_true (by kernel_rfl)) k1 bel lt1) trodAll_mk0),rfl,bel.frame _,fun h => by cases h⟩
theorem over : Rows.propagateExactRow.holds Try.pinned (OpenSpec.ofChange Rows.propagateExactSpec) :=
 OpenClaim.holds_of_wide 10 Try.f10 rfl rfl rfl rfl rfl rfl rfl ⟨rfl,rfl,rfl,rfl,rfl⟩ rfl rfl rfl rfl rfl (by kernel_rfl) Try.func10 (by kernel_rfl)
   (of_decide_eq_true (by kernel_rfl)) (by unfold Func.isWrapper; first | (rw [if_pos (by decide +kernel)]; kernel_rfl) | (rw [if_neg (by decide +kernel)]; exact ⟨rfl,rfl⟩))
   (fun os started H enc _ => lifted os started H enc)
theorem proved : Rows.PropagateExactSaid := over
end Go.Proofs.Ythfnjogadngfiaa.PropagateExact
