/- SolveStays answers true at every problem, list and byte; no condition beyond the row's own. -/
import Derived.ChangeArms
import Derived.ChangeSlices
import Derived.DataReads
import Derived.OpenShut
import Derived.WalkKit
import Derived.ProofKit
import Derived.ShutString
import Derived.ChangeOld
import Derived.Below
import Derived.Carry
import Derived.SizedLaws
import Derived.Test.YthfnjogadngfiaaRows
import Derived.Test.YthfnjogadngfiaaXd14
set_option maxRecDepth 100000
set_option linter.unusedVariables false
set_option linter.unusedSimpArgs false
namespace Go.Proofs.Ythfnjogadngfiaa
open Go.Sl Go.Sv
def PH.whole (W : World) : PH := fun b => W.heap[b]?
theorem whole_le (W : World) : PH.le (PH.whole W) W := fun _ _ h => h
theorem whole_cell (W : World) (a : Addr) : (PH.whole W).cell? a = W.cell? a := rfl
section
variable {H : Type} {enc : TypeId × Value → H} {W : World} {sp : Nat → Bool} {held : Bool}
end
section
variable {H : Type} {enc : TypeId × Value → H} {W : World} {sp : Nat → Bool} {held : Bool}
theorem u5 : prog.underlying 5 = some (.int .u8) := by kernel_rfl
theorem u22 : prog.underlying 22 = some (.array 3 5) := by kernel_rfl
theorem u23 : prog.underlying 23 = some (.slice 5) := by kernel_rfl
theorem u25 : prog.underlying 25 = some (.struct #[Field.mk "Size" 22 0 false "" "" 0, Field.mk "Numbers" 23 3 false "" "" 8]) := by kernel_rfl
theorem c5' : prog.cellsOf 5 = 1 := by kernel_rfl
theorem c22' : prog.cellsOf 22 = 3 := by kernel_rfl
theorem c23' : prog.cellsOf 23 = 1 := by kernel_rfl
theorem c25' : prog.cellsOf 25 = 4 := by kernel_rfl
theorem wf_u8 {n : Int} (h : (Lit.int .u8 n).wf = true) : 0 ≤ n ∧ n < 256 := by
 simp [Lit.wf,IntKind.min,IntKind.max,IntKind.signed,IntKind.bits] at h
 omega
theorem trod_u8 {fuel : Nat} {cs : List Value} {x : DataW H × List MemPlace} (h : DataW.trod enc prog W 0 sp held fuel 5 cs = some x) : ∃ n : Int,cs = [.int .u8 n] ∧ 0 ≤ n ∧ n < 256 := by
 obtain ⟨n,h1,_,h2⟩ := DataW.trod_int u5 h
 exact ⟨n,h1,wf_u8 h2⟩
theorem trod_u8s {fuel : Nat} {cs : List Value} {x : DataW H × List MemPlace} (h : DataW.trod enc prog W 0 sp held fuel 23 cs = some x) :
   ∃ (a : Option Addr) (m k : Nat) (l : List Int),cs = [.slice a m k] ∧ U8s (PH.whole W) a m l ∧ m ≤ k ∧ m ≤ maxLen := by
 rcases Go.ChangeShapes.open_ints u23 u5 c5' h with ⟨rfl,rfl⟩ | ⟨a,len,cap,zs,rfl,_,hl,hm,hz,rfl,hcell,hwf⟩
 · exact ⟨none,0,0,[],rfl,⟨rfl,.inl rfl,by simp⟩,Nat.le_refl _,Nat.zero_le _⟩
 · have hzl : len ≤ zs.length := by rw [hz]; split <;> omega
   refine ⟨some a,len,cap,zs.take len,rfl,⟨by simp; omega,.inr ⟨a,rfl,fun i v hv => ?_⟩,fun x hx => wf_u8 (hwf x (List.mem_of_mem_take hx))⟩,hl,Nat.le_trans hl hm⟩
   rw [List.getElem?_map,List.getElem?_take] at hv
   split at hv
   · rename_i hi
     rw [whole_cell,hcell i (by omega)]
     rw [List.getElem?_eq_getElem (by omega)] at hv
     rw [List.getD_eq_getElem?_getD,List.getElem?_eq_getElem (by omega)]
     exact hv
   · cases hv
theorem trod_problem {v : Value} {d : DataW H} {ps : List MemPlace} (h : DataW.Trod enc prog W 0 sp held 25 v d ps) :
   ∃ (s0 s1 s2 : Int) (a : Option Addr) (n c : Nat) (l : List Int),v.cells.toList = [.int .u8 s0,.int .u8 s1,.int .u8 s2,.slice a n c] ∧ U8s (PH.whole W) a n l ∧ n ≤ c ∧ (0 ≤ s0 ∧ s0 < 256) ∧ (0 ≤ s1 ∧ s1 < 256) ∧ (0 ≤ s2 ∧ s2 < 256) := by
 obtain ⟨fuel,h⟩ := h
 obtain ⟨xs,n,_,hd,hl,hx,hf⟩ := DataW.trod_struct u25 h
 rw [c25'] at hl
 generalize v.cells.toList = cs at *
 match cs,hl with
 | [a,b,c,e],_ =>
   have hx2 : xs.length = 2 := hx
   have f0 : DataW.trod enc prog W 0 sp held n 22 (([a, b, c, e].drop 0).take (prog.cellsOf 22)) = xs[0]? := hf 0 (Field.mk "Size" 22 0 false "" "" 0) rfl
   have f1 : DataW.trod enc prog W 0 sp held n 23 (([a, b, c, e].drop 3).take (prog.cellsOf 23)) = xs[1]? := hf 1 (Field.mk "Numbers" 23 3 false "" "" 8) rfl
   rw [c22'] at f0
   rw [c23'] at f1
   match xs,hx2 with
   | [y0,y1],_ =>
     obtain ⟨zs,m,_,_,_,hz,g⟩ := DataW.trod_array u22 f0
     have g0 := g 0 (by omega)
     have g1 := g 1 (by omega)
     have g2 := g 2 (by omega)
     rw [c5'] at g0 g1 g2
     match zs,hz with
     | [w0,w1,w2],_ =>
       obtain ⟨n0,e0,r0⟩ := trod_u8 g0
       obtain ⟨n1,e1,r1⟩ := trod_u8 g1
       obtain ⟨n2,e2,r2⟩ := trod_u8 g2
       obtain ⟨aa,m',k,l,e3,hU,hmk,_⟩ := trod_u8s f1
       simp at e0 e1 e2 e3
       exact ⟨n0,n1,n2,aa,m',k,l,by rw [e0,e1,e2,e3],hU,hmk,r0,r1,r2⟩
end
end Go.Proofs.Ythfnjogadngfiaa
namespace Go.Proofs.Ythfnjogadngfiaa.SolveStays
open Go.ChangeShapes Go.WideShapes Go.ChangeAt Go.RowKit Go.Sl Go.Sv
theorem own : ownKnob Try.prog.godebug = none := by kernel_rfl
theorem laidOut : laidOutB Try.prog = true := by kernel_rfl
theorem walkOf {f : FuncId} {args : Array Value} {W : World} (h : C f args (fun v τ => v = .bool true ∧ (PH.whole W).sub τ) (PH.whole W)) : Calls Try.prog f args W fun e w' => e = .returned (.bool true) ∧ Below W.heap.size W w' := by
 have hm : prog.follows .mixedOrders = true := by kernel_rfl
 refine ((ICall.calls hm SemCall.hc) _ _ _ _ W h (whole_le W)).mono fun e w' hcp => ?_
 obtain ⟨v,τ,rfl,⟨rfl,hs⟩,hle,hfr⟩ := hcp
 refine ⟨rfl,hfr.os,hfr.tape,hfr.output,hfr.size,fun k hk => ?_⟩
 have hg : W.heap[k]? = some W.heap[k] := Array.getElem?_eq_getElem hk
 rw [hg]
 exact hle _ _ (hs _ _ hg)
theorem lifted (os : Os) (started : os.Started) (H : Type) (enc : TypeId × Value → H) :
   ReturnsInHanded {} Try.checked os 9 .any (Rows.solveStaysSpec.pre6 enc Try.prog Try.f9 Rows.solveStaysRow.domain false) (Rows.solveStaysSpec.post enc Try.prog Try.f9 false true false false) := by
 refine returnsInHanded_of_change_sized (C := Try.checked) own started (by kernel_rfl) Try.func9
   (ChangeSpec.witness6 (enc := enc) (C := Try.checked) false ⟨#[],#[.agg #[.int .u8 0,.int .u8 0,.int .u8 0,.slice none 0 0],.slice none 0 0,.int .u8 0],[]⟩ 8 (by kernel_rfl) (by kernel_rfl) (by kernel_rfl) (by kernel_rfl)) ?_
 intro W base args ds gs before hval0 hW hcnd0 hsz0 _
 clear hsz0
 have hval : ∀ (j : Nat) t v,Try.f9.params[j]? = some t → args[j]? = some v → Value.okWide Try.prog W .any base t v := hval0
 have hW' := hW
 obtain ⟨p,q,hA0,hV,rfl,hfz,hnd⟩ := hW
 have hA : DataW.TrodAll enc Try.prog W 0 (fun _ => true) true Try.f9.params.toList args.toList ds p := hA0
 rw [Try.params9] at hA hval
 obtain ⟨v0,vs0,d0,ds0,p0,q0,hargs0,rfl,rfl,h0,r0⟩ := trodAll_cons hA
 obtain ⟨v1,vs1,d1,ds1,p1,q1,hargs1,rfl,rfl,h1,r1⟩ := trodAll_cons r0
 obtain ⟨v2,vs2,d2,ds2,p2,q2,hargs2,rfl,rfl,h2,r2⟩ := trodAll_cons r1
 obtain ⟨rfl,rfl,rfl⟩ := trodAll_nil r2
 obtain rfl : args = #[v0,v1,v2] := by cases args; simp_all
 obtain ⟨rfl,rfl⟩ := trodVars_none hV
 obtain ⟨cs0,rfl,hcsz0⟩ := okWide_struct Try.underlying25 (hval 0 25 v0 rfl rfl)
 have k0 := h0
 have lt0 : ∀ x ∈ p0,x.block < W.heap.size := by obtain ⟨m,hm⟩ := k0; exact DataW.trod_lt m _ _ _ hm
 obtain ⟨s00,s10,s20,a0,m0,c0,l0,hcs0,hU0,hnc0,b00,b10,b20⟩ := trod_problem h0
 obtain rfl : cs0 = #[.int .u8 s00,.int .u8 s10,.int .u8 s20,.slice a0 m0 c0] := by
   have : cs0.toList = _ := hcs0
   cases cs0; simp_all
 obtain ⟨a1,m1,c1,rfl⟩ := okWide_slice Try.underlying23 (hval 1 23 v1 rfl rfl)
 have k1 := h1
 have lt1 : ∀ x ∈ p1,x.block < W.heap.size := by obtain ⟨m,hm⟩ := k1; exact DataW.trod_lt m _ _ _ hm
 obtain ⟨l1,hU1,hnc1,hml1⟩ : ∃ l,U8s (PH.whole W) a1 m1 l ∧ m1 ≤ c1 ∧ m1 ≤ maxLen := by
   obtain ⟨fu,hm⟩ := h1
   obtain ⟨a,m,k,l,e,hU,hmk,hml⟩ := trod_u8s hm
   simp [Value.cells] at e
   obtain ⟨rfl,rfl,rfl⟩ := e
   exact ⟨l,hU,hmk,hml⟩
 obtain ⟨n2,rfl⟩ := okWide_int Try.underlying5 (hval 2 5 v2 rfl rfl)
 have k2 := h2
 have lt2 : ∀ x ∈ p2,x.block < W.heap.size := by obtain ⟨m,hm⟩ := k2; exact DataW.trod_lt m _ _ _ hm
 have b2 : 0 ≤ n2 ∧ n2 < 256 := by
   obtain ⟨fu,hm⟩ := h2
   obtain ⟨z,e,r⟩ := trod_u8 hm
   simp [Value.cells] at e
   subst e; exact r
 clear hA0 hval0
 refine (walkOf (c9 hU0 hnc0 b00 b10 b20 hU1 hnc1 hml1 b2 fun τ hs => ⟨rfl,hs⟩)).mono fun e W' ⟨he,bel⟩ => ?_
 subst he
 exact ⟨_,rfl,_,_,_,[],_,[],hW',trodAll_mk1 (shut_bool Try.underlying4 _),trodAll_cons_mk (Below.trod laidOut (by kernel_rfl) (of_decide_eq_true (by kernel_rfl)) k0 bel lt0) (trodAll_cons_mk (Below.trod laidOut (by kernel_rfl) (of_decide_eq_true (by kernel_rfl)) k1 bel lt1) (trodAll_cons_mk (Below.trod laidOut (by kernel_rfl) (of_decide_eq_true (by kernel_rfl)) k2 bel lt2) trodAll_mk0)),rfl,bel.frame _,fun h => by cases h⟩
theorem over : Rows.solveStaysRow.holds Try.pinned (OpenSpec.ofChange Rows.solveStaysSpec) :=
 OpenClaim.holds_of_wide 9 Try.f9 rfl rfl rfl rfl rfl rfl rfl ⟨rfl,rfl,rfl,rfl,rfl⟩ rfl rfl rfl rfl rfl (by kernel_rfl) Try.func9 (by kernel_rfl)
   (of_decide_eq_true (by kernel_rfl)) (by unfold Func.isWrapper; first | (rw [if_pos (by decide +kernel)]; kernel_rfl) | (rw [if_neg (by decide +kernel)]; exact ⟨rfl,rfl⟩))
   (fun os started H enc _ => lifted os started H enc)
theorem proved : Rows.SolveStaysSaid := over
end Go.Proofs.Ythfnjogadngfiaa.SolveStays
