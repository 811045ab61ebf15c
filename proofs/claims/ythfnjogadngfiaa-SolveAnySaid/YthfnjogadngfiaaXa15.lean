/- SolveAny answers true at every formula. -/
import Derived.WalkKit
import Derived.ProofKit
import Derived.OpenShut
import Derived.ShutString
import Derived.ChangeOld
import Derived.Below
import Derived.Carry
import Derived.SizedLaws
import Derived.Test.YthfnjogadngfiaaRows
import Derived.Test.YthfnjogadngfiaaXa14
set_option maxRecDepth 100000
set_option linter.unusedVariables false
namespace Go.Proofs.Ythfnjogadngfiaa.SolveAny
open Go.ChangeShapes Go.WideShapes Go.ChangeAt Go.RowKit Go.Sl Go.Sv
theorem own : ownKnob Try.prog.godebug = none := by kernel_rfl
theorem laidOut : laidOutB Try.prog = true := by kernel_rfl
theorem walk {i1 i2 : Int} {aa ca : Option Addr} {an ac cn cc : Nat} {atoms : List Dif} {clauses : List (List Int)} (W : World) (hA : Atoms (PH.whole W) aa an atoms) (hL : Lists (PH.whole W) ca cn clauses) (ha : an ≤ ac) (hcc : cn ≤ cc)
   (han : an ≤ 1152921504606846976) (hcn : cn ≤ 1152921504606846976) (hlen : ∀ c ∈ clauses,c.length ≤ 1152921504606846976) :
   Calls Try.prog 5 #[.agg #[.int .i64 i1,.int .i64 i2,.slice aa an ac,.slice ca cn cc]] W fun e w' => e = .returned (.bool true) ∧ Below W.heap.size W w' := by
 have h : C 5 #[.agg #[.int .i64 i1,.int .i64 i2,.slice aa an ac,.slice ca cn cc]] (fun v τ => v = .bool true ∧ (PH.whole W).sub τ) (PH.whole W) :=
   c5 hA hL ha hcc han hcn hlen fun τ hs => ⟨rfl,hs⟩
 have hm : prog.follows .mixedOrders = true := by kernel_rfl
 refine ((ICall.calls hm SemCall.hc) _ _ _ _ W h (whole_le W)).mono fun e w' hcp => ?_
 obtain ⟨v,τ,rfl,⟨rfl,hs⟩,hle,hfr⟩ := hcp
 refine ⟨rfl,hfr.os,hfr.tape,hfr.output,hfr.size,fun k hk => ?_⟩
 have hg : W.heap[k]? = some W.heap[k] := Array.getElem?_eq_getElem hk
 rw [hg]
 exact hle _ _ (hs _ _ hg)
set_option maxRecDepth 100000 in
theorem lifted (os : Os) (started : os.Started) (H : Type) (enc : TypeId × Value → H) :
   ReturnsInHanded {} Try.checked os 5 .any (Rows.solveAnySpec.pre6 enc Try.prog Try.f5 Rows.solveAnyRow.domain false) (Rows.solveAnySpec.post enc Try.prog Try.f5 false true false false) := by
 refine returnsInHanded_of_change_sized (C := Try.checked) own started (by kernel_rfl) Try.func5
   (ChangeSpec.witness6 (enc := enc) (C := Try.checked) false ⟨#[],#[.agg #[.int .i64 0,.int .i64 0,.slice none 0 0,.slice none 0 0]],[]⟩ 8 (by kernel_rfl) (by kernel_rfl) (by kernel_rfl) (by kernel_rfl)) ?_
 intro W base args ds gs before hval0 hW hcnd hsz0 _
 have hsz : (DataW.weightsEach Try.prog (Try.f5.params.toList ++ Rows.solveAnySpec.plain.varTypes Try.prog) (ds ++ gs)).all (· ≤ reachBytes) = true := hsz0
 clear hsz0
 have hval : ∀ (j : Nat) t v,Try.f5.params[j]? = some t → args[j]? = some v → Value.okWide Try.prog W .any base t v := hval0
 have hW' := hW
 obtain ⟨p,q,hA0,hV,rfl,hfz,hnd⟩ := hW
 have hA : DataW.TrodAll enc Try.prog W 0 (fun _ => true) true Try.f5.params.toList args.toList ds p := hA0
 rw [Try.params5] at hA hval hsz
 obtain ⟨v0,vs0,d0,ds0,p0,q0,hargs,rfl,rfl,h0,r0⟩ := trodAll_cons hA
 obtain ⟨rfl,rfl,rfl⟩ := trodAll_nil r0
 obtain rfl : args = #[v0] := by cases args; simp_all
 obtain ⟨rfl,rfl⟩ := trodVars_none hV
 obtain ⟨cs,rfl,hcsz⟩ := okWide_struct Try.underlying29 (hval 0 29 v0 rfl rfl)
 have k0 := h0
 have lt0 : ∀ x ∈ p0,x.block < W.heap.size := by obtain ⟨m,hm⟩ := k0; exact DataW.trod_lt m _ _ _ hm
 have hw : ∀ n ∈ DataW.weights prog 29 d0,n ≤ reachBytes := by
   intro n hn
   have := List.all_eq_true.1 hsz n (by first | (simp [DataW.weightsEach]; first | exact hn | exact Or.inl hn) | (rw [List.cons_append,List.cons_append,DataW.weightsEach]; exact List.mem_append_left _ hn))
   simpa using this
 obtain ⟨i1,i2,aa,an,ac,ca,cn,cc,atoms,clauses,hcs,hAt,hLi,ha,hcc,han,hcn,hlen⟩ := trod_formula h0 hw
 obtain rfl : cs = #[.int .i64 i1,.int .i64 i2,.slice aa an ac,.slice ca cn cc] := by
   have : cs.toList = _ := hcs
   cases cs; simp_all
 clear hA0 hval0
 refine (walk W hAt hLi ha hcc han hcn hlen).mono fun e W' ⟨he,bel⟩ => ?_
 subst he
 exact ⟨_,rfl,_,_,_,[],_,[],hW',trodAll_mk1 (shut_bool Try.underlying4 _),trodAll_cons_mk (Below.trod laidOut (by kernel_rfl) (of_decide_eq_true (by kernel_rfl)) k0 bel lt0) trodAll_mk0,rfl,bel.frame _,fun h => by cases h⟩
theorem over : Rows.solveAnyRow.holds Try.pinned (OpenSpec.ofChange Rows.solveAnySpec) :=
 OpenClaim.holds_of_wide 5 Try.f5 rfl rfl rfl rfl rfl rfl rfl ⟨rfl,rfl,rfl,rfl,rfl⟩ rfl rfl rfl rfl rfl (by kernel_rfl) Try.func5 (by kernel_rfl)
   (of_decide_eq_true (by kernel_rfl)) (by unfold Func.isWrapper; first | (rw [if_pos (by decide +kernel)]; kernel_rfl) | (rw [if_neg (by decide +kernel)]; exact ⟨rfl,rfl⟩))
   (fun os started H enc _ => lifted os started H enc)
theorem proved : Rows.SolveAnySaid := over
end Go.Proofs.Ythfnjogadngfiaa.SolveAny
