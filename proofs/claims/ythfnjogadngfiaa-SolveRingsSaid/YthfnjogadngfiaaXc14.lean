/- A part of the proof: see the last text, YthfnjogadngfiaaXc15. -/
import Derived.Test.YthfnjogadngfiaaXc13
set_option maxRecDepth 100000
set_option linter.unusedVariables false
set_option linter.unusedSimpArgs false
namespace Go.Proofs.Ythfnjogadngfiaa
open Go.Sl Go.Sv
theorem bounds_get {F : Fm} : ∀ {lits : List Int} {l : List Dif},bounds F lits = some l → ∀ (i : Nat) x,lits[i]? = some x → ∃ d,bound F x = some d ∧ l[i]? = some d
 | [],l,h,i,x,hx => by simp at hx
 | y :: t,l,h,i,x,hx => by
   unfold bounds at h
   split at h
   · cases h
   · rename_i d hd
     split at h
     · cases h
     · rename_i l' hl'
       cases h
       cases i with
       | zero => simp at hx; subst hx; exact ⟨d,hd,rfl⟩
       | succ i => exact bounds_get hl' i x (by simpa using hx)
theorem bound_C {F : Fm} (hC : ∀ d ∈ F.atoms,-1048576 ≤ d.2.2 ∧ d.2.2 ≤ 1048576) {x : Int} {d : Dif} (h : bound F x = some d) : -1048577 ≤ d.2.2 ∧ d.2.2 ≤ 1048577 := by
 unfold bound at h
 split at h
 · cases h
 · split at h
   · cases h
   · rename_i a b c hat
     have := hC _ (List.mem_of_getElem? hat)
     dsimp only at this
     split at h <;> cases h <;> dsimp only <;> omega
theorem c65 {σ : PH} {i1 i2 : Int} {aa : Option Addr} {an ac : Nat} {ca : Option Addr} {cn cc : Nat} {F : Fm} (hA : Atoms σ aa an F.atoms) (hC : ∀ d ∈ F.atoms,-1048576 ≤ d.2.2 ∧ d.2.2 ≤ 1048576) (han : an ≤ 1000000) {a : Option Addr} {n c : Nat} {lits : List Int} (hI : Ints σ a n lits) (hL : ∀ x ∈ lits,Lit x) {out : List Int} (hcy : cyclic F lits = some out) {Q : Value → PH → Prop}
   (hQ : ∀ τ (sl : Sli),σ.sub τ → Own τ 3 1 sl.a sl.n sl.c (ints out) → (∀ p,sl.a = some p → σ p.block = none) → Q (.tuple #[sl.v,.bool true]) τ) :
   C 65 #[.agg #[.int .i64 i1,.int .i64 i2,.slice aa an ac,.slice ca cn cc],.slice a n c] Q σ := by
 refine go (E65_0 _ _ _ _ _ _ _ _ _ _ _ _ _ _) ?_
 unfold S65_0
 have e0 : ∀ b : Nat,(Addr.mk b 0 none).add 0 = ⟨b,0,none⟩ := fun b => rfl
 have hln := hI.1
 unfold cyclic at hcy
 split at hcy
 · cases hcy
 rename_i l hb
 have hrl : ring l ∧ lits.length ≤ 1000 := by
   apply Classical.byContradiction
   intro h
   rw [if_neg h] at hcy; cases hcy
 rw [if_pos hrl] at hcy
 obtain ⟨hring,hlen⟩ := hrl
 have hll := bounds_len hb
 intro b12 h12
 have s12 := PH.sub_set (o := .cells #[.int .i64 i1,.int .i64 i2,.slice aa an ac,.slice ca cn cc] 29) h12
 have B12 : Blk (σ.set b12 (.cells #[.int .i64 i1,.int .i64 i2,.slice aa an ac,.slice ca cn cc] 29)) b12 29 [.int .i64 i1,.int .i64 i2,.slice aa an ac,.slice ca cn cc] := set_self
 generalize σ.set b12 (.cells #[.int .i64 i1,.int .i64 i2,.slice aa an ac,.slice ca cn cc] 29) = ω at *
 unfold S65_1
 refine iloopS_for (G := Sli × Sli × Sli) (fun k g => (ptr b12,g.1.a,g.1.n,g.1.c,g.2.1.a,g.2.1.n,g.2.1.c,g.2.2.a,g.2.2.n,g.2.2.c,a,n,c,(n : Int),(k : Int)))
   (fun k g υ => Tri ω υ g.1 (l.take k) g.2.1 (upto k) g.2.2 ((lits.take k).map (- ·))) n ?_ (g := (⟨none,0,0⟩,⟨none,0,0⟩,⟨none,0,0⟩))
   ⟨⟨.refl _,own_nil,own_nil,(fun _ h => by cases h),(fun _ h => by cases h),fun _ _ h => by cases h⟩,own_nil,(fun _ h => by cases h),(fun _ _ h => by cases h),fun _ _ h => by cases h⟩
 rintro k ⟨sl,sc,sn⟩ υ hk Tr R hR
 unfold S65_2
 dsimp only at Tr hR ⊢
 have hs := Tr.col.sub
 have hσ := s12.trans hs
 refine br_dec.2 ⟨fun hlt => ?_,fun hge => ?_⟩
 · have hkn : k < n := by omega
   obtain ⟨x,hx⟩ : ∃ x,lits[k]? = some x := ⟨_,List.getElem?_eq_getElem (by omega)⟩
   obtain ⟨d,hbd,hd⟩ := bounds_get hb k x hx
   have hxL := hL x (List.mem_of_getElem? hx)
   obtain ⟨p,hp,hc⟩ := (hI.sub hσ).2.at (i := k) (v := .int .i64 x) (by simp [hx])
   have wk : IntKind.wrap .i64 ((k : Int) + 1) = ((k + 1 : Nat) : Int) := by rw [w64 (by omega) (by omega)]; omega
   have wx : IntKind.wrap .i64 (0 - x) = -x := by unfold Lit at hxL; rw [w64 (by omega) (by omega)]; omega
   have Bu : Blk υ b12 29 _ := hs _ _ B12
   have g0 := Bu.get (i := 0) rfl
   rw [e0] at g0
   refine ⟨p,hp,by omega,by omega,_,by rw [Int.toNat_natCast,Nat.mul_one]; exact hc,x,rfl,_,g0,_,Bu.get (i := 1) rfl,_,Bu.get (i := 2) rfl,_,Bu.get (i := 3) rfl,_,_,_,_,_,_,_,_,rfl,?_⟩
   refine c33 (hA.sub hσ) hC han hxL fun τ hsτ => ⟨τ,.refl _,?_⟩
   rw [hbd]
   refine ⟨d.1,d.2.1,d.2.2,true,rfl,fun b65 h65 => ?_⟩
   simp only [newSet,newSet0,newCell,newCell0,newFroz,newFroz0,List.setIfInBounds_toArray,List.set_cons_zero,List.set_cons_succ,List.getElem?_toArray,List.getElem?_cons_zero,List.getElem?_cons_succ,Option.some.injEq,exists_eq',true_and,Value.int.injEq,exists_eq_left']
   refine br_iff.2 ⟨fun h => (by cases h),fun _ => ⟨_,_,_,rfl,fun b75 h75 => ?_⟩⟩
   have T2 := (Tr.grow hsτ).grow (PH.sub_set (o := .cells #[.int .i64 d.1,.int .i64 d.2.1,.int .i64 d.2.2] 50) h65)
   have := T2.push d (k : Int) (-x) (by rw [List.length_take]; omega) (by rw [upto_len]; omega) (by rw [List.length_map,List.length_take]; omega) h75 (R := fun sl' sc' sn' τ => R (ptr b12,sl'.a,sl'.n,sl'.c,sc'.a,sc'.n,sc'.c,sn'.a,sn'.n,sn'.c,a,n,c,(n : Int),IntKind.wrap .i64 ((k : Int) + 1)) τ) fun sl' sc' sn' τ' hT => by
     rw [wk]
     refine hR (sl',sc',sn') _ hkn ?_
     show Tri ω τ' sl' (l.take (k + 1)) sc' (upto (k + 1)) sn' ((lits.take (k + 1)).map (- ·))
     rw [List.take_add_one,hd,upto_succ,List.take_add_one,hx,List.map_append]
     exact hT
   rw [wx]
   exact this
 · have hkn : k = n := by omega
   subst hkn
   have hlt : l.take k = l := List.take_of_length_le (by omega)
   have hlt2 : lits.take k = lits := List.take_of_length_le (by omega)
   rw [hlt,hlt2] at Tr
   have hK : ∀ d ∈ l,-1048577 ≤ d.2.2 ∧ d.2.2 ≤ 1048577 := by
     intro d hd
     obtain ⟨y,_,hy⟩ := bounds_mem hb d hd
     exact bound_C hC hy
   have hon := own_len Tr.col.oi
   rw [upto_len] at hon
   have hIu := own_ints Tr.col.oi
   have hAt := own_atoms Tr.col.ol
   rw [hon] at hIu
   rw [hon]
   refine c87 hAt hIu (by omega) (by omega) hK hring ⟨υ,.refl _,true,rfl,br_iff.2 ⟨fun h => (by cases h),fun _ => ?_⟩⟩
   refine c62 (own_ints Tr.on) (fun y hy => ?_) (by rw [List.length_map]; omega) (fun τ sl' out' hs' ho hO hnew => ?_) fun τ _ hno => ?_
   · obtain ⟨z,hz,rfl⟩ := List.mem_map.1 hy
     have := hL z hz
     unfold Lit at this ⊢
     omega
   · rw [hcy] at ho; cases ho
     exact ⟨τ,.refl _,_,_,_,_,rfl,hQ τ sl' (hσ.trans hs') hO fun p hp => new_of hσ (hnew p hp)⟩
   · rw [hcy] at hno; cases hno
theorem growNew {σ υ : PH} {sl : Sli} {o : List Int} (hs : σ.sub υ) (hO : Own υ 3 1 sl.a sl.n sl.c (ints o)) (hnew : ∀ p,sl.a = some p → σ p.block = none) (x : Int) (hn : o.length ≤ 1000000) {b : Nat} (hb : υ b = none) {R : Option Addr → Nat → Nat → PH → Prop}
   (hR : ∀ (sl' : Sli) τ,σ.sub τ → Own τ 3 1 sl'.a sl'.n sl'.c (ints (o ++ [x])) → (∀ p,sl'.a = some p → σ p.block = none) → R sl'.a sl'.n sl'.c τ) :
   iappend prog 3 (.slice sl.a sl.n sl.c) (.slice (some ⟨b,0,none⟩) 1 1) (fun v τ => ∃ (a : Option Addr) (n c : Nat),v = (.slice a n c) ∧ R a n c τ) (PH.set υ b (.cells #[(.int .i64 x)] 3)) := by
 have hon := own_len hO
 refine pushRow t3.1 t3.2.1 t3.2.2 rfl (by decide) hO hb (news := [.int .i64 x]) rfl ?_ (by omega) ?_
 · intro v hv; simp at hv; subst hv; trivial
 · intro a c τ hO' hst hnew'
   refine ⟨_,_,_,rfl,hR ⟨a,sl.n + 1,c⟩ τ (sub_step_new hs hst (by rintro q ⟨p,h1,rfl⟩; exact hnew p h1)) (by simpa [ints] using hO') fun p hp => ?_⟩
   rcases hnew' p hp with ⟨p',h1,h2⟩ | h1
   · rw [h2]; exact hnew p' h1
   · exact new_of hs h1
theorem c48 {σ : PH} {a1 a2 : Option Addr} {n1 c1 n2 c2 : Nat} {p q : List Int} (h1 : Ints σ a1 n1 p) (h2 : Ints σ a2 n2 q) (hp : ∀ x ∈ p,Lit x) (hq : ∀ x ∈ q,Lit x) (hl1 : p.length ≤ 100000) (hl2 : q.length ≤ 100000) {v : Int} {out : List Int} (hr : resolvent p q v = some out) {Q : Value → PH → Prop}
   (hQ : ∀ τ (sl : Sli),σ.sub τ → Own τ 3 1 sl.a sl.n sl.c (ints out) → (∀ p,sl.a = some p → σ p.block = none) → Q (.tuple #[sl.v,.bool true]) τ) :
   C 48 #[.slice a1 n1 c1,.slice a2 n2 c2,.int .i64 v] Q σ := by
 refine go (E48_0 _ _ _ _ _ _ _ _ _ _) ?_
 unfold S48_0
 have hln1 := h1.1
 have hln2 := h2.1
 unfold resolvent at hr
 have hc : 0 ≤ v ∧ v < 1024 ∧ v + 1 ∈ p ∧ -(v + 1) ∈ q := by
   apply Classical.byContradiction
   intro h
   rw [if_neg h] at hr; cases hr
 rw [if_pos hc] at hr
 obtain ⟨v0,v1,hm1,hm2⟩ := hc
 have wv : IntKind.wrap .i64 (v + 1) = v + 1 := w64 (by omega) (by omega)
 have wn : IntKind.wrap .i64 (0 - (v + 1)) = -(v + 1) := by rw [w64 (by omega) (by omega)]; omega
 refine br_dec.2 ⟨fun h => by omega,fun _ => br_dec.2 ⟨fun h => by omega,fun _ => ?_⟩⟩
 rw [wv,wn]
 refine (c66 (by unfold Len; omega) h1).mono hb ?_
 rintro _ τ ⟨rfl,eτ⟩
 obtain rfl := eτ.symm
 refine ⟨_,.refl _,_,rfl,br_iff.2 ⟨fun h => ?_,fun _ => ?_⟩⟩
 · simp [hm1] at h
 refine (c66 (by unfold Len; omega) h2).mono hb ?_
 rintro _ τ ⟨rfl,eτ⟩
 obtain rfl := eτ.symm
 refine ⟨_,.refl _,_,rfl,br_iff.2 ⟨fun h => ?_,fun _ => ?_⟩⟩
 · simp [hm2] at h
 unfold S48_1
 refine iloopS_for (G := Sli) (fun k sl => (a2,n2,c2,v,sl.a,sl.n,sl.c,a1,n1,c1,(n1 : Int),(k : Int))) (fun k sl υ => σ.sub υ ∧ Own υ 3 1 sl.a sl.n sl.c (ints ((p.take k).filter (· != v + 1))) ∧ ∀ q,sl.a = some q → σ q.block = none) n1 ?_ (g := ⟨none,0,0⟩) ⟨.refl _,own_nil,fun q hq => by cases hq⟩
 rintro k sl υ hk ⟨hs,hO,hnew⟩ R hR
 unfold S48_2
 dsimp only at hO hnew ⊢
 have hfl : ((p.take k).filter (· != v + 1)).length ≤ k := Nat.le_trans (List.length_filter_le _ _) (by rw [List.length_take]; omega)
 refine br_dec.2 ⟨fun hlt => ?_,fun hge => ?_⟩
 · have hkn : k < n1 := by omega
   obtain ⟨x,hx⟩ : ∃ x,p[k]? = some x := ⟨_,List.getElem?_eq_getElem (by omega)⟩
   obtain ⟨pa,hpa,hcx⟩ := (h1.sub hs).2.at (i := k) (v := .int .i64 x) (by simp [hx])
   have wk : IntKind.wrap .i64 ((k : Int) + 1) = ((k + 1 : Nat) : Int) := by rw [w64 (by omega) (by omega)]; omega
   have htk : (p.take (k + 1)).filter (· != v + 1) = (p.take k).filter (· != v + 1) ++ (if x = v + 1 then [] else [x]) := by
     rw [List.take_add_one,hx,List.filter_append]
     by_cases e : x = v + 1
     · simp [e]
     · simp [e]
   rw [wv]
   refine ⟨pa,hpa,by omega,by omega,_,by rw [Int.toNat_natCast,Nat.mul_one]; exact hcx,x,rfl,br_iff.2 ⟨fun hne b hbn => ?_,fun he => ?_⟩⟩
   · have hne : x ≠ v + 1 := by simpa using hne
     rw [if_neg hne] at htk
     rw [wk]
     exact growNew hs hO hnew x (by omega) hbn (R := fun a n c τ => R (a2,n2,c2,v,a,n,c,a1,n1,c1,(n1 : Int),((k + 1 : Nat) : Int)) τ) fun sl' τ h3 h4 h5 => hR sl' τ hkn ⟨h3,by rw [htk]; exact h4,h5⟩
   · have he : x = v + 1 := by simpa using he
     rw [if_pos he,List.append_nil] at htk
     rw [wk]
     exact hR sl υ hkn ⟨hs,by rw [htk]; exact hO,hnew⟩
 · have hkn : k = n1 := by omega
   subst hkn
   rw [List.take_of_length_le (by omega)] at hO hfl
   unfold S48_3
   refine iloopS_for (G := Sli) (fun k2 sl => (v,sl.a,sl.n,sl.c,a2,n2,c2,(n2 : Int),(k2 : Int))) (fun k2 sl υ => σ.sub υ ∧ Own υ 3 1 sl.a sl.n sl.c (ints (p.filter (· != v + 1) ++ (q.take k2).filter (· != -(v + 1)))) ∧ ∀ q,sl.a = some q → σ q.block = none) n2 ?_ (g := sl) ⟨hs,by simpa using hO,hnew⟩
   clear hs hO hnew hR R υ sl
   rintro k2 sl υ hk2 ⟨hs,hO,hnew⟩ R hR
   unfold S48_4
   dsimp only at hO hnew ⊢
   have hfl2 : ((q.take k2).filter (· != -(v + 1))).length ≤ k2 := Nat.le_trans (List.length_filter_le _ _) (by rw [List.length_take]; omega)
   refine br_dec.2 ⟨fun hlt => ?_,fun hge => ?_⟩
   · have hkn : k2 < n2 := by omega
     obtain ⟨x,hx⟩ : ∃ x,q[k2]? = some x := ⟨_,List.getElem?_eq_getElem (by omega)⟩
     obtain ⟨pa,hpa,hcx⟩ := (h2.sub hs).2.at (i := k2) (v := .int .i64 x) (by simp [hx])
     have wk : IntKind.wrap .i64 ((k2 : Int) + 1) = ((k2 + 1 : Nat) : Int) := by rw [w64 (by omega) (by omega)]; omega
     have htk : p.filter (· != v + 1) ++ (q.take (k2 + 1)).filter (· != -(v + 1)) = (p.filter (· != v + 1) ++ (q.take k2).filter (· != -(v + 1))) ++ (if x = -(v + 1) then [] else [x]) := by
       rw [List.take_add_one,hx,List.filter_append]
       by_cases e : x = -(v + 1)
       · simp [e]
       · simp [e]
     rw [wv,wn]
     refine ⟨pa,hpa,by omega,by omega,_,by rw [Int.toNat_natCast,Nat.mul_one]; exact hcx,x,rfl,br_iff.2 ⟨fun hne b hbn => ?_,fun he => ?_⟩⟩
     · have hne : x ≠ -(v + 1) := by simpa using hne
       rw [if_neg hne] at htk
       rw [wk]
       exact growNew hs hO hnew x (by rw [List.length_append]; omega) hbn (R := fun a n c τ => R (v,a,n,c,a2,n2,c2,(n2 : Int),((k2 + 1 : Nat) : Int)) τ) fun sl' τ h3 h4 h5 => hR sl' τ hkn ⟨h3,by rw [htk]; exact h4,h5⟩
     · have he : x = -(v + 1) := by simpa using he
       rw [if_pos he,List.append_nil] at htk
       rw [wk]
       exact hR sl υ hkn ⟨hs,by rw [htk]; exact hO,hnew⟩
   · have hkn : k2 = n2 := by omega
     subst hkn
     rw [List.take_of_length_le (by omega)] at hO hfl2
     refine c62 (own_ints hO) (fun y hy => ?_) (by rw [List.length_append]; omega) (fun τ sl' out' hs' ho hO' hnew' => ?_) fun τ _ hno => ?_
     · rcases List.mem_append.1 hy with hy | hy
       · exact hp y (List.mem_filter.1 hy).1
       · exact hq y (List.mem_filter.1 hy).1
     · rw [hr] at ho; cases ho
       exact ⟨τ,.refl _,_,_,_,_,rfl,hQ τ sl' (hs.trans hs') hO' fun p hp => new_of hs (hnew' p hp)⟩
     · rw [hr] at hno; cases hno
end Go.Proofs.Ythfnjogadngfiaa
namespace Go.Sv
theorem stepsFrom_pre {F : Fm} : ∀ {l : List PStep} {acc cs : List (List Int)},stepsFrom F acc l = some cs → cs.take acc.length = acc ∧ cs.length = acc.length + l.length ∧ ∀ (i : Nat) s,l[i]? = some s → ∃ c,cs[acc.length + i]? = some c ∧ stepClause F (cs.take (acc.length + i)) s = some c
 | [],acc,cs,h => by
   simp only [stepsFrom,Option.some.injEq] at h
   subst h
   simp
 | s :: l,acc,cs,h => by
   unfold stepsFrom at h
   split at h
   · cases h
   · rename_i c hc
     obtain ⟨h1,h2,h3⟩ := stepsFrom_pre h
     have e1 : (acc ++ [c]).length = acc.length + 1 := by simp
     rw [e1] at h1 h2 h3
     have ht : cs.take acc.length = acc := by
       have := congrArg (List.take acc.length) h1
       rw [List.take_take] at this
       simpa using this
     refine ⟨ht,by simp; omega,fun i t hi => ?_⟩
     cases i with
     | zero =>
       simp at hi; subst hi
       refine ⟨c,?_,by rw [Nat.add_zero,ht]; exact hc⟩
       have : (cs.take (acc.length + 1))[acc.length]? = some c := by rw [h1]; simp
       rw [List.getElem?_take] at this
       simpa using this
     | succ i =>
       obtain ⟨d,q1,q2⟩ := h3 i t (by simpa using hi)
       refine ⟨d,by rw [show acc.length + (i + 1) = acc.length + 1 + i from by omega]; exact q1,by rw [show acc.length + (i + 1) = acc.length + 1 + i from by omega]; exact q2⟩
theorem stepsOf_pre {F : Fm} {l : List PStep} {cs : List (List Int)} (h : stepsOf F l = some cs) : cs.length = l.length ∧ ∀ (i : Nat) s,l[i]? = some s → ∃ c,cs[i]? = some c ∧ stepClause F (cs.take i) s = some c := by
 obtain ⟨_,h2,h3⟩ := stepsFrom_pre h
 refine ⟨by simpa using h2,fun i s hs => ?_⟩
 obtain ⟨c,q1,q2⟩ := h3 i s hs
 exact ⟨c,by simpa using q1,by simpa using q2⟩
theorem bound_litN {F : Fm} (hF : FOk F) {x : Int} {d : Dif} (h : bound F x = some d) : LitN F.bools x := by
 unfold bound at h
 split at h
 · cases h
 · rename_i h0
   split at h
   · cases h
   · rename_i a b c hat
     have := (List.getElem?_eq_some_iff.1 hat).1
     have := hF.atoms
     refine ⟨h0,?_⟩
     unfold vr at *
     omega
theorem bounds_litN {F : Fm} (hF : FOk F) : ∀ {lits : List Int} {l : List Dif},bounds F lits = some l → ∀ x ∈ lits,LitN F.bools x
 | [],_,_,x,hx => by simp at hx
 | y :: t,l,h,x,hx => by
   unfold bounds at h
   split at h
   · cases h
   · rename_i d hd
     split at h
     · cases h
     · rename_i l' hl'
       rcases List.mem_cons.1 hx with rfl | hx
       · exact bound_litN hF hd
       · exact bounds_litN hF hl' x hx
theorem cyclic_litN {F : Fm} (hF : FOk F) {lits out : List Int} (h : cyclic F lits = some out) : (∀ x ∈ lits,LitN F.bools x) ∧ norm (lits.map (- ·)) = some out := by
 unfold cyclic at h
 split at h
 · cases h
 · rename_i l hb
   split at h
   · exact ⟨bounds_litN hF hb,h⟩
   · cases h
theorem resolvent_some {p q out : List Int} {v : Int} (h : resolvent p q v = some out) : norm (p.filter (· != v + 1) ++ q.filter (· != -(v + 1))) = some out := by
 unfold resolvent at h
 split at h
 · exact h
 · cases h
theorem steps_lit {F : Fm} (hF : FOk F) {l : List PStep} {cs : List (List Int)} (h : stepsOf F l = some cs) : ∀ (i : Nat) c,cs[i]? = some c → SortedA c ∧ ∀ x ∈ c,LitN F.bools x := by
 obtain ⟨hlen,hat⟩ := stepsOf_pre h
 intro i
 induction i using Nat.strongRecOn with
 | ind i ih =>
   intro c hc
   have hi := (List.getElem?_eq_some_iff.1 hc).1
   obtain ⟨s,hs⟩ : ∃ s,l[i]? = some s := ⟨_,List.getElem?_eq_getElem (by omega)⟩
   obtain ⟨c',q1,q2⟩ := hat i s hs
   rw [hc] at q1; cases q1
   have fin : ∀ {d : List Int},norm d = some c → (∀ x ∈ d,LitN F.bools x) → SortedA c ∧ ∀ x ∈ c,LitN F.bools x := fun hd hl => by
     obtain ⟨h1,h2,_⟩ := norm_some hd
     exact ⟨h1,fun x hx => hl x ((h2 x).1 hx)⟩
   unfold stepClause at q2
   split at q2
   · split at q2
     · split at q2
       · rename_i d hd
         exact fin q2 (hF.cl d (List.mem_of_getElem? hd))
       · cases q2
     · cases q2
   · split at q2
     · obtain ⟨h1,h2⟩ := cyclic_litN hF q2
       refine fin h2 fun x hx => ?_
       obtain ⟨y,hy,rfl⟩ := List.mem_map.1 hx
       exact (h1 y hy).neg
     · split at q2
       · split at q2
         · split at q2
           · rename_i a b ha hb
             rw [List.getElem?_take] at ha hb
             split at ha
             · rename_i hp
               split at hb
               · rename_i hq
                 refine fin (resolvent_some q2) fun x hx => ?_
                 rcases List.mem_append.1 hx with hx | hx
                 · exact (ih _ hp a ha).2 x (List.mem_filter.1 hx).1
                 · exact (ih _ hq b hb).2 x (List.mem_filter.1 hx).1
               · cases hb
             · cases ha
           · cases q2
         · cases q2
       · cases q2
theorem sorted_len {n : Nat} {c : List Int} (h : SortedA c) (hl : ∀ x ∈ c,LitN n x) : c.length ≤ n := by
 have hd : (c.map vr).Nodup := by
   rw [List.nodup_iff_pairwise_ne,List.pairwise_map]
   refine List.Pairwise.imp_of_mem ?_ h
   intro a b ha hb hab
   have := (hl a ha).1
   have := (hl b hb).1
   unfold vr; omega
 have := hd.length_le_of_subset (l₂ := List.range n) fun v hv => by
   obtain ⟨x,hx,rfl⟩ := List.mem_map.1 hv
   exact List.mem_range.2 (hl x hx).vr_lt
 simpa using this
end Go.Sv
namespace Go.Proofs.Ythfnjogadngfiaa
open Go.Sl Go.Sv
def CS (σ υ : PH) (sl : Sli) (cs : List (List Int)) : Prop :=
 ∃ (σ' : PH) (vs : List Value),σ.sub σ' ∧ σ'.sub υ ∧ Own υ 33 1 sl.a sl.n sl.c vs ∧ (∀ p,sl.a = some p → σ' p.block = none) ∧ vs.length = cs.length ∧ ∀ (i : Nat) c,cs[i]? = some c → ∃ x m k,vs[i]? = some (.slice x m k) ∧ Ints σ' x m c ∧ m ≤ k
theorem CS.grow {σ υ τ : PH} {sl : Sli} {cs : List (List Int)} (h : CS σ υ sl cs) (hs : υ.sub τ) : CS σ τ sl cs := by
 obtain ⟨σ',vs,h1,h2,h3,h4,h5,h6⟩ := h
 exact ⟨σ',vs,h1,h2.trans hs,h3.keep (M := fun _ => False) hs.step fun _ _ h => h,h4,h5,h6⟩
theorem CS.sub {σ υ : PH} {sl : Sli} {cs : List (List Int)} (h : CS σ υ sl cs) : σ.sub υ := by
 obtain ⟨σ',vs,h1,h2,_⟩ := h
 exact h1.trans h2
theorem CS.get {σ υ : PH} {sl : Sli} {cs : List (List Int)} (h : CS σ υ sl cs) {i : Nat} {c : List Int} (hc : cs[i]? = some c) : ∃ p x m k,sl.a = some p ∧ υ.cell? (p.add i) = some (.slice x m k) ∧ Ints υ x m c ∧ sl.n = cs.length := by
 obtain ⟨σ',vs,h1,h2,h3,h4,h5,h6⟩ := h
 obtain ⟨x,m,k,q1,q2,q3⟩ := h6 i c hc
 obtain ⟨p,hp,hcell⟩ := h3.get q1
 refine ⟨p,x,m,k,hp,hcell,q2.sub h2,?_⟩
 have := h3.len
 omega
theorem CS.len {σ υ : PH} {sl : Sli} {cs : List (List Int)} (h : CS σ υ sl cs) : sl.n = cs.length := by
 obtain ⟨σ',vs,h1,h2,h3,h4,h5,h6⟩ := h
 have := h3.len
 omega
open Classical in
theorem CS.push {σ υ : PH} {sl : Sli} {cs : List (List Int)} (h : CS σ υ sl cs) {x : Option Addr} {m k : Nat} {c : List Int} (hI : Own υ 3 1 x m k (ints c)) (hx : ∀ p,x = some p → ∀ q,sl.a = some q → p.block ≠ q.block) (hn : cs.length ≤ 4000000000000) {b : Nat} (hb : υ b = none) {R : Option Addr → Nat → Nat → PH → Prop}
   (hR : ∀ (sl' : Sli) τ,CS σ τ sl' (cs ++ [c]) → R sl'.a sl'.n sl'.c τ) :
   iappend prog 33 (.slice sl.a sl.n sl.c) (.slice (some ⟨b,0,none⟩) 1 1) (fun v τ => ∃ (a : Option Addr) (n c : Nat),v = (.slice a n c) ∧ R a n c τ) (PH.set υ b (.cells #[(.slice x m k)] 33)) := by
 have hln := h.len
 obtain ⟨σ',vs,h1,h2,h3,h4,h5,h6⟩ := h
 refine pushRow t33.1 t33.2.1 t33.2.2 rfl (by decide) h3 hb (news := [.slice x m k]) rfl ?_ (by omega) ?_
 · intro v hv; simp at hv; subst hv; trivial
 · intro a' c' τ hO hst hnew
   obtain ⟨σ'',hσ''⟩ : ∃ σ'' : PH,σ'' = fun b => if ∃ q,sl.a = some q ∧ b = q.block then none else υ b := ⟨_,rfl⟩
   have in' : ∀ b,(∀ q,sl.a = some q → b ≠ q.block) → σ'' b = υ b := fun b hb => by rw [hσ'']; exact if_neg (by rintro ⟨q,g1,g2⟩; exact hb q g1 g2)
   have out' : ∀ q,sl.a = some q → σ'' q.block = none := fun q hq => by rw [hσ'']; exact if_pos ⟨q,hq,rfl⟩
   have s1 : σ'.sub σ'' := by
     intro b0 o ho
     rw [in' b0 (by rintro q hq rfl; rw [h4 q hq] at ho; cases ho)]
     exact h2 b0 o ho
   have s2 : σ''.sub υ := by
     intro b0 o ho
     by_cases hq : ∃ q,sl.a = some q ∧ b0 = q.block
     · obtain ⟨q,g1,rfl⟩ := hq
       rw [out' q g1] at ho; cases ho
     · rw [in' b0 (fun q g1 g2 => hq ⟨q,g1,g2⟩)] at ho; exact ho
   have sτ : σ''.sub τ := by
     intro b0 o ho
     refine hst.same b0 o (s2 b0 o ho) ?_
     rintro ⟨q,g1,rfl⟩
     rw [out' q g1] at ho; cases ho
   have hOx : Own σ'' 3 1 x m k (ints c) := by
     refine ⟨hI.len,hI.le,?_⟩
     rcases hI.row with g | ⟨b0,arr,g1,g2,g3⟩
     · exact .inl g
     · exact .inr ⟨b0,arr,g1,(in' b0 (fun q hq => hx _ g1 q hq)).trans g2,g3⟩
   refine ⟨_,_,_,rfl,hR ⟨a',sl.n + 1,c'⟩ τ ⟨σ'',vs ++ [.slice x m k],h1.trans s1,sτ,hO,fun p hp => ?_,by simp [h5],fun i c0 hc0 => ?_⟩⟩
   · rcases hnew p hp with ⟨p',g1,g2⟩ | g1
     · rw [g2]; exact out' p' g1
     · exact new_of s2 g1
   · by_cases hi : i < cs.length
     · rw [List.getElem?_append_left hi] at hc0
       obtain ⟨y,m',k',g1,g2,g3⟩ := h6 i c0 hc0
       exact ⟨y,m',k',by rw [List.getElem?_append_left (by omega)]; exact g1,g2.sub s1,g3⟩
     · rw [List.getElem?_append_right (by omega)] at hc0
       have hi0 : i = cs.length := by have := (List.getElem?_eq_some_iff.1 hc0).1; simp at this; omega
       subst hi0
       simp at hc0
       subst hc0
       exact ⟨x,m,k,by rw [List.getElem?_append_right (by omega)]; simp [h5],own_ints hOx,hI.le⟩
theorem c60 {σ : PH} {F : Fm} (hF : FOk F) (hlen : ∀ c ∈ F.clauses,c.length ≤ 1000000) {aa ca : Option Addr} {an ac cn cc : Nat} (hA : Atoms σ aa an F.atoms) (hL : Lists σ ca cn F.clauses) {a : Option Addr} {n c : Nat} {ps : List PStep} (hS : StepsM σ a n ps) {cs : List (List Int)} (hcs : stepsOf F ps = some cs) (hn : n ≤ 3500000000000) {Q : Value → PH → Prop}
   (hQ : ∀ τ (sl : Sli),CS σ τ sl cs → Q (.tuple #[sl.v,.int .i64 (-1)]) τ) :
   C 60 #[.agg #[.int .i64 F.ints,.int .i64 F.bools,.slice aa an ac,.slice ca cn cc],.slice a n c] Q σ := by
 refine go (E60_0 _ _ _ _ _ _ _ _ _ _ _ _ _ _) ?_
 unfold S60_0
 have e0 : ∀ b : Nat,(Addr.mk b 0 none).add 0 = ⟨b,0,none⟩ := fun b => rfl
 obtain ⟨hcl,hat⟩ := stepsOf_pre hcs
 have hlit := steps_lit hF hcs
 have hnb := hF.bools
 have hpl := hS.1
 have hAn := hA.1
 have hal := hF.atoms
 have hC : ∀ d ∈ F.atoms,-1048576 ≤ d.2.2 ∧ d.2.2 ≤ 1048576 := fun d hd => (hF.at' d hd).2.2.2.2.2
 intro b12 h12
 have s12 := PH.sub_set (o := .cells #[.int .i64 F.ints,.int .i64 F.bools,.slice aa an ac,.slice ca cn cc] 29) h12
 have B12 : Blk (σ.set b12 (.cells #[.int .i64 F.ints,.int .i64 F.bools,.slice aa an ac,.slice ca cn cc] 29)) b12 29 [.int .i64 F.ints,.int .i64 F.bools,.slice aa an ac,.slice ca cn cc] := set_self
 generalize σ.set b12 (.cells #[.int .i64 F.ints,.int .i64 F.bools,.slice aa an ac,.slice ca cn cc] 29) = ω at *
 unfold S60_1
 refine iloopS_for (G := Sli) (fun k sl => (ptr b12,sl.a,sl.n,sl.c,a,n,c,(n : Int),(k : Int))) (fun k sl υ => CS ω υ sl (cs.take k)) n ?_ (g := ⟨none,0,0⟩)
   ⟨ω,[],.refl _,.refl _,own_nil,fun p hp => (by cases hp),by simp,fun i c hc => by simp at hc⟩
 rintro k sl υ hk hCS R hR
 unfold S60_2
 dsimp only at hCS ⊢
 have hsω := hCS.sub
 have hσ := s12.trans hsω
 refine br_dec.2 ⟨fun hlt => ?_,fun hge => ?_⟩
 · have hkn : k < n := by omega
   obtain ⟨p,hp⟩ : ∃ p,ps[k]? = some p := ⟨_,List.getElem?_eq_getElem (by omega)⟩
   obtain ⟨c0,hc0,hstep⟩ := hat k p hp
   obtain ⟨hsort,hclit⟩ := hlit k c0 hc0
   obtain ⟨q,x,m,kk,hq,r0,r1,r2,rI,rmk,r3,r4,r5⟩ := (hS.sub hσ).2 k p hp
   have wk : IntKind.wrap .i64 ((k : Int) + 1) = ((k + 1 : Nat) : Int) := by rw [w64 (by omega) (by omega)]; omega
   refine ⟨q,hq,by omega,by omega,_,by rw [Int.toNat_natCast]; exact r0,_,by rw [Int.toNat_natCast]; exact r1,_,by rw [Int.toNat_natCast]; exact r2,_,by rw [Int.toNat_natCast]; exact r3,_,by rw [Int.toNat_natCast]; exact r4,_,by rw [Int.toNat_natCast]; exact r5,_,_,_,_,_,_,_,_,rfl,fun b46 h46 => ?_⟩
   simp only [newSet,newSet0,newCell,newCell0,newFroz,newFroz0,List.setIfInBounds_toArray,List.set_cons_zero,List.set_cons_succ,List.getElem?_toArray,List.getElem?_cons_zero,List.getElem?_cons_succ,Option.some.injEq,exists_eq',true_and,Value.int.injEq,exists_eq_left']
   have sb := PH.sub_set (o := .cells #[.int .i64 p.kind,.int .i64 p.index,.slice x m kk,.int .i64 p.p,.int .i64 p.q,.int .i64 p.v] 95) h46
   generalize υ.set b46 (.cells #[.int .i64 p.kind,.int .i64 p.index,.slice x m kk,.int .i64 p.p,.int .i64 p.q,.int .i64 p.v] 95) = ω2 at *
   have hC2 := hCS.grow sb
   have hσ2 := hσ.trans sb
   have Bu : Blk ω2 b12 29 [.int .i64 F.ints,.int .i64 F.bools,.slice aa an ac,.slice ca cn cc] := (hsω.trans sb) _ _ B12
   have g0 := Bu.get (i := 0) rfl
   rw [e0] at g0
   have htk : (cs.take k) ++ [c0] = cs.take (k + 1) := by rw [List.take_add_one,hc0]; rfl
   have hctl : (cs.take k).length = k := by rw [List.length_take]; omega
   have hc0l := sorted_len hsort hclit
   have keep : ∀ (τ : PH) (sx : Sli),ω2.sub τ → Own τ 3 1 sx.a sx.n sx.c (ints c0) → (∀ p,sx.a = some p → ω2 p.block = none) → S60_3 C Q R (ptr b12) sl.a sl.n sl.c (k : Int) sx.a sx.n sx.c true a n c (n : Int) (k : Int) τ := by
     intro τ sx hs hO hnew
     unfold S60_3
     refine br_iff.2 ⟨fun h => (by cases h),fun _ b hb => ?_⟩
     have hCt := hC2.grow hs
     rw [wk]
     refine hCt.push hO (fun p1 hp1 q1 hq1 e => ?_) (by omega) hb (R := fun a' n' c' τ => R (ptr b12,a',n',c',a,n,c,(n : Int),((k + 1 : Nat) : Int)) τ) fun sl' τ' hC' => ?_
     · have := hnew p1 hp1
       obtain ⟨_,_,_,_,g3,_⟩ := hC2
       rw [e] at this
       exact g3.known hq1 this
     · rw [htk] at hC'
       exact hR sl' τ' hkn hC'
   unfold stepClause at hstep
   by_cases k1 : p.kind = 1
   · rw [if_pos k1] at hstep
     split at hstep
     rotate_left
     · cases hstep
     rename_i hi0
     split at hstep
     rotate_left
     · cases hstep
     rename_i d hd
     have hdl := (List.getElem?_eq_some_iff.1 hd).1
     have hLn := hL.1
     obtain ⟨pc,y,my,ky,hpc,hcell,hIy,hmy⟩ := (hL.sub hσ2).2 _ d hd
     refine br_iff.2 ⟨fun _ => br_dec.2 ⟨fun _ => ⟨_,Bu.get (i := 3) rfl,_,_,_,rfl,br_dec.2 ⟨fun _ => ?_,fun h => absurd (by omega) h⟩⟩,fun h => absurd hi0 h⟩,fun h => by simp [k1] at h⟩
     refine ⟨_,Bu.get (i := 3) rfl,_,_,_,rfl,pc,hpc,hi0,by omega,_,by rw [Nat.mul_one]; exact hcell,_,_,_,rfl,?_⟩
     refine c62 hIy (fun z hz => litN (hF.cl d (List.mem_of_getElem? hd) z hz) hnb) (hlen d (List.mem_of_getElem? hd)) (fun τ sx out hs ho hO hnew => ?_) fun τ _ hno => ?_
     · rw [hstep] at ho; cases ho
       exact ⟨τ,.refl _,_,_,_,_,rfl,keep τ sx hs hO hnew⟩
     · rw [hstep] at hno; cases hno
   · rw [if_neg k1] at hstep
     refine br_iff.2 ⟨fun h => absurd (by simpa using h) k1,fun _ => ?_⟩
     by_cases k2 : p.kind = 2
     · rw [if_pos k2] at hstep
       refine br_iff.2 ⟨fun _ => ?_,fun h => by simp [k2] at h⟩
       obtain ⟨hll,_⟩ := cyclic_litN hF hstep
       refine ⟨_,g0,_,Bu.get (i := 1) rfl,_,Bu.get (i := 2) rfl,_,Bu.get (i := 3) rfl,_,_,_,_,_,_,_,_,rfl,_,_,_,rfl,?_⟩
       refine c65 (hA.sub hσ2) hC (by omega) (rI.sub sb) (fun z hz => litN (hll z hz) hnb) hstep fun τ sx hs hO hnew => ?_
       exact ⟨τ,.refl _,_,_,_,_,rfl,keep τ sx hs hO hnew⟩
     · rw [if_neg k2] at hstep
       refine br_iff.2 ⟨fun h => absurd (by simpa using h) k2,fun _ => ?_⟩
       by_cases k3 : p.kind = 3
       · rw [if_pos k3] at hstep
         refine br_iff.2 ⟨fun _ => ?_,fun h => by simp [k3] at h⟩
         split at hstep
         rotate_left
         · cases hstep
         rename_i hpq
         obtain ⟨hp0,hq0⟩ := hpq
         split at hstep
         rotate_left
         · cases hstep
         rename_i c1 c2 hc1 hc2
         have hc1l := (List.getElem?_eq_some_iff.1 hc1).1
         have hc2l := (List.getElem?_eq_some_iff.1 hc2).1
         obtain ⟨p1,x1,m1,kk1,hp1,hcell1,hI1,hn1⟩ := hC2.get hc1
         obtain ⟨p2,x2,m2,kk2,hp2,hcell2,hI2,hn2⟩ := hC2.get hc2
         have hc1' : cs[p.p.toNat]? = some c1 := by rw [List.getElem?_take] at hc1; split at hc1; exact hc1; cases hc1
         have hc2' : cs[p.q.toNat]? = some c2 := by rw [List.getElem?_take] at hc2; split at hc2; exact hc2; cases hc2
         obtain ⟨so1,li1⟩ := hlit _ _ hc1'
         obtain ⟨so2,li2⟩ := hlit _ _ hc2'
         have l1 := sorted_len so1 li1
         have l2 := sorted_len so2 li2
         refine br_dec.2 ⟨fun _ => br_dec.2 ⟨fun _ => br_dec.2 ⟨fun _ => br_dec.2 ⟨fun _ => ?_,fun h => absurd (by omega) h⟩,fun h => absurd hq0 h⟩,fun h => absurd (by omega) h⟩,fun h => absurd hp0 h⟩
         simp only [Nat.mul_one]
         refine ⟨p1,hp1,hp0,by omega,_,hcell1,_,_,_,rfl,p2,hp2,hq0,by omega,_,hcell2,_,_,_,rfl,?_⟩
         refine c48 hI1 hI2 (fun z hz => litN (li1 z hz) hnb) (fun z hz => litN (li2 z hz) hnb) (by omega) (by omega) hstep fun τ sx hs hO hnew => ?_
         exact ⟨τ,.refl _,_,_,_,_,rfl,keep τ sx hs hO hnew⟩
       · rw [if_neg k3] at hstep; cases hstep
 · have hkn : k = n := by omega
   subst hkn
   rw [List.take_of_length_le (by omega)] at hCS
   refine hQ υ sl ?_
   obtain ⟨σ',vs,h1,h2⟩ := hCS
   exact ⟨σ',vs,s12.trans h1,h2⟩
theorem c40 {σ : PH} {F : Fm} (hF : FOk F) (hlen : ∀ c ∈ F.clauses,c.length ≤ 1000000) {aa ca : Option Addr} {an ac cn cc : Nat} (hA : Atoms σ aa an F.atoms) (hL : Lists σ ca cn F.clauses) {a : Option Addr} {n c : Nat} {ps : List PStep} (hS : StepsM σ a n ps) {cs : List (List Int)} (hcs : stepsOf F ps = some cs) (hlast : cs.getLast? = some []) (hn : n ≤ 3500000000000) {Q : Value → PH → Prop}
   (hQ : ∀ τ,σ.sub τ → Q (.tuple #[.int .i64 0,.int .i64 0]) τ) :
   C 40 #[.agg #[.int .i64 F.ints,.int .i64 F.bools,.slice aa an ac,.slice ca cn cc],.slice a n c] Q σ := by
 refine go (E40_0 _ _ _ _ _ _ _ _ _ _ _ _ _ _) ?_
 unfold S40_0
 have e0 : ∀ b : Nat,(Addr.mk b 0 none).add 0 = ⟨b,0,none⟩ := fun b => rfl
 intro b12 h12
 have s12 := PH.sub_set (o := .cells #[.int .i64 F.ints,.int .i64 F.bools,.slice aa an ac,.slice ca cn cc] 29) h12
 have B12 : Blk (σ.set b12 (.cells #[.int .i64 F.ints,.int .i64 F.bools,.slice aa an ac,.slice ca cn cc] 29)) b12 29 [.int .i64 F.ints,.int .i64 F.bools,.slice aa an ac,.slice ca cn cc] := set_self
 generalize σ.set b12 (.cells #[.int .i64 F.ints,.int .i64 F.bools,.slice aa an ac,.slice ca cn cc] 29) = ω at *
 have g0 := B12.get (i := 0) rfl
 rw [e0] at g0
 have hcl := stepsOf_len hcs
 have hpl := hS.1
 refine ⟨_,g0,_,B12.get (i := 1) rfl,_,B12.get (i := 2) rfl,_,B12.get (i := 3) rfl,_,_,_,_,_,_,_,_,rfl,?_⟩
 refine c60 hF hlen (hA.sub s12) (hL.sub s12) (hS.sub s12) hcs hn fun τ sl hC => ⟨τ,.refl _,_,_,_,_,rfl,br_dec.2 ⟨fun h => absurd h (by decide),fun _ => br_iff.2 ⟨fun h => ?_,fun h => ?_⟩⟩⟩
 · have h : n = 0 := by simpa using h
   have : cs = [] := List.length_eq_zero_iff.1 (by omega)
   rw [this] at hlast; cases hlast
 · have h : n ≠ 0 := by
     intro h0; rw [h0] at h; simp at h
   have hlst : cs[n - 1]? = some [] := by
     rw [List.getLast?_eq_getElem?] at hlast
     rw [show n - 1 = cs.length - 1 from by omega]; exact hlast
   obtain ⟨p,x,m,k,hp,hcell,hI,hsn⟩ := hC.get hlst
   have hm := hI.1
   have w : IntKind.wrap .i64 ((n : Int) - 1) = ((n - 1 : Nat) : Int) := by rw [w64 (by omega) (by omega)]; omega
   rw [w]
   refine ⟨p,hp,by omega,by omega,_,by rw [Int.toNat_natCast,Nat.mul_one]; exact hcell,_,_,_,rfl,br_dec.2 ⟨fun h => ?_,fun _ => hQ τ (s12.trans hC.sub)⟩⟩
   simp at hm
   omega
def Bools (σ : PH) (a : Option Addr) (n : Nat) (l : List Bool) : Prop := l.length = n ∧ Row σ a (boolsV l)
theorem Bools.sub {σ τ : PH} (h : σ.sub τ) {a : Option Addr} {n : Nat} {l : List Bool} (hr : Bools σ a n l) : Bools τ a n l := ⟨hr.1,hr.2.sub h⟩
def holdsB (bl : List Bool) (x : Int) : Bool := if x = 0 ∨ x > bl.length ∨ x < -(bl.length : Int) then false else if 0 < x then bl.getD (x - 1).toNat false else !bl.getD (-x - 1).toNat false
theorem c29 {σ : PH} {a : Option Addr} {n c : Nat} {bl : List Bool} (hB : Bools σ a n bl) (hn : n ≤ 1000000) {a2 : Option Addr} {n2 c2 : Nat} {x : Int} (hl : Lit x) {Q : Value → PH → Prop} (hQ : ∀ τ,σ.sub τ → Q (.bool (holdsB bl x)) τ) :
   C 29 #[.int .i64 x,.agg #[.slice a n c,.slice a2 n2 c2]] Q σ := by
 refine go (E29_0 _ _ _ _ _ _ _ _ _ _) ?_
 unfold S29_0
 have e0 : ∀ b : Nat,(Addr.mk b 0 none).add 0 = ⟨b,0,none⟩ := fun b => rfl
 obtain ⟨h1,h2⟩ := hl
 have hbl := hB.1
 intro b8 h8
 have s8 := PH.sub_set (o := .cells #[.slice a n c,.slice a2 n2 c2] 35) h8
 have B8 : Blk (σ.set b8 (.cells #[.slice a n c,.slice a2 n2 c2] 35)) b8 35 [.slice a n c,.slice a2 n2 c2] := set_self
 generalize σ.set b8 (.cells #[.slice a n c,.slice a2 n2 c2] 35) = ω at *
 have g0 := B8.get (i := 0) rfl
 rw [e0] at g0
 have wn : IntKind.wrap .i64 (0 - (n : Int)) = -(n : Int) := by rw [w64 (by omega) (by omega)]; omega
 have no : (x = 0 ∨ x > bl.length ∨ x < -(bl.length : Int)) → Q (.bool false) ω := fun h => by
   have := hQ ω s8
   unfold holdsB at this
   rwa [if_pos h] at this
 refine br_iff.2 ⟨fun h => no (.inl (by simpa using h)),fun h0 => ⟨_,g0,_,_,_,rfl,br_dec.2 ⟨fun h => no (by omega),fun hle => ⟨_,g0,_,_,_,rfl,?_⟩⟩⟩⟩
 have hx0 : x ≠ 0 := by simpa using h0
 rw [wn]
 refine br_dec.2 ⟨fun h => no (by omega),fun hge => ?_⟩
 have yes := hQ ω s8
 unfold holdsB at yes
 rw [if_neg (by omega)] at yes
 refine br_dec.2 ⟨fun hpos => ⟨_,g0,_,_,_,rfl,?_⟩,fun hneg => ⟨_,g0,_,_,_,rfl,?_⟩⟩
 · rw [if_pos (by omega)] at yes
   have w1 : IntKind.wrap .i64 (x - 1) = (((x - 1).toNat : Nat) : Int) := by rw [w64 (by omega) (by omega)]; omega
   have hi : (x - 1).toNat < bl.length := by omega
   obtain ⟨p,hp,hc⟩ := (hB.sub s8).2.at (i := (x - 1).toNat) (v := .bool (bl.getD (x - 1).toNat false)) (by rw [boolsV,List.getElem?_map,List.getElem?_eq_getElem hi,List.getD_eq_getElem?_getD,List.getElem?_eq_getElem hi]; rfl)
   refine ⟨p,hp,?_⟩
   rw [w1]
   exact ⟨by omega,by omega,_,by rw [Int.toNat_natCast,Nat.mul_one]; exact hc,_,rfl,yes⟩
 · rw [if_neg (by omega)] at yes
   have w1 : IntKind.wrap .i64 (IntKind.wrap .i64 (0 - x) - 1) = (((-x - 1).toNat : Nat) : Int) := by rw [w64 (n := 0 - x) (by omega) (by omega),w64 (by omega) (by omega)]; omega
   have hi : (-x - 1).toNat < bl.length := by omega
   obtain ⟨p,hp,hc⟩ := (hB.sub s8).2.at (i := (-x - 1).toNat) (v := .bool (bl.getD (-x - 1).toNat false)) (by rw [boolsV,List.getElem?_map,List.getElem?_eq_getElem hi,List.getD_eq_getElem?_getD,List.getElem?_eq_getElem hi]; rfl)
   refine ⟨p,hp,?_⟩
   rw [w1]
   exact ⟨by omega,by omega,_,by rw [Int.toNat_natCast,Nat.mul_one]; exact hc,_,rfl,yes⟩
theorem c23 {σ : PH} {a : Option Addr} {n c : Nat} {bl : List Bool} (hB : Bools σ a n bl) (hn : n ≤ 1000000) {a2 : Option Addr} {n2 c2 : Nat} {a3 : Option Addr} {n3 c3 : Nat} {l : List Int} (hI : Ints σ a3 n3 l) (hl : ∀ x ∈ l,Lit x) (hll : l.length ≤ 1000000) {Q : Value → PH → Prop} (hQ : ∀ τ,σ.sub τ → Q (.bool (l.any (holdsB bl))) τ) :
   C 23 #[.slice a3 n3 c3,.agg #[.slice a n c,.slice a2 n2 c2]] Q σ := by
 refine go (E23_0 _ _ _ _ _ _ _ _ _ _ _ _) ?_
 unfold S23_0
 have e0 : ∀ b : Nat,(Addr.mk b 0 none).add 0 = ⟨b,0,none⟩ := fun b => rfl
 have hln := hI.1
 intro b8 h8
 have s8 := PH.sub_set (o := .cells #[.slice a n c,.slice a2 n2 c2] 35) h8
 have B8 : Blk (σ.set b8 (.cells #[.slice a n c,.slice a2 n2 c2] 35)) b8 35 [.slice a n c,.slice a2 n2 c2] := set_self
 generalize σ.set b8 (.cells #[.slice a n c,.slice a2 n2 c2] 35) = ω at *
 unfold S23_1
 refine iloopS_for (G := Unit) (fun k _ => (ptr b8,a3,n3,c3,(n3 : Int),(k : Int))) (fun k _ υ => ω.sub υ ∧ l.any (holdsB bl) = (l.drop k).any (holdsB bl)) n3 ?_ (g := ()) ⟨.refl _,rfl⟩
 rintro k _ υ hk ⟨hs,he⟩ R hR
 unfold S23_2
 dsimp only
 refine br_dec.2 ⟨fun hlt => ?_,fun hge => ?_⟩
 · have hkn : k < n3 := by omega
   obtain ⟨x,hx⟩ : ∃ x,l[k]? = some x := ⟨_,List.getElem?_eq_getElem (by omega)⟩
   have hdk : l.drop k = x :: l.drop (k + 1) := by
     rw [List.drop_eq_getElem_cons (by omega)]
     congr 1
     exact (List.getElem?_eq_some_iff.1 hx).2
   rw [hdk,List.any_cons] at he
   obtain ⟨p,hp,hc⟩ := (hI.sub (s8.trans hs)).2.at (i := k) (v := .int .i64 x) (by simp [hx])
   have wk : IntKind.wrap .i64 ((k : Int) + 1) = ((k + 1 : Nat) : Int) := by rw [w64 (by omega) (by omega)]; omega
   have Bu : Blk υ b8 35 _ := hs _ _ B8
   have g0 := Bu.get (i := 0) rfl
   rw [e0] at g0
   refine ⟨p,hp,by omega,by omega,_,by rw [Int.toNat_natCast,Nat.mul_one]; exact hc,x,rfl,_,g0,_,Bu.get (i := 1) rfl,_,_,_,_,_,_,rfl,?_⟩
   refine c29 (hB.sub (s8.trans hs)) hn (hl x (List.mem_of_getElem? hx)) fun τ hsτ => ⟨τ,.refl _,_,rfl,br_iff.2 ⟨fun h => ?_,fun h => ?_⟩⟩
   · have := hQ τ ((s8.trans hs).trans hsτ)
     rw [he,h,Bool.true_or] at this
     exact this
   · rw [wk]
     refine hR () _ hkn ⟨hs.trans hsτ,?_⟩
     rw [he,h,Bool.false_or]
 · have hkn : k = n3 := by omega
   subst hkn
   rw [List.drop_eq_nil_of_le (by omega)] at he
   have := hQ υ (s8.trans hs)
   rw [he] at this
   exact this
theorem litT_holds {n : Nat} {bl : List Bool} (hb : bl.length = n) {y : Int} (hy : LitN n y) (h : litT bl y) : holdsB bl y = true := by
 obtain ⟨h1,h2⟩ := hy
 unfold holdsB
 rw [if_neg (by omega)]
 unfold litT at h
 split at h
 · rename_i hp; rw [if_pos hp]; exact h
 · rename_i hp; rw [if_neg hp,h]; rfl
theorem c39 {σ : PH} {F : Fm} (hF : FOk F) (hlen : ∀ c ∈ F.clauses,c.length ≤ 1000000) {aa ca : Option Addr} {an ac cn cc : Nat} (hA : Atoms σ aa an F.atoms) (hL : Lists σ ca cn F.clauses) {ba xa : Option Addr} {bc xc : Nat} {bl : List Bool} {x : Nat → Int} (hB : Bools σ ba F.bools bl) (hX : Ints σ xa F.ints (tab F.ints x)) (hM : SatM F bl x) {Q : Value → PH → Prop} (hQ : ∀ τ,σ.sub τ → Q (.bool true) τ) :
   C 39 #[.agg #[.int .i64 F.ints,.int .i64 F.bools,.slice aa an ac,.slice ca cn cc],.agg #[.slice ba F.bools bc,.slice xa F.ints xc]] Q σ := by
 refine go (E39_0 _ _ _ _ _ _ _ _ _ _ _ _ _ _ _ _ _) ?_
 unfold S39_0
 have e0 : ∀ b : Nat,(Addr.mk b 0 none).add 0 = ⟨b,0,none⟩ := fun b => rfl
 have hnb := hF.bools
 have hal := hF.atoms
 have hAn := hA.1
 have hLn := hL.1
 have hcl := hF.cn
 intro b15 h15
 have s15 := PH.sub_set (o := .cells #[.int .i64 F.ints,.int .i64 F.bools,.slice aa an ac,.slice ca cn cc] 29) h15
 have B15 : Blk (σ.set b15 (.cells #[.int .i64 F.ints,.int .i64 F.bools,.slice aa an ac,.slice ca cn cc] 29)) b15 29 [.int .i64 F.ints,.int .i64 F.bools,.slice aa an ac,.slice ca cn cc] := set_self
 generalize σ.set b15 (.cells #[.int .i64 F.ints,.int .i64 F.bools,.slice aa an ac,.slice ca cn cc] 29) = ω0 at *
 intro b16 h16
 have s16 := PH.sub_set (o := .cells #[.slice ba F.bools bc,.slice xa F.ints xc] 35) h16
 have B16 : Blk (ω0.set b16 (.cells #[.slice ba F.bools bc,.slice xa F.ints xc] 35)) b16 35 [.slice ba F.bools bc,.slice xa F.ints xc] := set_self
 have B15 := s16 _ _ B15
 have sω := s15.trans s16
 generalize ω0.set b16 (.cells #[.slice ba F.bools bc,.slice xa F.ints xc] 35) = ω at *
 replace B15 : Blk ω b15 29 [.int .i64 F.ints,.int .i64 F.bools,.slice aa an ac,.slice ca cn cc] := B15
 have g15 := B15.get (i := 0) rfl
 have g16 := B16.get (i := 0) rfl
 rw [e0] at g15 g16
 refine ⟨_,g16,_,_,_,rfl,_,B15.get (i := 1) rfl,_,rfl,br_iff.2 ⟨fun h => by simp at h,fun _ => ⟨_,B16.get (i := 1) rfl,_,_,_,rfl,_,g15,_,rfl,br_iff.2 ⟨fun h => by simp at h,fun _ => ?_⟩⟩⟩⟩
 refine ⟨_,B15.get (i := 2) rfl,_,_,_,rfl,?_⟩
 unfold S39_1
 refine iloopS_for (G := Unit) (fun k _ => (ptr b15,ptr b16,aa,an,ac,(an : Int),(k : Int))) (fun k _ υ => ω.sub υ) an ?_ (g := ()) (.refl _)
 rintro k _ υ hk hs R hR
 unfold S39_2
 dsimp only
 have hσ := sω.trans hs
 refine br_dec.2 ⟨fun hlt => ?_,fun hge => ?_⟩
 · have hkn : k < an := by omega
   obtain ⟨d,hd⟩ : ∃ d,F.atoms[k]? = some d := ⟨_,List.getElem?_eq_getElem (by omega)⟩
   obtain ⟨q1,q2,q3,q4,q5,q6,q7⟩ := hF.at' d (List.mem_of_getElem? hd)
   obtain ⟨p,hp,a0,a1,a2⟩ := (hA.sub hσ).2 k d hd
   have hAt := hM.at' k d hd
   have wk : IntKind.wrap .i64 ((k : Int) + 1) = ((k + 1 : Nat) : Int) := by rw [w64 (by omega) (by omega)]; omega
   refine ⟨p,hp,by omega,by omega,_,by rw [Int.toNat_natCast]; exact a0,_,by rw [Int.toNat_natCast]; exact a1,_,by rw [Int.toNat_natCast]; exact a2,_,_,_,rfl,fun b54 h54 => ?_⟩
   have sb := PH.sub_set (o := .cells #[.int .i64 d.1,.int .i64 d.2.1,.int .i64 d.2.2] 50) h54
   simp only [newSet,newSet0,newCell,newCell0,newFroz,newFroz0,List.setIfInBounds_toArray,List.set_cons_zero,List.set_cons_succ,List.getElem?_toArray,List.getElem?_cons_zero,List.getElem?_cons_succ,Option.some.injEq,exists_eq',true_and,Value.int.injEq,exists_eq_left']
   generalize υ.set b54 (.cells #[.int .i64 d.1,.int .i64 d.2.1,.int .i64 d.2.2] 50) = ω2 at *
   have Bu : Blk ω2 b16 35 [.slice ba F.bools bc,.slice xa F.ints xc] := (hs.trans sb) _ _ B16
   have gu := Bu.get (i := 0) rfl
   rw [e0] at gu
   have hσ2 := hσ.trans sb
   have hkb : k < bl.length := by rw [hM.len]; omega
   have hdX : dX d < F.ints := by unfold dX; omega
   have hdY : dY d < F.ints := by unfold dY; omega
   obtain ⟨pb,hpb,hcb⟩ := (hB.sub hσ2).2.at (i := k) (v := .bool (bl.getD k false)) (by rw [boolsV,List.getElem?_map,List.getElem?_eq_getElem hkb,List.getD_eq_getElem?_getD,List.getElem?_eq_getElem hkb]; rfl)
   obtain ⟨px,hpx,hcx⟩ := (hX.sub hσ2).2.at (i := dX d) (v := .int .i64 (x (dX d))) (by rw [List.getElem?_map,tab_get hdX]; rfl)
   obtain ⟨py,hpy,hcy⟩ := (hX.sub hσ2).2.at (i := dY d) (v := .int .i64 (x (dY d))) (by rw [List.getElem?_map,tab_get hdY]; rfl)
   have r1 := hM.rng _ hdX
   have r2 := hM.rng _ hdY
   have tX : d.1.toNat = dX d := rfl
   have tY : d.2.1.toNat = dY d := rfl
   refine ⟨_,gu,_,_,_,rfl,pb,hpb,by omega,by omega,_,by rw [Int.toNat_natCast,Nat.mul_one]; exact hcb,_,rfl,_,Bu.get (i := 1) rfl,_,_,_,rfl,px,hpx,q1,q2,_,by rw [tX,Nat.mul_one]; exact hcx,_,rfl,_,Bu.get (i := 1) rfl,_,_,_,rfl,py,hpy,q3,q4,_,by rw [tY,Nat.mul_one]; exact hcy,_,rfl,?_⟩
   rw [w64 (n := x (dX d) - x (dY d)) (by omega) (by omega)]
   have hbe : bl.getD k false = decide (x (dX d) - x (dY d) ≤ d.2.2) := by
     by_cases h : x (dX d) - x (dY d) ≤ d.2.2
     · rw [decide_eq_true h]; exact hAt.2 h
     · rw [decide_eq_false h]
       cases hb : bl.getD k false with
       | false => rfl
       | true => exact absurd (hAt.1 hb) h
   rw [hbe]
   refine br_iff.2 ⟨fun h => by simp at h,fun _ => ?_⟩
   rw [wk]
   exact hR () _ hkn (hs.trans sb)
 · refine ⟨_,hs.cell (B15.get (i := 3) rfl),_,_,_,rfl,?_⟩
   unfold S39_3
   refine iloopS_for (G := Unit) (fun k _ => (ptr b16,ca,cn,cc,(cn : Int),(k : Int))) (fun k _ υ => ω.sub υ) cn ?_ (g := ()) hs
   clear hs hσ hR R hge hk υ k
   rintro k _ υ hk hs R hR
   unfold S39_4
   dsimp only
   have hσ := sω.trans hs
   refine br_dec.2 ⟨fun hlt => ?_,fun hge => hQ υ hσ⟩
   have hkn : k < cn := by omega
   obtain ⟨c,hc⟩ : ∃ c,F.clauses[k]? = some c := ⟨_,List.getElem?_eq_getElem (by omega)⟩
   have hcm := List.mem_of_getElem? hc
   obtain ⟨p,y,m,kk,hp,hcell,hI,hmk⟩ := (hL.sub hσ).2 k c hc
   have wk : IntKind.wrap .i64 ((k : Int) + 1) = ((k + 1 : Nat) : Int) := by rw [w64 (by omega) (by omega)]; omega
   have Bu : Blk υ b16 35 [.slice ba F.bools bc,.slice xa F.ints xc] := hs _ _ B16
   have gu := Bu.get (i := 0) rfl
   rw [e0] at gu
   refine ⟨p,hp,by omega,by omega,_,by rw [Int.toNat_natCast,Nat.mul_one]; exact hcell,_,_,_,rfl,_,gu,_,Bu.get (i := 1) rfl,_,_,_,_,_,_,rfl,?_⟩
   refine c23 (hB.sub hσ) (by omega) hI (fun z hz => litN (hF.cl c hcm z hz) hnb) (hlen c hcm) fun τ hsτ => ⟨τ,.refl _,_,rfl,br_iff.2 ⟨fun h => ?_,fun _ => ?_⟩⟩
   · obtain ⟨z,hz,hzt⟩ := hM.cl c hcm
     have : c.any (holdsB bl) = true := List.any_eq_true.2 ⟨z,hz,litT_holds hM.len (hF.cl c hcm z hz) hzt⟩
     rw [this] at h; cases h
   · rw [wk]
     exact hR () _ hkn (hs.trans hsτ)
end Go.Proofs.Ythfnjogadngfiaa
namespace Go.Sv
def setV (val : List Int) (x : Int) : Option (List Int) :=
 if x = 0 ∨ x > val.length ∨ x < -(val.length : Int) then none else if val.getD (vr x) 0 = -sgn x then none else some (val.set (vr x) (sgn x))
theorem setV_len {val val' : List Int} {x : Int} (h : setV val x = some val') : val'.length = val.length := by
 unfold setV at h
 split at h
 · cases h
 · split at h
   · cases h
   · cases h; simp
def setAll : List Int → List Int → Option (List Int)
 | val,[] => some val
 | val,x :: l => match setV val x with | none => none | some v => setAll v l
def scan1 (val : List Int) (x : Int) (s : Int × Nat × Bool) : Int × Nat × Bool :=
 if valS val x > 0 then (s.1,s.2.1,true) else if valS val x = 0 ∧ x ≠ s.1 then (x,s.2.1 + 1,s.2.2) else s
def scanC (val : List Int) : List Int → Int × Nat × Bool → Int × Nat × Bool
 | [],s => s
 | x :: l,s => scanC val l (scan1 val x s)
def roundP : List (List Int) → List Int → Bool → Option (List Int × Bool)
 | [],val,ch => some (val,ch)
 | c :: cs,val,ch =>
   let s := scanC val c (0,0,false)
   if s.2.2 = true ∨ 1 < s.2.1 then roundP cs val ch else if s.2.1 = 0 then none else roundP cs ((setV val s.1).getD val) true
inductive PropR (cs : List (List Int)) : List Int → Option (List Int) → Prop
 | stop {val : List Int} : roundP cs val false = none → PropR cs val none
 | done {val val' : List Int} : roundP cs val false = some (val',false) → PropR cs val (some val')
 | go {val val' : List Int} {r : Option (List Int)} : roundP cs val false = some (val',true) → PropR cs val' r → PropR cs val r
def litsTo (val : List Int) (k : Nat) : List Int := ((List.range k).filter fun i => val.getD i 0 != 0).map fun i => val.getD i 0 * ((i : Int) + 1)
theorem litsTo_succ (val : List Int) (k : Nat) : litsTo val (k + 1) = litsTo val k ++ (if val.getD k 0 = 0 then [] else [val.getD k 0 * ((k : Int) + 1)]) := by
 unfold litsTo
 rw [List.range_succ,List.filter_append,List.map_append]
 congr 1
 by_cases h : val.getD k 0 = 0
 · rw [if_pos h,List.filter_cons_of_neg (by rw [h]; simp)]; rfl
 · rw [if_neg h,List.filter_cons_of_pos (by simpa using h)]; rfl
theorem litsTo_len (val : List Int) (k : Nat) : (litsTo val k).length ≤ k := by
 unfold litsTo
 rw [List.length_map]
 exact Nat.le_trans (List.length_filter_le _ _) (by simp)
theorem setV_small {val val' : List Int} {x : Int} (h : setV val x = some val') (hs : ∀ y ∈ val,-1 ≤ y ∧ y ≤ 1) : ∀ y ∈ val',-1 ≤ y ∧ y ≤ 1 := by
 unfold setV at h
 split at h
 · cases h
 · split at h
   · cases h
   · cases h
     intro y hy
     rcases List.mem_or_eq_of_mem_set hy with hy | rfl
     · exact hs y hy
     · unfold sgn; split <;> omega
end Go.Sv
namespace Go.Proofs.Ythfnjogadngfiaa
open Go.Sl Go.Sv
theorem c42 {σ : PH} {b15 b16 n : Nat} {val : List Int} (h16 : Blk σ b16 33 [.slice (some (ptr b15)) n n]) (h15 : Blk σ b15 3 (ints val)) (hn : val.length = n) (hn1 : n ≤ 1000000) {x : Int} (hl : Lit x) {Q : Value → PH → Prop}
   (hno : setV val x = none → Q (.bool false) σ) (hok : ∀ val' τ,setV val x = some val' → Blk τ b15 3 (ints val') → Step (· = b15) σ τ → Q (.bool true) τ) :
   C 42 #[.int .i64 x,.pointer (some (ptr b16))] Q σ := by
 refine go (E42_0 _ _ _ _ _) ?_
 unfold S42_0
 have e0 : ∀ b : Nat,(Addr.mk b 0 none).add 0 = ⟨b,0,none⟩ := fun b => rfl
 obtain ⟨l1,l2⟩ := hl
 have g := h16.get (i := 0) rfl
 rw [e0] at g
 have wn : IntKind.wrap .i64 (0 - (n : Int)) = -(n : Int) := by rw [w64 (by omega) (by omega)]; omega
 have no : (x = 0 ∨ x > val.length ∨ x < -(val.length : Int)) → Q (.bool false) σ := fun h => hno (by unfold setV; rw [if_pos h])
 refine br_iff.2 ⟨fun h => no (.inl (by simpa using h)),fun h0 => ⟨_,g,_,_,_,rfl,br_dec.2 ⟨fun h => no (by omega),fun hle => ⟨_,g,_,_,_,rfl,?_⟩⟩⟩⟩
 have hx0 : x ≠ 0 := by simpa using h0
 rw [wn]
 refine br_dec.2 ⟨fun h => no (by omega),fun hge => ?_⟩
 have hv : vr x < val.length := by unfold vr; omega
 have hc : σ.cell? ((ptr b15).add (vr x)) = some (.int .i64 (val.getD (vr x) 0)) := h15.get (i := vr x) (by rw [ints,List.getElem?_map,List.getElem?_eq_getElem hv,List.getD_eq_getElem?_getD,List.getElem?_eq_getElem hv]; rfl)
 have hf := h15.froz (vr x)
 have hset : ∀ w : Int,Blk (σ.setCell ((ptr b15).add (vr x)) (.int .i64 w)) b15 3 (ints (val.set (vr x) w)) ∧ Step (· = b15) σ (σ.setCell ((ptr b15).add (vr x)) (.int .i64 w)) := fun w => by
   refine ⟨?_,setCell_step.weaken fun b hb => hb.trans (add_block _ _)⟩
   have := h15.set (vr x) (.int .i64 w)
   unfold ints at this ⊢
   rwa [List.map_set]
 have hsv : setV val x = if val.getD (vr x) 0 = -sgn x then none else some (val.set (vr x) (sgn x)) := by
   unfold setV
   rw [if_neg (by omega)]
 refine br_dec.2 ⟨fun hneg => ?_,fun hpos => ?_⟩
 · have w1 : IntKind.wrap .i64 (IntKind.wrap .i64 (0 - x) - 1) = ((vr x : Nat) : Int) := by unfold vr; rw [w64 (n := 0 - x) (by omega) (by omega),w64 (by omega) (by omega)]; omega
   have w2 : IntKind.wrap .i64 (0 - (-1 : Int)) = 1 := by rw [w64 (by omega) (by omega)]; rfl
   have hs : sgn x = -1 := if_pos hneg
   rw [hs] at hsv
   rw [w1,w2]
   simp only [Int.toNat_natCast,Nat.mul_one]
   refine ⟨_,g,_,_,_,rfl,_,rfl,by omega,by omega,_,hc,_,rfl,br_iff.2 ⟨fun h => ?_,fun h => ⟨_,g,_,_,_,rfl,_,rfl,by omega,by omega,⟨_,hc⟩,hf,?_⟩⟩⟩
   · have h : val.getD (vr x) 0 = 1 := by simpa using h
     exact hno (by rw [hsv,if_pos (by omega)])
   · have h : val.getD (vr x) 0 ≠ 1 := by simpa using h
     obtain ⟨k1,k2⟩ := hset (-1)
     exact hok _ _ (by rw [hsv,if_neg (by omega)]) k1 k2
 · have w1 : IntKind.wrap .i64 (x - 1) = ((vr x : Nat) : Int) := by unfold vr; rw [w64 (by omega) (by omega)]; omega
   have w2 : IntKind.wrap .i64 (0 - (1 : Int)) = -1 := by rw [w64 (by omega) (by omega)]; rfl
   have hs : sgn x = 1 := if_neg hpos
   rw [hs] at hsv
   rw [w1,w2]
   simp only [Int.toNat_natCast,Nat.mul_one]
   refine ⟨_,g,_,_,_,rfl,_,rfl,by omega,by omega,_,hc,_,rfl,br_iff.2 ⟨fun h => ?_,fun h => ⟨_,g,_,_,_,rfl,_,rfl,by omega,by omega,⟨_,hc⟩,hf,?_⟩⟩⟩
   · have h : val.getD (vr x) 0 = -1 := by simpa using h
     exact hno (by rw [hsv,if_pos (by omega)])
   · have h : val.getD (vr x) 0 ≠ -1 := by simpa using h
     obtain ⟨k1,k2⟩ := hset 1
     exact hok _ _ (by rw [hsv,if_neg (by omega)]) k1 k2
structure PV (σ υ : PH) (ff : List Value) (b12 b15 b16 n : Nat) (val : List Int) : Prop where
 sub : σ.sub υ
 k12 : Blk υ b12 29 ff
 k16 : Blk υ b16 33 [.slice (some (ptr b15)) n n]
 k15 : Blk υ b15 3 (ints val)
 n15 : σ b15 = none
 d1 : b12 ≠ b15
 d2 : b16 ≠ b15
 len : val.length = n
 sm : ∀ y ∈ val,-1 ≤ y ∧ y ≤ 1
theorem PV.set {σ υ τ : PH} {ff : List Value} {b12 b15 b16 n : Nat} {val val' : List Int} (h : PV σ υ ff b12 b15 b16 n val) {x : Int} (hv : setV val x = some val') (k : Blk τ b15 3 (ints val')) (st : Step (· = b15) υ τ) : PV σ τ ff b12 b15 b16 n val' :=
 ⟨sub_step_new h.sub st (by rintro b rfl; exact h.n15),h.k12.keep st h.d1,h.k16.keep st h.d2,k,h.n15,h.d1,h.d2,(setV_len hv).trans h.len,setV_small hv h.sm⟩
theorem PV.lits {σ υ : PH} {ff : List Value} {b12 b15 b16 n : Nat} {val : List Int} (h : PV σ υ ff b12 b15 b16 n val) : ∀ y ∈ val,Lit y := fun y hy => by have := h.sm y hy; unfold Lit; omega
theorem scan_lit {val : List Int} {N : Nat} : ∀ {c : List Int} {s : Int × Nat × Bool},(∀ x ∈ c,LitN N x) → (s.1 = 0 ∨ LitN N s.1) → (s.2.1 = 0 ∨ LitN N s.1) → ((scanC val c s).1 = 0 ∨ LitN N (scanC val c s).1) ∧ ((scanC val c s).2.1 = 0 ∨ LitN N (scanC val c s).1)
 | [],s,_,h1,h2 => ⟨h1,h2⟩
 | x :: c,s,hc,h1,h2 => by
   unfold scanC
   refine scan_lit (fun y hy => hc y (List.mem_cons_of_mem _ hy)) ?_ ?_
   · unfold scan1
     split
     · exact h1
     · split
       · exact .inr (hc x List.mem_cons_self)
       · exact h1
   · unfold scan1
     split
     · exact h2
     · split
       · exact .inr (hc x List.mem_cons_self)
       · exact h2
theorem c25 {σ : PH} {F : Fm} (hF : FOk F) (hlen : ∀ c ∈ F.clauses,c.length ≤ 1000000) {aa ca : Option Addr} {an ac cn cc : Nat} (hL : Lists σ ca cn F.clauses) {a : Option Addr} {n c : Nat} {l : List Int} (hI : Ints σ a n l) (hl : ∀ x ∈ l,Lit x) (hll : l.length ≤ 1000000)
   {Q : Value → PH → Prop} (hno : (setAll (List.replicate F.bools 0) l = none ∨ ∃ v,setAll (List.replicate F.bools 0) l = some v ∧ PropR F.clauses v none) → ∀ τ,σ.sub τ → Q (.tuple #[.slice none 0 0,.bool false]) τ)
   (hok : ∀ v val τ (sl : Sli),setAll (List.replicate F.bools 0) l = some v → PropR F.clauses v (some val) → σ.sub τ → Own τ 3 1 sl.a sl.n sl.c (ints (litsTo val F.bools)) → (∀ p,sl.a = some p → σ p.block = none) → Q (.tuple #[sl.v,.bool true]) τ)
   (hdec : ∀ v,setAll (List.replicate F.bools 0) l = some v → ∃ r,PropR F.clauses v r) :
   C 25 #[.agg #[.int .i64 F.ints,.int .i64 F.bools,.slice aa an ac,.slice ca cn cc],.slice a n c] Q σ := by
 refine go (E25_0 _ _ _ _ _ _ _ _ _ _ _ _ _ _) ?_
 unfold S25_0
 have e0 : ∀ b : Nat,(Addr.mk b 0 none).add 0 = ⟨b,0,none⟩ := fun b => rfl
 have hnb := hF.bools
 have hln := hI.1
 have hLn := hL.1
 have hcl := hF.cn
 intro b12 h12
 have s12 := PH.sub_set (o := .cells #[.int .i64 F.ints,.int .i64 F.bools,.slice aa an ac,.slice ca cn cc] 29) h12
 have B12 : Blk (σ.set b12 (.cells #[.int .i64 F.ints,.int .i64 F.bools,.slice aa an ac,.slice ca cn cc] 29)) b12 29 [.int .i64 F.ints,.int .i64 F.bools,.slice aa an ac,.slice ca cn cc] := set_self
 generalize σ.set b12 (.cells #[.int .i64 F.ints,.int .i64 F.bools,.slice aa an ac,.slice ca cn cc] 29) = ω at *
 refine ⟨_,B12.get (i := 1) rfl,_,rfl,?_⟩
 have wif : (if (F.bools : Int) < (0 : Int) then (0 : Int) else (F.bools : Int)) = (F.bools : Int) := if_neg (by omega)
 rw [wif]
 refine ⟨by omega,by omega,by omega,by omega,fun b15 h15 b16 => ?_⟩
 simp only [Int.toNat_natCast]
 have s15 := PH.sub_set (o := .cells (zeros (.int .i64 0) F.bools) 3) h15
 have B15 : Blk (ω.set b15 (.cells (zeros (.int .i64 0) F.bools) 3)) b15 3 (ints (List.replicate F.bools 0)) := by
   have : zeros (.int .i64 0) F.bools = (ints (List.replicate F.bools 0)).toArray := by rw [zeros_one rfl,ints,List.map_replicate]
   rw [this]; exact set_self
 generalize ω.set b15 (.cells (zeros (.int .i64 0) F.bools) 3) = ω1 at *
 intro h16
 simp only [newSet,newSet0,newCell,newCell0,newFroz,newFroz0,List.setIfInBounds_toArray,List.set_cons_zero,List.set_cons_succ,List.getElem?_toArray,List.getElem?_cons_zero,List.getElem?_cons_succ,Option.some.injEq,exists_eq',true_and,exists_eq_left']
 have s16 := PH.sub_set (o := .cells #[.slice (some ⟨b15,0,none⟩) F.bools F.bools] 33) h16
 have B16 : Blk (ω1.set b16 (.cells #[.slice (some ⟨b15,0,none⟩) F.bools F.bools] 33)) b16 33 [.slice (some (ptr b15)) F.bools F.bools] := set_self
 generalize ω1.set b16 (.cells #[.slice (some ⟨b15,0,none⟩) F.bools F.bools] 33) = ω2 at *
 have P0 : PV σ ω2 [.int .i64 F.ints,.int .i64 F.bools,.slice aa an ac,.slice ca cn cc] b12 b15 b16 F.bools (List.replicate F.bools 0) :=
   ⟨(s12.trans s15).trans s16,s16 _ _ (s15 _ _ B12),B16,s16 _ _ B15,new_of s12 h15,(ne_new B12 h15).symm,ne_new B15 h16,by simp,fun y hy => by rw [List.mem_replicate] at hy; omega⟩
 unfold S25_1
 refine iloopS_for (G := List Int) (fun k val => (ptr b12,ptr b16,ptr b16,a,n,c,(n : Int),(k : Int))) (fun k val υ => PV σ υ [.int .i64 F.ints,.int .i64 F.bools,.slice aa an ac,.slice ca cn cc] b12 b15 b16 F.bools val ∧ setAll val (l.drop k) = setAll (List.replicate F.bools 0) l) n ?_ (g := List.replicate F.bools 0) ⟨P0,rfl⟩
 rintro k val υ hk ⟨P,hs⟩ R hR
 unfold S25_2
 dsimp only
 refine br_dec.2 ⟨fun hlt => ?_,fun hge => ?_⟩
 · have hkn : k < n := by omega
   obtain ⟨x,hx⟩ : ∃ x,l[k]? = some x := ⟨_,List.getElem?_eq_getElem (by omega)⟩
   obtain ⟨p,hp,hc⟩ := (hI.sub P.sub).2.at (i := k) (v := .int .i64 x) (by simp [hx])
   have wk : IntKind.wrap .i64 ((k : Int) + 1) = ((k + 1 : Nat) : Int) := by rw [w64 (by omega) (by omega)]; omega
   have hdk : l.drop k = x :: l.drop (k + 1) := by
     rw [List.drop_eq_getElem_cons (by omega)]
     congr 1
     exact (List.getElem?_eq_some_iff.1 hx).2
   rw [hdk,setAll] at hs
   refine ⟨p,hp,by omega,by omega,_,by rw [Int.toNat_natCast,Nat.mul_one]; exact hc,x,rfl,?_⟩
   refine c42 P.k16 P.k15 P.len (by omega) (hl x (List.mem_of_getElem? hx)) (fun h => ⟨υ,.refl _,_,rfl,br_iff.2 ⟨fun _ => ?_,fun h => (by cases h)⟩⟩) fun val' τ h hB hst => ⟨τ,.refl _,_,rfl,br_iff.2 ⟨fun h => (by cases h),fun _ => ?_⟩⟩
   · rw [h] at hs
     exact hno (.inl hs.symm) υ P.sub
   · rw [h] at hs
     rw [wk]
     exact hR val' τ hkn ⟨P.set h hB hst,hs⟩
 · have hkn : k = n := by omega
   subst hkn
   rw [List.drop_eq_nil_of_le (by omega),setAll] at hs
   obtain ⟨r,hr⟩ := hdec val hs.symm
   have key : ∀ (v0 : List Int),setAll (List.replicate F.bools 0) l = some v0 → ∀ (w : List Int) (r : Option (List Int)),PropR F.clauses w r → (∀ r',PropR F.clauses w r' → PropR F.clauses v0 r') → ∀ υ,PV σ υ [.int .i64 F.ints,.int .i64 F.bools,.slice aa an ac,.slice ca cn cc] b12 b15 b16 F.bools w → S25_3 C Q (ptr b12) (ptr b16) (ptr b16) true υ := by
     intro v0 hv0 w r hwr
     have step : ∀ (w : List Int) (hpr : ∀ r',PropR F.clauses w r' → PropR F.clauses v0 r'),∀ υ,PV σ υ [.int .i64 F.ints,.int .i64 F.bools,.slice aa an ac,.slice ca cn cc] b12 b15 b16 F.bools w → ∀ R3 : Addr × Addr × Addr × Bool → PH → Prop,
         (roundP F.clauses w false = none → ∀ τ,σ.sub τ → Q (.tuple #[.slice none 0 0,.bool false]) τ) → (∀ w' ch τ,roundP F.clauses w false = some (w',ch) → PV σ τ [.int .i64 F.ints,.int .i64 F.bools,.slice aa an ac,.slice ca cn cc] b12 b15 b16 F.bools w' → R3 (ptr b12,ptr b16,ptr b16,ch) τ) → S25_4 C Q R3 (ptr b12) (ptr b16) (ptr b16) true υ := by
       intro w hpr υ P R3 h1 h2
       unfold S25_4
       refine br_iff.2 ⟨fun _ => ⟨_,P.k12.get (i := 3) rfl,_,_,_,rfl,?_⟩,fun h => (by cases h)⟩
       unfold S25_5
       refine iloopS_for (G := List Int × Bool) (fun k g => (ptr b12,ptr b16,ptr b16,g.2,ca,cn,cc,(cn : Int),(k : Int))) (fun k g τ => PV σ τ [.int .i64 F.ints,.int .i64 F.bools,.slice aa an ac,.slice ca cn cc] b12 b15 b16 F.bools g.1 ∧ roundP (F.clauses.drop k) g.1 g.2 = roundP F.clauses w false) cn ?_ (g := (w,false)) ⟨P,rfl⟩
       clear P υ
       rintro k ⟨wv,ch⟩ υ hk ⟨P,hrd⟩ R5 hR5
       dsimp only at P hrd
       unfold S25_6
       dsimp only
       refine br_dec.2 ⟨fun hlt => ?_,fun hge => ?_⟩
       · have hkn : k < cn := by omega
         obtain ⟨cl,hc⟩ : ∃ c,F.clauses[k]? = some c := ⟨_,List.getElem?_eq_getElem (by omega)⟩
         have hcm := List.mem_of_getElem? hc
         have hclit := hF.cl cl hcm
         have hdk : F.clauses.drop k = cl :: F.clauses.drop (k + 1) := by
           rw [List.drop_eq_getElem_cons (by omega)]
           congr 1
           exact (List.getElem?_eq_some_iff.1 hc).2
         rw [hdk,roundP] at hrd
         obtain ⟨p,x,m,kk,hp,hcell,hIc,hmk⟩ := (hL.sub P.sub).2 k cl hc
         have hcm' := hIc.1
         have hclen := hlen cl hcm
         have wk : IntKind.wrap .i64 ((k : Int) + 1) = ((k + 1 : Nat) : Int) := by rw [w64 (by omega) (by omega)]; omega
         have g16 := P.k16.get (i := 0) rfl
         rw [e0] at g16
         have hIv : Ints υ (some (ptr b15)) F.bools wv := ⟨P.len,.inr ⟨_,rfl,fun i v hv => P.k15.get hv⟩⟩
         refine ⟨p,hp,by omega,by omega,_,by rw [Int.toNat_natCast,Nat.mul_one]; exact hcell,_,_,_,rfl,?_⟩
         unfold S25_7
         refine iloopS_for (G := Int × Nat × Bool) (fun j s => (ptr b12,ptr b16,ptr b16,ch,s.1,(s.2.1 : Int),s.2.2,ca,cn,cc,(cn : Int),(k : Int),x,m,kk,(m : Int),(j : Int))) (fun j s τ => υ = τ ∧ scanC wv (cl.drop j) s = scanC wv cl (0,0,false) ∧ s.2.1 ≤ j) m ?_ (g := (0,0,false)) ⟨rfl,rfl,Nat.le_refl _⟩
         rintro j s _ hj ⟨rfl,hsc,hsj⟩ R7 hR7
         unfold S25_8
         dsimp only
         refine br_dec.2 ⟨fun hjlt => ?_,fun hjge => ?_⟩
         · have hjn : j < m := by omega
           obtain ⟨y,hy⟩ : ∃ y,cl[j]? = some y := ⟨_,List.getElem?_eq_getElem (by omega)⟩
           have hyl := hclit y (List.mem_of_getElem? hy)
           have hdj : cl.drop j = y :: cl.drop (j + 1) := by
             rw [List.drop_eq_getElem_cons (by omega)]
             congr 1
             exact (List.getElem?_eq_some_iff.1 hy).2
           rw [hdj,scanC] at hsc
           obtain ⟨q,hq,hcq⟩ := hIc.2.at (i := j) (v := .int .i64 y) (by simp [hy])
           have wj : IntKind.wrap .i64 ((j : Int) + 1) = ((j + 1 : Nat) : Int) := by rw [w64 (by omega) (by omega)]; omega
           refine ⟨q,hq,by omega,by omega,_,by rw [Int.toNat_natCast,Nat.mul_one]; exact hcq,y,rfl,_,g16,_,_,_,rfl,(c43 (litN hyl hnb) hIv P.lits).mono hb ?_⟩
           rintro _ τ ⟨rfl,eτ⟩
           obtain rfl := eτ.symm
           refine ⟨_,.refl _,_,rfl,?_⟩
           rw [wj]
           refine br_dec.2 ⟨fun hpos => ?_,fun hnp => br_iff.2 ⟨fun hz => br_iff.2 ⟨fun hne => ?_,fun he => ?_⟩,fun hz => ?_⟩⟩
           · refine hR7 (s.1,s.2.1,true) _ hjn ⟨rfl,?_,by dsimp only; omega⟩
             rw [← hsc]; congr 1
             unfold scan1; rw [if_pos hpos]
           · have hz : Go.Sv.valS wv y = 0 := by simpa using hz
             have hne : y ≠ s.1 := by simpa using hne
             have wo : IntKind.wrap .i64 ((s.2.1 : Int) + 1) = ((s.2.1 + 1 : Nat) : Int) := by rw [w64 (by omega) (by omega)]; omega
             rw [wo]
             refine hR7 (y,s.2.1 + 1,s.2.2) _ hjn ⟨rfl,?_,by dsimp only; omega⟩
             rw [← hsc]; congr 1
             unfold scan1; rw [if_neg hnp,if_pos ⟨hz,hne⟩]
           · have he : y = s.1 := by simpa using he
             refine hR7 s _ hjn ⟨rfl,?_,by omega⟩
             rw [← hsc]; congr 1
             unfold scan1; rw [if_neg hnp,if_neg (fun h => h.2 he)]
           · have hz : Go.Sv.valS wv y ≠ 0 := by simpa using hz
             refine hR7 s _ hjn ⟨rfl,?_,by omega⟩
             rw [← hsc]; congr 1
             unfold scan1; rw [if_neg hnp,if_neg (fun h => hz h.1)]
         · have hjn : j = m := by omega
           subst hjn
           rw [List.drop_eq_nil_of_le (by omega),scanC] at hsc
           rw [← hsc] at hrd
           have hsl := scan_lit (val := wv) (N := F.bools) (c := cl) (s := (0,0,false)) hclit (.inl rfl) (.inl rfl)
           rw [← hsc] at hsl
           have hsL : Lit s.1 := by
             rcases hsl.1 with h | h
             · rw [h]; unfold Lit; omega
             · exact litN h hnb
           rw [wk]
           refine br_iff.2 ⟨fun hh => ?_,fun hh => br_dec.2 ⟨fun ho => ?_,fun ho => br_iff.2 ⟨fun hz => ?_,fun hz => ?_⟩⟩⟩
           · rw [if_pos (.inl hh)] at hrd
             exact hR5 (wv,ch) _ hkn ⟨P,hrd⟩
           · rw [if_pos (.inr (by omega))] at hrd
             exact hR5 (wv,ch) _ hkn ⟨P,hrd⟩
           · have hz : s.2.1 = 0 := by simp at hz; omega
             rw [if_neg (by simp [hh]; omega),if_pos hz] at hrd
             exact h1 hrd.symm υ P.sub
           · have hz : s.2.1 ≠ 0 := by intro h; rw [h] at hz; simp at hz
             rw [if_neg (by simp [hh]; omega),if_neg hz] at hrd
             refine c42 P.k16 P.k15 P.len (by omega) hsL (fun h => ⟨υ,.refl _,_,rfl,?_⟩) fun val' τ h hB hst => ⟨τ,.refl _,_,rfl,?_⟩
             · rw [h] at hrd
               exact hR5 (wv,true) _ hkn ⟨P,hrd⟩
             · rw [h] at hrd
               exact hR5 (val',true) _ hkn ⟨P.set h hB hst,hrd⟩
       · have hkn : k = cn := by omega
         subst hkn
         rw [List.drop_eq_nil_of_le (by omega),roundP] at hrd
         exact h2 wv ch υ hrd.symm P
     have fin : ∀ (w' : List Int),PropR F.clauses v0 (some w') → ∀ τ,PV σ τ [.int .i64 F.ints,.int .i64 F.bools,.slice aa an ac,.slice ca cn cc] b12 b15 b16 F.bools w' → ∀ R3 : Addr × Addr × Addr × Bool → PH → Prop,S25_4 C Q R3 (ptr b12) (ptr b16) (ptr b16) false τ := by
       intro w' hpr υ P R3
       unfold S25_4
       have g16 := P.k16.get (i := 0) rfl
       rw [e0] at g16
       refine br_iff.2 ⟨fun h => (by cases h),fun _ => ⟨_,g16,_,_,_,rfl,?_⟩⟩
       unfold S25_9
       refine iloopS_for (G := Sli) (fun k sl => (sl.a,sl.n,sl.c,some (ptr b15),F.bools,F.bools,(F.bools : Int),(k : Int))) (fun k sl τ => υ.sub τ ∧ Own τ 3 1 sl.a sl.n sl.c (ints (litsTo w' k)) ∧ ∀ p,sl.a = some p → υ p.block = none) F.bools ?_ (g := ⟨none,0,0⟩) ⟨.refl _,own_nil,fun p hp => by cases hp⟩
       rintro k sl τ hk ⟨hs,hO,hnew⟩ R9 hR9
       unfold S25_10
       dsimp only at hO hnew ⊢
       refine br_dec.2 ⟨fun hlt => ?_,fun hge => ?_⟩
       · have hkn : k < F.bools := by omega
         have hkl : k < w'.length := by rw [P.len]; exact hkn
         have hc : τ.cell? ((ptr b15).add k) = some (.int .i64 (w'.getD k 0)) := hs.cell (P.k15.get (i := k) (by rw [ints,List.getElem?_map,List.getElem?_eq_getElem hkl,List.getD_eq_getElem?_getD,List.getElem?_eq_getElem hkl]; rfl))
         have hsm := P.sm (w'.getD k 0) (by rw [List.getD_eq_getElem?_getD,List.getElem?_eq_getElem hkl]; exact List.getElem_mem _)
         have hlt' := litsTo_succ w' k
         have hll' := litsTo_len w' k
         generalize w'.getD k 0 = y at *
         have wk : IntKind.wrap .i64 ((k : Int) + 1) = (k : Int) + 1 := w64 (by omega) (by omega)
         have wy : IntKind.wrap .i64 (y * ((k : Int) + 1)) = y * ((k : Int) + 1) := by
           have : y = -1 ∨ y = 0 ∨ y = 1 := by omega
           rcases this with rfl | rfl | rfl <;> rw [w64 (by omega) (by omega)]
         rw [wk,show ((k : Int) + 1) = ((k + 1 : Nat) : Int) from by omega]
         refine ⟨_,rfl,by omega,by omega,_,by rw [Int.toNat_natCast,Nat.mul_one]; exact hc,y,rfl,br_iff.2 ⟨fun hne b hbn => ?_,fun he => ?_⟩⟩
         · have hne : y ≠ 0 := by simpa using hne
           rw [if_neg hne] at hlt'
           rw [show ((k + 1 : Nat) : Int) = (k : Int) + 1 from by omega,wy]
           exact growNew hs hO hnew (y * ((k : Int) + 1)) (by omega) hbn (R := fun a n c τ => R9 (a,n,c,some (ptr b15),F.bools,F.bools,(F.bools : Int),(k : Int) + 1) τ) fun sl' τ' g1 g2 g3 => hR9 sl' τ' hkn ⟨g1,by rw [hlt']; exact g2,g3⟩
         · have he : y = 0 := by simpa using he
           rw [if_pos he,List.append_nil] at hlt'
           exact hR9 sl τ hkn ⟨hs,by rw [hlt']; exact hO,hnew⟩
       · have hkn : k = F.bools := by omega
         subst hkn
         exact hok v0 w' τ sl hv0 hpr (P.sub.trans hs) hO fun p hp => new_of P.sub (hnew p hp)
     induction hwr with
     | stop h =>
       intro hpr υ P
       unfold S25_3
       intro R3 hR3
       refine hR3 _ _ (step _ hpr υ P R3 (fun h' τ hτ => hno (.inr ⟨v0,hv0,hpr _ (.stop h')⟩) τ hτ) fun w' ch τ h' _ => ?_)
       rw [h] at h'; cases h'
     | @done w w' h =>
       intro hpr υ P
       unfold S25_3
       intro R3 hR3
       refine hR3 _ _ (step _ hpr υ P R3 (fun h' _ _ => ?_) fun w2 ch τ h' P' => ?_)
       · rw [h] at h'; cases h'
       · rw [h] at h'; cases h'
         exact hR3 _ _ (fin _ (hpr _ (.done h)) τ P' R3)
     | @go w w' r h _ ih =>
       intro hpr υ P
       unfold S25_3
       intro R3 hR3
       refine hR3 _ _ (step _ hpr υ P R3 (fun h' _ _ => ?_) fun w2 ch τ h' P' => ?_)
       · rw [h] at h'; cases h'
       · rw [h] at h'; cases h'
         exact ih (fun r' hr' => hpr r' (.go h hr')) τ P' R3 hR3
   exact key val hs.symm val r hr (fun _ h => h) υ P
theorem c18sat {σ : PH} {F : Fm} (hF : FOk F) (hlen : ∀ c ∈ F.clauses,c.length ≤ 1000000) {aa ca : Option Addr} {an ac cn cc : Nat} (hA : Atoms σ aa an F.atoms) (hL : Lists σ ca cn F.clauses) {ba xa : Option Addr} {bc xc : Nat} {bl : List Bool} {x : Nat → Int} (hB : Bools σ ba F.bools bl) (hX : Ints σ xa F.ints (tab F.ints x)) (hM : SatM F bl x) {la : Option Addr} {lc : Nat} {Q : Value → PH → Prop} (hQ : ∀ τ,σ.sub τ → Q (.bool true) τ) :
   C 18 #[.agg #[.int .i64 F.ints,.int .i64 F.bools,.slice aa an ac,.slice ca cn cc],.agg #[.slice ba F.bools bc,.slice xa F.ints xc],.slice la 0 lc,.bool true] Q σ := by
 refine go (E18_0 _ _ _ _ _ _ _ _ _ _ _ _ _ _ _ _ _ _ _ _ _) ?_
 unfold S18_0
 have e0 : ∀ b : Nat,(Addr.mk b 0 none).add 0 = ⟨b,0,none⟩ := fun b => rfl
 intro b15 h15
 have s15 := PH.sub_set (o := .cells #[.int .i64 F.ints,.int .i64 F.bools,.slice aa an ac,.slice ca cn cc] 29) h15
 have B15 : Blk (σ.set b15 (.cells #[.int .i64 F.ints,.int .i64 F.bools,.slice aa an ac,.slice ca cn cc] 29)) b15 29 [.int .i64 F.ints,.int .i64 F.bools,.slice aa an ac,.slice ca cn cc] := set_self
 generalize σ.set b15 (.cells #[.int .i64 F.ints,.int .i64 F.bools,.slice aa an ac,.slice ca cn cc] 29) = ω0 at *
 intro b16 h16
 have s16 := PH.sub_set (o := .cells #[.slice ba F.bools bc,.slice xa F.ints xc] 35) h16
 have B16 : Blk (ω0.set b16 (.cells #[.slice ba F.bools bc,.slice xa F.ints xc] 35)) b16 35 [.slice ba F.bools bc,.slice xa F.ints xc] := set_self
 have B15 := s16 _ _ B15
 have sω := s15.trans s16
 generalize ω0.set b16 (.cells #[.slice ba F.bools bc,.slice xa F.ints xc] 35) = ω at *
 replace B15 : Blk ω b15 29 [.int .i64 F.ints,.int .i64 F.bools,.slice aa an ac,.slice ca cn cc] := B15
 have g15 := B15.get (i := 0) rfl
 have g16 := B16.get (i := 0) rfl
 rw [e0] at g15 g16
 refine br_iff.2 ⟨fun _ => br_iff.2 ⟨fun _ => ?_,fun h => by simp at h⟩,fun h => (by cases h)⟩
 refine ⟨_,g15,_,B15.get (i := 1) rfl,_,B15.get (i := 2) rfl,_,B15.get (i := 3) rfl,_,_,_,_,_,_,_,_,rfl,_,g16,_,B16.get (i := 1) rfl,_,_,_,_,_,_,rfl,?_⟩
 exact c39 hF hlen (hA.sub sω) (hL.sub sω) (hB.sub sω) (hX.sub sω) hM fun τ hs => ⟨τ,.refl _,true,rfl,hQ τ (sω.trans hs)⟩
theorem c18no {σ : PH} {F : Fm} (hF : FOk F) (hlen : ∀ c ∈ F.clauses,c.length ≤ 1000000) {aa ca : Option Addr} {an ac cn cc : Nat} (hA : Atoms σ aa an F.atoms) (hL : Lists σ ca cn F.clauses) {a : Option Addr} {n c : Nat} {ps : List PStep} (hS : StepsM σ a n ps) {cs : List (List Int)} (hcs : stepsOf F ps = some cs) (hlast : cs.getLast? = some []) (hn : n ≤ 3500000000000) {Q : Value → PH → Prop} (hQ : ∀ τ,σ.sub τ → Q (.bool true) τ) :
   C 18 #[.agg #[.int .i64 F.ints,.int .i64 F.bools,.slice aa an ac,.slice ca cn cc],.agg #[.slice none 0 0,.slice none 0 0],.slice a n c,.bool false] Q σ := by
 refine go (E18_0 _ _ _ _ _ _ _ _ _ _ _ _ _ _ _ _ _ _ _ _ _) ?_
 unfold S18_0
 have e0 : ∀ b : Nat,(Addr.mk b 0 none).add 0 = ⟨b,0,none⟩ := fun b => rfl
 intro b15 h15
 have s15 := PH.sub_set (o := .cells #[.int .i64 F.ints,.int .i64 F.bools,.slice aa an ac,.slice ca cn cc] 29) h15
 have B15 : Blk (σ.set b15 (.cells #[.int .i64 F.ints,.int .i64 F.bools,.slice aa an ac,.slice ca cn cc] 29)) b15 29 [.int .i64 F.ints,.int .i64 F.bools,.slice aa an ac,.slice ca cn cc] := set_self
 generalize σ.set b15 (.cells #[.int .i64 F.ints,.int .i64 F.bools,.slice aa an ac,.slice ca cn cc] 29) = ω0 at *
 intro b16 h16
 have s16 := PH.sub_set (o := .cells #[.slice none 0 0,.slice none 0 0] 35) h16
 have B16 : Blk (ω0.set b16 (.cells #[.slice none 0 0,.slice none 0 0] 35)) b16 35 [.slice none 0 0,.slice none 0 0] := set_self
 have B15 := s16 _ _ B15
 have sω := s15.trans s16
 generalize ω0.set b16 (.cells #[.slice none 0 0,.slice none 0 0] 35) = ω at *
 replace B15 : Blk ω b15 29 [.int .i64 F.ints,.int .i64 F.bools,.slice aa an ac,.slice ca cn cc] := B15
 have g15 := B15.get (i := 0) rfl
 rw [e0] at g15
 refine br_iff.2 ⟨fun h => (by cases h),fun _ => ?_⟩
 refine ⟨_,g15,_,B15.get (i := 1) rfl,_,B15.get (i := 2) rfl,_,B15.get (i := 3) rfl,_,_,_,_,_,_,_,_,rfl,?_⟩
 refine c40 hF hlen (hA.sub sω) (hL.sub sω) (hS.sub sω) hcs hlast hn fun τ hs => ⟨τ,.refl _,0,0,rfl,br_iff.2 ⟨fun _ => ?_,fun h => by simp at h⟩⟩
 have Bτ : Blk τ b16 35 [.slice none 0 0,.slice none 0 0] := hs _ _ B16
 have g16 := Bτ.get (i := 0) rfl
 rw [e0] at g16
 refine ⟨_,g16,_,_,_,rfl,_,Bτ.get (i := 1) rfl,_,_,_,rfl,?_⟩
 have w : IntKind.wrap .i64 (((0 : Nat) : Int) + ((0 : Nat) : Int)) = 0 := by rw [w64 (by omega) (by omega)]; rfl
 rw [w]
 exact hQ τ (sω.trans hs)
end Go.Proofs.Ythfnjogadngfiaa
namespace Go.Sv
theorem litT_neg {bl : List Bool} {y : Int} (hy : y ≠ 0) : litT bl (-y) ↔ ¬ litT bl y := by
 unfold litT
 by_cases h : 0 < y
 · rw [if_pos h,if_neg (by omega),Int.neg_neg]; simp
 · rw [if_neg h,if_pos (by omega)]; simp
theorem bound_sat {F : Fm} {bl : List Bool} {x : Nat → Int} (hM : SatM F bl x) {y : Int} {d : Dif} (hb : bound F y = some d) (hy : litT bl y) : x (dX d) - x (dY d) ≤ d.2.2 := by
 unfold bound at hb
 split at hb
 · cases hb
 · rename_i h0
   split at hb
   · cases hb
   · rename_i a b c hat
     have := hM.at' _ _ hat
     split at hb
     · rename_i hp
       cases hb
       unfold litT at hy
       rw [if_pos hp,show (y - 1).toNat = vr y from by unfold vr; omega] at hy
       exact this.1 hy
     · rename_i hp
       cases hb
       unfold litT at hy
       rw [if_neg hp,show (-y - 1).toNat = vr y from by unfold vr; omega] at hy
       have hn : ¬ (x (dX (a,b,c)) - x (dY (a,b,c)) ≤ c) := fun h => by
         have := this.2 h
         rw [hy] at this; cases this
       have e1 : dX (b,a,-c - 1) = dY (a,b,c) := rfl
       have e2 : dY (b,a,-c - 1) = dX (a,b,c) := rfl
       rw [e1,e2]
       show _ ≤ -c - 1
       omega
theorem sound {F : Fm} (hF : FOk F) {bl : List Bool} {x : Nat → Int} (hM : SatM F bl x) {l : List PStep} {cs : List (List Int)} (h : stepsOf F l = some cs) : ∀ (i : Nat) c,cs[i]? = some c → ∃ y ∈ c,litT bl y := by
 obtain ⟨hlen,hat⟩ := stepsOf_pre h
 have hlit := steps_lit hF h
 intro i
 induction i using Nat.strongRecOn with
 | ind i ih =>
   intro c hc
   have hi := (List.getElem?_eq_some_iff.1 hc).1
   obtain ⟨s,hs⟩ : ∃ s,l[i]? = some s := ⟨_,List.getElem?_eq_getElem (by omega)⟩
   obtain ⟨c',q1,q2⟩ := hat i s hs
   rw [hc] at q1; cases q1
   have fin : ∀ {d : List Int},norm d = some c → (∃ y ∈ d,litT bl y) → ∃ y ∈ c,litT bl y := fun hd ⟨y,h1,h2⟩ => by
     obtain ⟨_,hm,_⟩ := norm_some hd
     exact ⟨y,(hm y).2 h1,h2⟩
   unfold stepClause at q2
   split at q2
   · split at q2
     · split at q2
       · rename_i d hd
         exact fin q2 (hM.cl d (List.mem_of_getElem? hd))
       · cases q2
     · cases q2
   · split at q2
     · obtain ⟨h1,h2⟩ := cyclic_litN hF q2
       refine fin h2 ?_
       apply Classical.byContradiction
       intro hne
       have hall : ∀ y ∈ s.lits,litT bl y := by
         intro y hy
         apply Classical.byContradiction
         intro hny
         exact hne ⟨-y,List.mem_map.2 ⟨y,hy,rfl⟩,(litT_neg (h1 y hy).1).2 hny⟩
       unfold cyclic at q2
       split at q2
       · cases q2
       · rename_i lb hb
         split at q2
         · rename_i hr
           refine ring_false (x := x) hr.1 fun d hd => ?_
           obtain ⟨y,hy1,hy2⟩ := bounds_mem hb d hd
           exact bound_sat hM hy2 (hall y hy1)
         · cases q2
     · split at q2
       · split at q2
         · split at q2
           · rename_i a b ha hb
             rw [List.getElem?_take] at ha hb
             split at ha
             · rename_i hp
               split at hb
               · rename_i hq
                 refine fin (resolvent_some q2) ?_
                 obtain ⟨y,y1,y2⟩ := ih _ hp a ha
                 obtain ⟨z,z1,z2⟩ := ih _ hq b hb
                 by_cases hy : y = s.v + 1
                 · have hz : z ≠ -(s.v + 1) := by
                     intro hz
                     rw [hz] at z2
                     rw [hy] at y2
                     have h0 : s.v + 1 ≠ 0 := by
                       have := ((hlit _ a ha).2 y y1).1
                       omega
                     exact (litT_neg h0).1 z2 y2
                   exact ⟨z,List.mem_append_right _ (List.mem_filter.2 ⟨z1,by simpa using hz⟩),z2⟩
                 · exact ⟨y,List.mem_append_left _ (List.mem_filter.2 ⟨y1,by simpa using hy⟩),y2⟩
               · cases hb
             · cases ha
           · cases q2
         · cases q2
       · cases q2
theorem sound_no {F : Fm} (hF : FOk F) {bl : List Bool} {x : Nat → Int} (hM : SatM F bl x) {l : List PStep} {cs : List (List Int)} (h : stepsOf F l = some cs) (hl : cs.getLast? = some []) : False := by
 rw [List.getLast?_eq_getElem?] at hl
 obtain ⟨y,hy,_⟩ := sound hF hM h _ _ hl
 simp at hy
end Go.Sv
namespace Go.Proofs.Ythfnjogadngfiaa
open Go.Sl Go.Sv
def aw1 : Fm := ⟨0,3,[],[[-1,2],[-2,3]]⟩
def aw2 : Fm := ⟨2,2,[(0,1,-1),(1,0,-1)],[[1],[2]]⟩
def aw3 : Fm := ⟨2,2,[(0,1,-1),(1,0,-1)],[[1]]⟩
theorem aw1_ok : FOk aw1 := by
 refine ⟨by decide,by decide,by decide,by decide,?_,by decide⟩
 unfold LitN; decide
theorem aw2_ok : FOk aw2 := by
 refine ⟨by decide,by decide,by decide,by decide,?_,by decide⟩
 unfold LitN; decide
theorem aw3_ok : FOk aw3 := by
 refine ⟨by decide,by decide,by decide,by decide,?_,by decide⟩
 unfold LitN; decide
theorem aw_r1 : roundP aw1.clauses [1,0,0] false = some ([1,1,1],true) := by decide
theorem aw_r2 : roundP aw1.clauses [1,1,1] false = some ([1,1,1],false) := by decide
theorem aw_prop : ∀ {r},PropR aw1.clauses [1,0,0] r → r = some [1,1,1] := by
 have h2 : ∀ {r},PropR aw1.clauses [1,1,1] r → r = some [1,1,1] := by
   intro r h
   cases h with
   | stop h => rw [aw_r2] at h; cases h
   | done h => rw [aw_r2] at h; cases h; rfl
   | go h _ => rw [aw_r2] at h; cases h
 intro r h
 cases h with
 | stop h => rw [aw_r1] at h; cases h
 | done h => rw [aw_r1] at h; cases h
 | go h hr => rw [aw_r1] at h; cases h; exact h2 hr
theorem aw2_no {bl : List Bool} {x : Nat → Int} (h : SatM aw2 bl x) : False := by
 obtain ⟨y,hy,h1⟩ := h.cl [1] (by decide)
 obtain ⟨z,hz,h2⟩ := h.cl [2] (by decide)
 simp at hy hz
 subst hy; subst hz
 have a0 := (h.at' 0 (0,1,-1) rfl).1 (by unfold litT at h1; simpa using h1)
 have a1 := (h.at' 1 (1,0,-1) rfl).1 (by unfold litT at h2; simpa using h2)
 have e0 : dX (0,1,-1) = 0 := rfl
 have e1 : dY (0,1,-1) = 1 := rfl
 have e2 : dX (1,0,-1) = 1 := rfl
 have e3 : dY (1,0,-1) = 0 := rfl
 rw [e0,e1] at a0
 rw [e2,e3] at a1
 dsimp only at a0 a1
 omega
theorem aw3_sat : SatM aw3 [true,false] (fun v => if v = 0 then -1 else 0) := by
 refine ⟨rfl,fun c hc => ?_,fun i d hd => ?_,fun v _ => ?_⟩
 · have : c = [1] := by simpa [aw3] using hc
   subst this
   exact ⟨1,by simp,by unfold litT; decide⟩
 · match i,hd with
   | 0,hd => cases hd; decide
   | 1,hd => cases hd; decide
   | i + 2,hd => simp [aw3] at hd
 · show _ ≤ (if v = 0 then (-1 : Int) else 0) ∧ (if v = 0 then (-1 : Int) else 0) ≤ 0
   split <;> omega
theorem blk_ints {ω : PH} {b : Nat} {l : List Int} {n : Nat} (h : Blk ω b 3 (ints l)) (hn : l.length = n) : Ints ω (some (ptr b)) n l := ⟨hn,.inr ⟨_,rfl,fun i v hv => h.get hv⟩⟩
theorem c20 {σ : PH} {Q : Value → PH → Prop} (hQ : ∀ τ,σ.sub τ → Q (.bool true) τ) : C 20 #[] Q σ := by
 refine go (E20_0 _ _ _) ?_
 unfold S20_0
 have e0 : ∀ b : Nat,(Addr.mk b 0 none).add 0 = ⟨b,0,none⟩ := fun b => rfl
 intro b1 h1
 have s1 := PH.sub_set (o := .cells #[.int .i64 (-1),.int .i64 2] 3) h1
 have k1 : Blk (σ.set b1 (.cells #[.int .i64 (-1),.int .i64 2] 3)) b1 3 (ints [-1,2]) := set_self
 generalize σ.set b1 (.cells #[.int .i64 (-1),.int .i64 2] 3) = ω1 at *
 intro b2 h2
 have s2 := PH.sub_set (o := .cells #[.int .i64 (-2),.int .i64 3] 3) h2
 have k2 : Blk (ω1.set b2 (.cells #[.int .i64 (-2),.int .i64 3] 3)) b2 3 (ints [-2,3]) := set_self
 generalize ω1.set b2 (.cells #[.int .i64 (-2),.int .i64 3] 3) = ω2 at *
 intro b3 h3
 have s3 := PH.sub_set (o := .cells #[.slice (some ⟨b1,0,none⟩) 2 2,.slice (some ⟨b2,0,none⟩) 2 2] 33) h3
 have k3 : Blk (ω2.set b3 (.cells #[.slice (some ⟨b1,0,none⟩) 2 2,.slice (some ⟨b2,0,none⟩) 2 2] 33)) b3 33 [.slice (some (ptr b1)) 2 2,.slice (some (ptr b2)) 2 2] := set_self
 generalize ω2.set b3 (.cells #[.slice (some ⟨b1,0,none⟩) 2 2,.slice (some ⟨b2,0,none⟩) 2 2] 33) = ω3 at *
 intro b4 h4
 have s4 := PH.sub_set (o := .cells #[.int .i64 1] 3) h4
 have k4 : Blk (ω3.set b4 (.cells #[.int .i64 1] 3)) b4 3 (ints [1]) := set_self
 generalize ω3.set b4 (.cells #[.int .i64 1] 3) = ω4 at *
 have sub4 := ((s1.trans s2).trans s3).trans s4
 have L1 : Lists ω4 (some (ptr b3)) 2 aw1.clauses := by
   refine ⟨rfl,fun i c hc => ?_⟩
   match i,hc with
   | 0,hc => cases hc; exact ⟨_,_,_,_,rfl,s4.cell (k3.get (i := 0) rfl),blk_ints (s4 _ _ (s3 _ _ (s2 _ _ k1))) rfl,Nat.le_refl _⟩
   | 1,hc => cases hc; exact ⟨_,_,_,_,rfl,s4.cell (k3.get (i := 1) rfl),blk_ints (s4 _ _ (s3 _ _ k2)) rfl,Nat.le_refl _⟩
   | i + 2,hc => simp [aw1] at hc
 have hset : setAll (List.replicate aw1.bools 0) [1] = some [1,0,0] := by decide
 refine c25 (F := aw1) aw1_ok (by decide) L1 (blk_ints k4 rfl) (by intro x hx; simp at hx; subst hx; unfold Lit; omega) (by decide) (fun h => ?_) (fun v val υ7 sl hv hp hs7 hO7 hnew7 => ?_) (fun v hv => ?_)
 · exfalso
   rcases h with h | ⟨v,hv,hp⟩
   · rw [hset] at h; cases h
   · rw [hset] at hv; cases hv
     have := aw_prop hp; cases this
 rotate_left
 · rw [hset] at hv; cases hv
   exact ⟨_,.go aw_r1 (.done aw_r2)⟩
 rw [hset] at hv; cases hv
 have hval := aw_prop hp
 cases hval
 have hl123 : litsTo [1,1,1] aw1.bools = [1,2,3] := by decide
 rw [hl123] at hO7
 refine ⟨υ7,.refl _,_,_,_,_,rfl,?_⟩
 have σ7 := sub4.trans hs7
 have I7 := own_ints hO7
 intro b12 h12
 have s12 := PH.sub_set (o := .cells #[.int .i64 0,.int .i64 1,.int .i64 (-1),.int .i64 1,.int .i64 0,.int .i64 (-1)] 50) h12
 have k12 : Blk (υ7.set b12 (.cells #[.int .i64 0,.int .i64 1,.int .i64 (-1),.int .i64 1,.int .i64 0,.int .i64 (-1)] 50)) b12 50 (difV [(0,1,-1),(1,0,-1)]) := set_self
 generalize υ7.set b12 (.cells #[.int .i64 0,.int .i64 1,.int .i64 (-1),.int .i64 1,.int .i64 0,.int .i64 (-1)] 50) = ω12 at *
 intro b13 h13
 have s13 := PH.sub_set (o := .cells #[.int .i64 1] 3) h13
 have k13 : Blk (ω12.set b13 (.cells #[.int .i64 1] 3)) b13 3 (ints [1]) := set_self
 generalize ω12.set b13 (.cells #[.int .i64 1] 3) = ω13 at *
 intro b14 h14
 have s14 := PH.sub_set (o := .cells #[.int .i64 2] 3) h14
 have k14 : Blk (ω13.set b14 (.cells #[.int .i64 2] 3)) b14 3 (ints [2]) := set_self
 generalize ω13.set b14 (.cells #[.int .i64 2] 3) = ω14 at *
 intro b15 h15
 have s15 := PH.sub_set (o := .cells #[.slice (some ⟨b13,0,none⟩) 1 1,.slice (some ⟨b14,0,none⟩) 1 1] 33) h15
 have k15 : Blk (ω14.set b15 (.cells #[.slice (some ⟨b13,0,none⟩) 1 1,.slice (some ⟨b14,0,none⟩) 1 1] 33)) b15 33 [.slice (some (ptr b13)) 1 1,.slice (some (ptr b14)) 1 1] := set_self
 generalize ω14.set b15 (.cells #[.slice (some ⟨b13,0,none⟩) 1 1,.slice (some ⟨b14,0,none⟩) 1 1] 33) = ω15 at *
 intro b16 h16
 simp only [newSet,newSet0,newCell,newCell0,newFroz,newFroz0,List.setIfInBounds_toArray,List.set_cons_zero,List.set_cons_succ,List.getElem?_toArray,List.getElem?_cons_zero,List.getElem?_cons_succ,Option.some.injEq,exists_eq',true_and,exists_eq_left']
 have s16 := PH.sub_set (o := .cells #[.int .i64 2,.int .i64 2,.slice (some ⟨b12,0,none⟩) 2 2,.slice (some ⟨b15,0,none⟩) 2 2] 29) h16
 have k16 : Blk (ω15.set b16 (.cells #[.int .i64 2,.int .i64 2,.slice (some ⟨b12,0,none⟩) 2 2,.slice (some ⟨b15,0,none⟩) 2 2] 29)) b16 29 [.int .i64 2,.int .i64 2,.slice (some (ptr b12)) 2 2,.slice (some (ptr b15)) 2 2] := set_self
 generalize ω15.set b16 (.cells #[.int .i64 2,.int .i64 2,.slice (some ⟨b12,0,none⟩) 2 2,.slice (some ⟨b15,0,none⟩) 2 2] 29) = ω16 at *
 have s715 := ((s12.trans s13).trans s14).trans s15
 have A2 : Atoms ω15 (some (ptr b12)) 2 aw2.atoms := (own_atoms (n := 2) (c := 2) ⟨rfl,Nat.le_refl _,.inr ⟨b12,_,rfl,k12,rfl,rfl⟩⟩).sub ((s13.trans s14).trans s15)
 have L2 : Lists ω15 (some (ptr b15)) 2 aw2.clauses := by
   refine ⟨rfl,fun i c hc => ?_⟩
   match i,hc with
   | 0,hc => cases hc; exact ⟨_,_,_,_,rfl,k15.get (i := 0) rfl,blk_ints (s15 _ _ (s14 _ _ k13)) rfl,Nat.le_refl _⟩
   | 1,hc => cases hc; exact ⟨_,_,_,_,rfl,k15.get (i := 1) rfl,blk_ints (s15 _ _ k14) rfl,Nat.le_refl _⟩
   | i + 2,hc => simp [aw2] at hc
 have n16 : υ7 b16 = none := new_of s715 h16
 refine ⟨_,_,_,_,_,_,_,_,rfl,?_⟩
 refine c17 (F := aw2) aw2_ok (by decide) (by decide) (A2.sub s16) (L2.sub s16) (Nat.le_refl _) (Nat.le_refl _) (fun τ b X bl x _ _ _ hM => (aw2_no hM).elim) fun υ35 a n c ps cs hs35 _ _ _ _ _ => ?_
 refine ⟨υ35,.refl _,_,_,_,_,_,_,_,_,_,_,rfl,?_⟩
 intro b46 h46
 have k16a : Blk υ35 b16 29 [.int .i64 2,.int .i64 2,.slice (some (ptr b12)) 2 2,.slice (some (ptr b15)) 2 2] := hs35 _ _ k16
 have s46 := PH.sub_set (o := .cells #[.slice none 0 0,.slice none 0 0] 35) h46
 generalize υ35.set b46 (.cells #[.slice none 0 0,.slice none 0 0] 35) = ω46 at *
 have k16b : Blk ω46 b16 29 [.int .i64 2,.int .i64 2,.slice (some (ptr b12)) 2 2,.slice (some (ptr b15)) 2 2] := s46 _ _ k16a
 have st : Step (· = b16) ω46 (ω46.setCell ((ptr b16).add 3) (.slice (some (ptr b15)) (Int.toNat 1) 2)) := setCell_step.weaken fun b hb => hb.trans (add_block _ _)
 have k16c := k16b.set 3 (.slice (some (ptr b15)) (Int.toNat 1) 2)
 have s1546 : ω15.sub ω46 := (s16.trans hs35).trans s46
 have sN : ω15.sub (ω46.setCell ((ptr b16).add 3) (.slice (some (ptr b15)) (Int.toNat 1) 2)) := sub_step_new s1546 st (by rintro b rfl; exact h16)
 refine ⟨_,k16b.get (i := 3) rfl,_,_,_,rfl,by omega,by omega,⟨_,k16b.get (i := 3) rfl⟩,k16b.froz 3,?_⟩
 have g0 := k16c.get (i := 0) rfl
 rw [e0] at g0
 refine ⟨_,g0,_,k16c.get (i := 1) rfl,_,k16c.get (i := 2) rfl,_,k16c.get (i := 3) rfl,_,_,_,_,_,_,_,_,rfl,?_⟩
 have L3 : Lists ω15 (some (ptr b15)) 1 aw3.clauses := by
   refine ⟨rfl,fun i c hc => ?_⟩
   match i,hc with
   | 0,hc => cases hc; exact ⟨_,_,_,_,rfl,k15.get (i := 0) rfl,blk_ints (s15 _ _ (s14 _ _ k13)) rfl,Nat.le_refl _⟩
   | i + 1,hc => simp [aw3] at hc
 refine c17 (F := aw3) aw3_ok (by decide) (by decide) (A2.sub sN) (L3.sub sN) (Nat.le_refl _) (by decide) (fun υ68 b X bl x hs68 _ _ _ => ?_) fun τ a n c ps cs _ _ _ hcs hlast _ => (sound_no aw3_ok aw3_sat hcs hlast).elim
 refine ⟨υ68,.refl _,_,_,_,_,_,_,_,_,_,_,rfl,?_⟩
 intro b79 h79
 have s768 : υ7.sub υ68 := (s715.trans sN).trans hs68
 refine br_iff.2 ⟨fun _ b82 h82 => ?_,fun h => (by cases h)⟩
 have s79 := PH.sub_set (o := .cells #[.slice (some (ptr b)) aw3.bools aw3.bools,.slice (some (ptr X)) aw3.ints aw3.ints] 35) h79
 have s82 := PH.sub_set (o := .cells #[.int .i64 1,.int .i64 2,.int .i64 3] 3) h82
 have s7f := (s768.trans s79).trans s82
 have k82 : Blk ((υ68.set b79 (.cells #[.slice (some (ptr b)) aw3.bools aw3.bools,.slice (some (ptr X)) aw3.ints aw3.ints] 35)).set b82 (.cells #[.int .i64 1,.int .i64 2,.int .i64 3] 3)) b82 3 (ints [1,2,3]) := set_self
 have hn7 := I7.1
 refine (c27 (by unfold Len; simp at hn7; omega) (I7.sub s7f) (blk_ints k82 rfl)).mono hb ?_
 rintro _ τ ⟨rfl,eτ⟩
 obtain rfl := eτ.symm
 exact ⟨_,.refl _,_,rfl,br_iff.2 ⟨fun _ => br_iff.2 ⟨fun _ => hQ _ (σ7.trans s7f),fun h => (by cases h)⟩,fun h => by simp at h⟩⟩
theorem _root_.Go.Sl.Own.obj {σ : PH} {e size : Nat} {a : Option Addr} {n c : Nat} {vs : List Value} (o : Own σ e size a n c vs) {p : Addr} (hp : a = some p) : ∃ arr,σ p.block = some (.cells arr e (0,0)) := by
 rcases o.row with ⟨rfl,_⟩ | ⟨b,arr,rfl,hb,_⟩
 · cases hp
 · cases hp; exact ⟨arr,hb⟩
theorem ne_ty {ω : PH} {b b' : Nat} {arr arr' : Array Value} {e e' : Nat} {f f' : Nat × Nat} (h : ω b = some (.cells arr e f)) (h' : ω b' = some (.cells arr' e' f')) (he : e ≠ e') : b ≠ b' := by
 rintro rfl; rw [h] at h'; cases h'; exact he rfl
structure U8s (σ : PH) (a : Option Addr) (n : Nat) (l : List Int) : Prop where
 len : l.length = n
 row : Row σ a (l.map (.int .u8))
 rng : ∀ x ∈ l,0 ≤ x ∧ x < 256
structure Tape (φ ω : PH) (t : Nat) (s : Sli) (l : List Int) (k : Nat) : Prop where
 blk : Blk ω t 90 [s.v,.int .i64 k]
 new : φ t = none
 u8 : U8s φ s.a s.n l
 le : k ≤ l.length
structure FR (φ ω : PH) (A K : Sli) (atoms : List Dif) (cs : List (List Int)) : Prop where
 sub : φ.sub ω
 oa : Own ω 50 3 A.a A.n A.c (difV atoms)
 anew : ∀ p,A.a = some p → φ p.block = none
 ok : ∃ vs,Own ω 33 1 K.a K.n K.c vs ∧ vs.length = cs.length ∧ ∀ (i : Nat) c,cs[i]? = some c → ∃ x m k,vs[i]? = some (.slice x m k) ∧ Ints φ x m c ∧ m ≤ k
 knew : ∀ p,K.a = some p → φ p.block = none
theorem FR.atoms {φ ω : PH} {A K : Sli} {atoms : List Dif} {cs : List (List Int)} (h : FR φ ω A K atoms cs) : Atoms ω A.a A.n atoms := own_atoms h.oa
theorem FR.an {φ ω : PH} {A K : Sli} {atoms : List Dif} {cs : List (List Int)} (h : FR φ ω A K atoms cs) : A.n = atoms.length := h.atoms.1.symm
theorem FR.kn {φ ω : PH} {A K : Sli} {atoms : List Dif} {cs : List (List Int)} (h : FR φ ω A K atoms cs) : K.n = cs.length := by
 obtain ⟨vs,h1,h2,_⟩ := h.ok
 have := h1.len
 omega
theorem FR.lists {φ ω : PH} {A K : Sli} {atoms : List Dif} {cs : List (List Int)} (h : FR φ ω A K atoms cs) : Lists ω K.a K.n cs := by
 obtain ⟨vs,h1,h2,h3⟩ := h.ok
 refine ⟨by have := h1.len; omega,fun i c hc => ?_⟩
 obtain ⟨x,m,k,q1,q2,q3⟩ := h3 i c hc
 obtain ⟨p,hp,hcell⟩ := h1.get q1
 exact ⟨p,x,m,k,hp,hcell,q2.sub h.sub,q3⟩
theorem FR.keep {M : Nat → Prop} {φ ω τ : PH} {A K : Sli} {atoms : List Dif} {cs : List (List Int)} (h : FR φ ω A K atoms cs) (st : Step M ω τ) (hM : ∀ b,M b → φ b = none ∧ (∀ p,A.a = some p → b ≠ p.block) ∧ (∀ p,K.a = some p → b ≠ p.block)) : FR φ τ A K atoms cs := by
 refine ⟨sub_step_new h.sub st fun b hb => (hM b hb).1,h.oa.keep st fun p hp hm => (hM _ hm).2.1 p hp rfl,h.anew,?_,h.knew⟩
 obtain ⟨vs,h1,h2⟩ := h.ok
 exact ⟨vs,h1.keep st fun p hp hm => (hM _ hm).2.2 p hp rfl,h2⟩
structure FB (φ ω : PH) (f : Nat) (i1 i2 : Int) (A K : Sli) (atoms : List Dif) (cs : List (List Int)) : Prop extends FR φ ω A K atoms cs where
 blk : Blk ω f 29 [.int .i64 i1,.int .i64 i2,A.v,K.v]
 fnew : φ f = none
theorem FB.nA {φ ω : PH} {f : Nat} {i1 i2 : Int} {A K : Sli} {atoms : List Dif} {cs : List (List Int)} (h : FB φ ω f i1 i2 A K atoms cs) {e : Nat} {arr : Array Value} {fr : Nat × Nat} {b : Nat} (hb : ω b = some (.cells arr e fr)) (he : e ≠ 50) : ∀ p,A.a = some p → b ≠ p.block := by
 intro p hp
 obtain ⟨arr',h'⟩ := h.oa.obj hp
 exact ne_ty hb h' he
theorem FB.nK {φ ω : PH} {f : Nat} {i1 i2 : Int} {A K : Sli} {atoms : List Dif} {cs : List (List Int)} (h : FB φ ω f i1 i2 A K atoms cs) {e : Nat} {arr : Array Value} {fr : Nat × Nat} {b : Nat} (hb : ω b = some (.cells arr e fr)) (he : e ≠ 33) : ∀ p,K.a = some p → b ≠ p.block := by
 intro p hp
 obtain ⟨vs,h1,_⟩ := h.ok
 obtain ⟨arr',h'⟩ := h1.obj hp
 exact ne_ty hb h' he
theorem FB.keep {M : Nat → Prop} {φ ω τ : PH} {f : Nat} {i1 i2 : Int} {A K : Sli} {atoms : List Dif} {cs : List (List Int)} (h : FB φ ω f i1 i2 A K atoms cs) (st : Step M ω τ)
   (hM : ∀ b,M b → φ b = none ∧ b ≠ f ∧ (∀ p,A.a = some p → b ≠ p.block) ∧ (∀ p,K.a = some p → b ≠ p.block)) : FB φ τ f i1 i2 A K atoms cs :=
 ⟨h.toFR.keep st fun b hb => ⟨(hM b hb).1,(hM b hb).2.2⟩,h.blk.keep st fun hm => (hM _ hm).2.1 rfl,h.fnew⟩
theorem FB.step1 {φ ω τ : PH} {f : Nat} {i1 i2 : Int} {A K : Sli} {atoms : List Dif} {cs : List (List Int)} (h : FB φ ω f i1 i2 A K atoms cs) {t e : Nat} {vs : List Value} (hb : Blk ω t e vs) (he : e ≠ 29 ∧ e ≠ 50 ∧ e ≠ 33) (ht : φ t = none) (st : Step (· = t) ω τ) : FB φ τ f i1 i2 A K atoms cs :=
 h.keep st (by rintro b rfl; exact ⟨ht,ne_ty hb h.blk he.1,h.nA hb he.2.1,h.nK hb he.2.2⟩)
theorem FB.sub' {φ ω τ : PH} {f : Nat} {i1 i2 : Int} {A K : Sli} {atoms : List Dif} {cs : List (List Int)} (h : FB φ ω f i1 i2 A K atoms cs) (hs : ω.sub τ) : FB φ τ f i1 i2 A K atoms cs := h.keep (M := fun _ => False) hs.step fun _ h => h.elim
theorem FB.atom' {φ ω : PH} {f : Nat} {i1 i2 : Int} {A K : Sli} {atoms : List Dif} {cs : List (List Int)} (h : FB φ ω f i1 i2 A K atoms cs) (d : Dif) (hn : atoms.length ≤ 1000000) {b : Nat} (hb : ω b = none) {R : Option Addr → Nat → Nat → PH → Prop}
   (hR : ∀ A' τ,FB φ (PH.setCell τ ((ptr f).add 2) A'.v) f i1 i2 A' K (atoms ++ [d]) cs → Step (fun q => q = f ∨ ∃ p,A.a = some p ∧ q = p.block) ω (PH.setCell τ ((ptr f).add 2) A'.v) → R A'.a A'.n A'.c τ) :
   iappend prog 50 A.v (.slice (some ⟨b,0,none⟩) 1 1) (fun v τ => ∃ (a : Option Addr) (n c : Nat),v = .slice a n c ∧ (∃ u,PH.cell? τ ((ptr f).add 2) = some u) ∧ PH.froz τ ((ptr f).add 2) = some false ∧ R a n c τ) (PH.set ω b (.cells #[.int .i64 d.1,.int .i64 d.2.1,.int .i64 d.2.2] 50)) := by
 have han := h.an
 refine pushRow t50.1 t50.2.1 t50.2.2 rfl (by decide) h.oa hb (news := dcells d) rfl ?_ (by omega) ?_
 · intro v hv; simp [dcells] at hv; rcases hv with rfl | rfl | rfl <;> trivial
 · intro a' c' τ hO hst hnew
   have Bτ := h.blk.keep hst (by rintro ⟨p,hp,e⟩; exact h.nA h.blk (by decide) p hp e)
   have st2 : Step (· = f) τ (τ.setCell ((ptr f).add 2) (.slice a' (A.n + 1) c')) := setCell_step.weaken fun b hb => hb.trans (add_block _ _)
   refine ⟨_,_,_,rfl,⟨_,Bτ.get (i := 2) rfl⟩,Bτ.froz 2,hR ⟨a',A.n + 1,c'⟩ _ ⟨⟨?_,?_,?_,?_,h.knew⟩,Bτ.set 2 _,h.fnew⟩ ((hst.weaken fun q hq => .inr hq).trans (st2.weaken fun q hq => .inl hq))⟩
   · refine sub_step_new (sub_step_new h.sub hst ?_) st2 (by rintro b rfl; exact h.fnew)
     rintro b ⟨p,hp,rfl⟩; exact h.anew p hp
   · have e : difV (atoms ++ [d]) = difV atoms ++ dcells d := by unfold difV; simp
     rw [e]
     refine hO.keep st2 fun p hp hm => ?_
     obtain ⟨arr,ha⟩ := hO.obj hp
     exact ne_ty Bτ ha (by decide) hm.symm
   · intro p hp
     rcases hnew p hp with ⟨p',g1,g2⟩ | g1
     · rw [g2]; exact h.anew p' g1
     · exact new_of h.sub g1
   · obtain ⟨vs,h1,h2⟩ := h.ok
     refine ⟨vs,(h1.keep hst ?_).keep st2 fun p hp hm => h.nK h.blk (by decide) p hp hm.symm,h2⟩
     rintro p hp ⟨q,hq,e⟩
     obtain ⟨arr,ha⟩ := h1.obj hp
     exact h.nA ha (by decide) q hq e
theorem FB.clause' {φ ω : PH} {f : Nat} {i1 i2 : Int} {A K : Sli} {atoms : List Dif} {cs : List (List Int)} (h : FB φ ω f i1 i2 A K atoms cs) {x : Option Addr} {m k : Nat} {c : List Int} (hI : Ints φ x m c) (hmk : m ≤ k) (hn : cs.length ≤ 1000000) {b : Nat} (hb : ω b = none) {R : Option Addr → Nat → Nat → PH → Prop}
   (hR : ∀ K' τ,FB φ (PH.setCell τ ((ptr f).add 3) K'.v) f i1 i2 A K' atoms (cs ++ [c]) → Step (fun q => q = f ∨ ∃ p,K.a = some p ∧ q = p.block) ω (PH.setCell τ ((ptr f).add 3) K'.v) → R K'.a K'.n K'.c τ) :
   iappend prog 33 K.v (.slice (some ⟨b,0,none⟩) 1 1) (fun v τ => ∃ (a : Option Addr) (n c : Nat),v = .slice a n c ∧ (∃ u,PH.cell? τ ((ptr f).add 3) = some u) ∧ PH.froz τ ((ptr f).add 3) = some false ∧ R a n c τ) (PH.set ω b (.cells #[.slice x m k] 33)) := by
 have hkn := h.kn
 obtain ⟨vs,h1,h2,h3⟩ := h.ok
 refine pushRow t33.1 t33.2.1 t33.2.2 rfl (by decide) h1 hb (news := [.slice x m k]) rfl ?_ (by omega) ?_
 · intro v hv; simp at hv; subst hv; trivial
 · intro a' c' τ hO hst hnew
   have Bτ := h.blk.keep hst (by rintro ⟨p,hp,e⟩; exact h.nK h.blk (by decide) p hp e)
   have st2 : Step (· = f) τ (τ.setCell ((ptr f).add 3) (.slice a' (K.n + 1) c')) := setCell_step.weaken fun b hb => hb.trans (add_block _ _)
   refine ⟨_,_,_,rfl,⟨_,Bτ.get (i := 3) rfl⟩,Bτ.froz 3,hR ⟨a',K.n + 1,c'⟩ _ ⟨⟨?_,?_,h.anew,?_,?_⟩,Bτ.set 3 _,h.fnew⟩ ((hst.weaken fun q hq => .inr hq).trans (st2.weaken fun q hq => .inl hq))⟩
   · refine sub_step_new (sub_step_new h.sub hst ?_) st2 (by rintro b rfl; exact h.fnew)
     rintro b ⟨p,hp,rfl⟩; exact h.knew p hp
   · refine (h.oa.keep hst ?_).keep st2 fun p hp hm => h.nA h.blk (by decide) p hp hm.symm
     rintro p hp ⟨q,hq,e⟩
     obtain ⟨arr,ha⟩ := h.oa.obj hp
     exact h.nK ha (by decide) q hq e
   · refine ⟨vs ++ [.slice x m k],hO.keep st2 fun p hp hm => ?_,by simp [h2],fun i c0 hc0 => ?_⟩
     · obtain ⟨arr,ha⟩ := hO.obj hp
       exact ne_ty Bτ ha (by decide) hm.symm
     · by_cases hi : i < cs.length
       · rw [List.getElem?_append_left hi] at hc0
         obtain ⟨y,m',k',g1,g2,g3⟩ := h3 i c0 hc0
         exact ⟨y,m',k',by rw [List.getElem?_append_left (by omega)]; exact g1,g2,g3⟩
       · rw [List.getElem?_append_right (by omega)] at hc0
         have hi0 : i = cs.length := by have := (List.getElem?_eq_some_iff.1 hc0).1; simp at this; omega
         subst hi0
         simp at hc0
         subst hc0
         exact ⟨x,m,k,by rw [List.getElem?_append_right (by omega)]; simp [h2],hI,hmk⟩
   · intro p hp
     rcases hnew p hp with ⟨p',g1,g2⟩ | g1
     · rw [g2]; exact h.knew p' g1
     · exact new_of h.sub g1
theorem FB.clause {φ ω : PH} {f : Nat} {i1 i2 : Int} {A K : Sli} {atoms : List Dif} {cs : List (List Int)} (h : FB φ ω f i1 i2 A K atoms cs) {x : Option Addr} {m k : Nat} {c : List Int} (hI : Ints φ x m c) (hmk : m ≤ k) (hn : cs.length ≤ 1000000) {b : Nat} (hb : ω b = none) {R : PH → Prop}
   (hR : ∀ K' τ,FB φ τ f i1 i2 A K' atoms (cs ++ [c]) → Step (fun q => q = f ∨ ∃ p,K.a = some p ∧ q = p.block) ω τ → R τ) :
   iappend prog 33 K.v (.slice (some ⟨b,0,none⟩) 1 1) (fun v τ => ∃ (a : Option Addr) (n c : Nat),v = .slice a n c ∧ (∃ u,PH.cell? τ ((ptr f).add 3) = some u) ∧ PH.froz τ ((ptr f).add 3) = some false ∧ R (PH.setCell τ ((ptr f).add 3) (.slice a n c))) (PH.set ω b (.cells #[.slice x m k] 33)) :=
 h.clause' hI hmk hn hb (R := fun a n c τ => R (PH.setCell τ ((ptr f).add 3) (.slice a n c))) fun K' τ => hR K' _
theorem FB.setClause {φ ω : PH} {f : Nat} {i1 i2 : Int} {A K : Sli} {atoms : List Dif} {cs : List (List Int)} (h : FB φ ω f i1 i2 A K atoms cs) {x : Option Addr} {m k : Nat} {c : List Int} (hI : Ints φ x m c) (hmk : m ≤ k) {o : Nat} (ho : o < cs.length) :
   ∃ p,K.a = some p ∧ (∃ u,ω.cell? (p.add o) = some u) ∧ ω.froz (p.add o) = some false ∧ Step (· = p.block) ω (ω.setCell (p.add o) (.slice x m k)) ∧ φ p.block = none ∧ FB φ (ω.setCell (p.add o) (.slice x m k)) f i1 i2 A K atoms (cs.set o c) := by
 obtain ⟨vs,h1,h2,h3⟩ := h.ok
 obtain ⟨p,hp,hu,hf,hb,hO⟩ := h1.set (i := o) (by omega)
 have st : Step (· = p.block) ω (ω.setCell (p.add o) (.slice x m k)) := setCell_step.weaken fun b e => e.trans hb
 refine ⟨p,hp,hu,hf,st,h.knew p hp,⟨⟨sub_step_new h.sub st (by rintro b rfl; exact h.knew p hp),h.oa.keep st fun q hq e => ?_,h.anew,⟨_,hO _,by simp [h2],fun i c0 hc0 => ?_⟩,h.knew⟩,h.blk.keep st fun e => h.nK h.blk (by decide) p hp e,h.fnew⟩⟩
 · obtain ⟨arr,ha⟩ := h.oa.obj hq
   exact h.nK ha (by decide) p hp e
 · rw [List.getElem?_set] at hc0
   rw [List.getElem?_set]
   split at hc0
   · rename_i e
     subst e
     cases hc0
     exact ⟨x,m,k,by rw [if_pos rfl,if_pos (by omega)],hI,hmk⟩
   · rename_i e
     obtain ⟨y,m',k',g1,g2,g3⟩ := h3 i c0 hc0
     exact ⟨y,m',k',by rw [if_neg e]; exact g1,g2,g3⟩
open Classical in
theorem FB.freeze {φ ω : PH} {f : Nat} {i1 i2 : Int} {A K : Sli} {atoms : List Dif} {cs : List (List Int)} (h : FB φ ω f i1 i2 A K atoms cs) (E : Nat → Prop) (hE : ∀ b,E b → φ b = none) :
   ∃ φ' : PH,φ.sub φ' ∧ FB φ' ω f i1 i2 A K atoms cs ∧ (∀ b,E b → φ' b = none) ∧ ∀ b,b ≠ f → (∀ p,A.a = some p → b ≠ p.block) → (∀ p,K.a = some p → b ≠ p.block) → ¬ E b → φ' b = ω b := by
 obtain ⟨φ',hφ⟩ : ∃ φ' : PH,φ' = fun b => if b = f ∨ (∃ p,A.a = some p ∧ b = p.block) ∨ (∃ p,K.a = some p ∧ b = p.block) ∨ E b then none else ω b := ⟨_,rfl⟩
 have off : ∀ b,(b = f ∨ (∃ p,A.a = some p ∧ b = p.block) ∨ (∃ p,K.a = some p ∧ b = p.block) ∨ E b) → φ' b = none := fun b hb => by rw [hφ]; exact if_pos hb
 have on : ∀ b,¬ (b = f ∨ (∃ p,A.a = some p ∧ b = p.block) ∨ (∃ p,K.a = some p ∧ b = p.block) ∨ E b) → φ' b = ω b := fun b hb => by rw [hφ]; exact if_neg hb
 have s1 : φ.sub φ' := by
   intro b o ho
   rw [on b]
   · exact h.sub b o ho
   · rintro (rfl | ⟨p,hp,rfl⟩ | ⟨p,hp,rfl⟩ | he)
     · rw [h.fnew] at ho; cases ho
     · rw [h.anew p hp] at ho; cases ho
     · rw [h.knew p hp] at ho; cases ho
     · rw [hE b he] at ho; cases ho
 have s2 : φ'.sub ω := by
   intro b o ho
   by_cases hb : (b = f ∨ (∃ p,A.a = some p ∧ b = p.block) ∨ (∃ p,K.a = some p ∧ b = p.block) ∨ E b)
   · rw [off b hb] at ho; cases ho
   · rw [on b hb] at ho; exact ho
 refine ⟨φ',s1,⟨⟨s2,h.oa,fun p hp => off _ (.inr (.inl ⟨p,hp,rfl⟩)),?_,fun p hp => off _ (.inr (.inr (.inl ⟨p,hp,rfl⟩)))⟩,h.blk,off _ (.inl rfl)⟩,fun b hb => off _ (.inr (.inr (.inr hb))),fun b h1 h2 h3 h4 => on b ?_⟩
 · obtain ⟨vs,q1,q2,q3⟩ := h.ok
   refine ⟨vs,q1,q2,fun i c hc => ?_⟩
   obtain ⟨x,m,k,g1,g2,g3⟩ := q3 i c hc
   exact ⟨x,m,k,g1,g2.sub s1,g3⟩
 · rintro (rfl | ⟨p,hp,rfl⟩ | ⟨p,hp,rfl⟩ | he)
   · exact h1 rfl
   · exact h2 p hp rfl
   · exact h3 p hp rfl
   · exact h4 he
end Go.Proofs.Ythfnjogadngfiaa
