/- A part of the proof: see the last text, YthfnjogadngfiaaXi14. -/
import Derived.Test.YthfnjogadngfiaaProg
import Derived.Test.YthfnjogadngfiaaXi2
set_option maxRecDepth 100000
set_option linter.unusedVariables false
set_option linter.unusedSimpArgs false
namespace Go.Sl
theorem qcalls_ex {P:Program}:∀ {os:List Oper} {K:List Told→Prop},qcalls P os K→∃ l,K l
 | [],_,h => ⟨_,h⟩
 | o :: os,K,h => by
   unfold qcalls at h
   split at h
   · obtain ⟨v,bs,h⟩:=enumT_ex h
     obtain ⟨l,h⟩:=qcalls_ex h
     exact ⟨_,h⟩
   · exact qcalls_ex h
theorem withC_iff:∀ {l:List Prop} {K:Prop},withC l K→(∀ p ∈ l,p)∧K
 | [],_,h => ⟨fun _ h => (by cases h),h⟩
 | p :: ps,K,h => ⟨fun q hq => by
     cases hq with
     | head => exact h.1
     | tail _ hm => exact (withC_iff h.2).1 q hm,(withC_iff h.2).2⟩
theorem clashes_mem {bj:Nat} {x:Log}:∀ {done:List (Nat × Log)},(∀ p ∈ clashes bj x done,p)→∀ iy ∈ done,bj.testBit iy.1=false→NoClash x iy.2
 | [],_,_,h,_ => by cases h
 | (i,y) :: l,hall,iy,hm,hb => by
   unfold clashes at hall
   cases hm with
   | head =>
     split at hall
     · rename_i h; rw [h] at hb; cases hb
     · exact fun p hp => hall p (List.mem_append_left _ hp)
   | tail _ hm =>
     split at hall
     · exact clashes_mem hall iy hm hb
     · exact clashes_mem (fun p hp => hall p (List.mem_append_right _ hp)) iy hm hb
def dum:Told:=⟨undef,[]⟩
def zipT:Nat→List Oper→List Told→List (Nat × Oper × Told)
 | _,[],_ => []
 | j,o :: os,cv => (j,o,(match dkind o.op with | .call => cv.headD dum | _ => dum)) :: zipT (j + 1) os (skipTold o cv)
theorem erho_eq {e:Env} {a:Act} (he:ER e a) {o:Oper} (hk:eknown e o.op.operands.toList=true):∀ x ∈ o.op.operands,a.eval x=erho e x :=
 fun x hx => he.known hk x (Array.mem_toList_iff.2 hx)
theorem idstep_TR {P:Program} {call:CallR} {ops:Array Oper} {bef:List Nat} {j:Nat} {o:Oper} {done:List (Nat × Log)} {cv:List Told} {K:Option Log→List Told→Env→PH→Prop} {e:Env} {a:Act} {σ:PH}
   {r:List (Nat × Oper × Told)} {Q:List (Nat × Log)→Act→PH→Prop} {X:Nat→SK→Prop} (hX:∀ x k,skOf P ops o x a=some k→X j k) (hs:∀ cs b,o.op ≠ .select cs b) (he:ER e a) (hw:Region.wanted o (yielded ops a.tmps)=true) (h:idstep P call (lastAt ops.size bef j) (bef.getD j 0) o done cv K e σ)
   (hK:∀ lg v τ,K lg (skipTold o cv) (eputO e o.dst v) τ→TR P call ops bef X r (addLog j done lg) Q (a.put o.dst v) τ) :
   TR P call ops bef X ((j,o,(match dkind o.op with | .call => cv.headD dum | _ => dum)) :: r) done Q a σ:=by
 unfold idstep at h
 split at h
 · exact h.elim
 · rename_i hkn
   have hex:=exec_known he hkn hs
   have hlog:=opLog_congr (P:=P) (erho_eq he hkn)
   have hct:=callTo_congr (P:=P) (erho_eq he hkn)
   have hsk:=skOf P ops o (match dkind o.op with | .call => cv.headD dum | _ => dum) a
   split at h
   · rename_i hd
     refine ⟨.pure (execOp a.eval o),by unfold skOf; rw [hw,hd],⟨trivial,hX dum _ (by unfold skOf; rw [hw,hd])⟩,trivial,?_⟩
     show irun P (execOp a.eval o) _ _
     rw [hex]
     have hg:=iop_gen h
     refine irun_mono _ hg ?_
     intro n τ hn
     have hK':∀ v,K none cv (eputO e o.dst v) σ→TR P call ops bef X r (addLog j done (SK.pure (execOp (erho e) o)).log) Q (a.put o.dst v) σ:=fun v hv => hK none v σ (by unfold skipTold; rw [hd]; exact hv)
     cases n <;> try exact hn.elim
     · dsimp only at hn
       split at hn
       · obtain ⟨u,rfl,hu⟩:=enumT_ex hn; exact ⟨_,rfl,hK' _ hu⟩
       · exact ⟨_,rfl,hK' _ hn⟩
     · exact ⟨_,rfl,hK' _ hn⟩
   · rename_i hd
     obtain ⟨hcl,h⟩:=withC_iff h
     refine ⟨.heap (opLog P o.op a.eval) (execOp a.eval o),by unfold skOf; rw [hw,hd],⟨trivial,hX dum _ (by unfold skOf; rw [hw,hd])⟩,?_,?_⟩
     · rw [hlog]
       exact clashes_mem hcl
     · show irunF P _ _ (execOp a.eval o) _ σ
       rw [hex,hlog]
       refine irunF_mono (fun _ h => h) (fun _ h => h) _ (heap_F hd h) ?_
       rintro n τ ⟨v,hv,hkv⟩
       exact ⟨v,hv,hK _ v τ (by unfold skipTold; rw [hd]; exact hkv)⟩
   · rename_i hd
     split at h
     · exact h.elim
     · rename_i x cv'
       obtain ⟨hcl,hq,h⟩:=withC_iff h
       unfold idcall at hq
       split at hq
       · rename_i g args hga
         refine ⟨.call g args x,?_,⟨trivial,hX x _ (by unfold skOf; rw [hw,hd,hct,hga])⟩,clashes_mem hcl,?_⟩
         · unfold skOf
           rw [hw,hd,hct,hga]
           rfl
         · exact ⟨hq,hK _ x.v σ (by unfold skipTold; rw [hd]; exact h)⟩
       · exact hq.elim
   · rename_i hd
     split at h
     · rename_i hlast
       refine ⟨.gen (execOp a.eval o),by unfold skOf; rw [hw,hd],⟨hlast,hX dum _ (by unfold skOf; rw [hw,hd])⟩,trivial,?_⟩
       show irun P (execOp a.eval o) _ _
       rw [hex]
       refine irun_mono _ (iop_gen h) ?_
       intro n τ hn
       have hK':∀ v,K none cv (eputO e o.dst v) τ→TR P call ops bef X r (addLog j done (SK.gen (execOp (erho e) o)).log) Q (a.put o.dst v) τ:=fun v hv => hK none v τ (by unfold skipTold; rw [hd]; exact hv)
       cases n <;> try exact hn.elim
       · dsimp only at hn
         split at hn
         · obtain ⟨u,rfl,hu⟩:=enumT_ex hn; exact ⟨_,rfl,hK' _ hu⟩
         · exact ⟨_,rfl,hK' _ hn⟩
       · exact ⟨_,rfl,hK' _ hn⟩
     · exact h.elim
theorem idraw_TR {P:Program} {call:CallR} {ops:Array Oper} {bef:List Nat} (hs:∀ (j:Nat) (o:Oper) cs b,ops[j]?=some o→o.op ≠ .select cs b) {Q:Env→PH→Prop} :
   ∀ {os:List Oper} {j:Nat} {done:List (Nat × Log)} {cv:List Told} {e:Env} {a:Act} {σ:PH},(∀ i,os[i]?=ops[j + i]?)→ER e a→idraw P call ops bef j os done cv Q e σ →
     TR P call ops bef (fun _ _ => True) (zipT j os cv) done (fun _ a τ => ∃ e,ER e a∧Q e τ) a σ
 | [],_,_,_,e,a,_,_,he,h => ⟨e,he,h⟩
 | o :: os,j,done,cv,e,a,σ,hi,he,h => by
   have ho:ops[j]?=some o:=by have:=hi 0; simpa using this.symm
   have hi':∀ i,os[i]?=ops[j + 1 + i]?:=fun i => by have:=hi (i + 1); rw [List.getElem?_cons_succ] at this; rw [this]; congr 1; omega
   have hso:∀ cs b,o.op ≠ .select cs b:=fun cs b => hs j o cs b ho
   have run:∀ e':Env,ER e' a→Region.wanted o (yielded ops a.tmps)=true→idstep P call (lastAt ops.size bef j) (bef.getD j 0) o done cv (fun l cv e σ => idraw P call ops bef (j + 1) os (addLog j done l) cv Q e σ) e' σ →
       TR P call ops bef (fun _ _ => True) (zipT j (o :: os) cv) done (fun _ a τ => ∃ e,ER e a∧Q e τ) a σ:=fun e' he' hw h =>
     idstep_TR (fun _ _ _ => trivial) hso he' hw h fun lg v τ hv => idraw_TR hs hi' (he'.put _ _) hv
   have skip:∀ e':Env,ER e' a→Region.wanted o (yielded ops a.tmps)=false→idraw P call ops bef (j + 1) os done (skipTold o cv) Q (eputO e' o.dst undef) σ →
       TR P call ops bef (fun _ _ => True) (zipT j (o :: os) cv) done (fun _ a τ => ∃ e,ER e a∧Q e τ) a σ:=fun e' he' hw h =>
     ⟨.skip,by unfold skOf; rw [hw],⟨trivial,trivial⟩,trivial,idraw_TR hs hi' (he'.put _ _) h⟩
   unfold idraw at h
   split at h
   · rename_i hg
     exact run e he (by unfold Region.wanted; rw [hg]) h
   · rename_i g want hg
     split at h
     · exact h.elim
     · rename_i d hd
       split at h
       · rename_i b hb
         have hwant:=wanted_of he hg hd hb
         cases b
         · have he':=he.bool hb (b':=false) rfl
           simp only [br] at h
           cases want
           · exact run _ he' hwant h
           · exact skip _ he' hwant h
         · have he':=he.bool hb (b':=true) rfl
           simp only [br] at h
           cases want
           · exact skip _ he' hwant h
           · exact run _ he' hwant h
       · rename_i vs hb
         exact skip _ he (wanted_not he hg hd hb) h
       · exact h.elim
theorem zipT_at:∀ {os:List Oper} {j:Nat} {cv:List Told},∀ z ∈ zipT j os cv,j≤z.1∧os[z.1 - j]?=some z.2.1
 | [],_,_,_,h => by cases h
 | o :: os,j,cv,z,h => by
   unfold zipT at h
   cases h with
   | head => exact ⟨Nat.le_refl _,by simp⟩
   | tail _ hm =>
     obtain ⟨h1,h2⟩:=zipT_at z hm
     refine ⟨by omega,?_⟩
     rw [show z.1 - j=(z.1 - (j + 1)) + 1 from by omega,List.getElem?_cons_succ]; exact h2
theorem zipT_ord:∀ {os:List Oper} {j:Nat} {cv:List Told},(zipT j os cv).Pairwise fun x y => x.1 < y.1
 | [],_,_ => List.Pairwise.nil
 | o :: os,j,cv => by
   unfold zipT
   refine List.pairwise_cons.2 ⟨fun z hz => ?_,zipT_ord⟩
   have:=(zipT_at z hz).1
   show j < z.1
   omega
theorem zipT_mem:∀ {os:List Oper} {j:Nat} {cv:List Told} (i:Nat),i < os.length→∃ z ∈ zipT j os cv,z.1=j + i
 | [],_,_,_,h => by simp at h
 | o :: os,j,cv,0,h => ⟨_,List.mem_cons_self,rfl⟩
 | o :: os,j,cv,i + 1,h => by
   obtain ⟨z,hz,e⟩:=zipT_mem (os:=os) (j:=j + 1) (cv:=skipTold o cv) i (by simp at h; omega)
   exact ⟨z,List.mem_cons_of_mem _ hz,by omega⟩
theorem zipT_length:∀ {os:List Oper} {j:Nat} {cv:List Told},(zipT j os cv).length=os.length
 | [],_,_ => rfl
 | o :: os,j,cv => by simp [zipT,zipT_length]
def befStep (acc:List Nat) (o:Oper):Nat:=o.after.toList.foldl (fun s e => match Region.binds .any e with | true => s ||| 2 ^ e.on ||| acc.getD e.on 0 | false => s) 0
theorem befs_cons (o:Oper) (os:List Oper) (acc:List Nat):befs (o :: os) acc=befs os (acc ++ [befStep acc o]):=rfl
theorem befs_prefix:∀ (os:List Oper) (acc:List Nat),∃ l,befs os acc=acc ++ l
 | [],acc => ⟨[],by simp [befs]⟩
 | o :: os,acc => by
   obtain ⟨l,hl⟩:=befs_prefix os (acc ++ [befStep acc o])
   exact ⟨befStep acc o :: l,by rw [befs_cons,hl]; simp⟩
theorem befs_at:∀ (os:List Oper) (acc:List Nat) (j:Nat) (o:Oper),os[j]?=some o→∃ acc' l,befs os acc=acc' ++ befStep acc' o :: l∧acc'.length=acc.length + j
 | [],_,_,_,h => by simp at h
 | x :: os,acc,0,o,h => by
   simp at h; subst h
   obtain ⟨l,hl⟩:=befs_prefix os (acc ++ [befStep acc x])
   exact ⟨acc,l,by rw [befs_cons,hl]; simp,by simp⟩
 | x :: os,acc,j + 1,o,h => by
   rw [List.getElem?_cons_succ] at h
   obtain ⟨acc',l,h1,h2⟩:=befs_at os (acc ++ [befStep acc x]) j o h
   exact ⟨acc',l,by rw [befs_cons]; exact h1,by rw [h2]; simp; omega⟩
theorem foldl_bit {acc:List Nat} {i:Nat}:∀ (l:List Edge) (s:Nat),(l.foldl (fun s e => match Region.binds .any e with | true => s ||| 2 ^ e.on ||| acc.getD e.on 0 | false => s) s).testBit i=true →
   s.testBit i=true ∨ ∃ e ∈ l,Region.binds .any e=true∧(i=e.on ∨ (acc.getD e.on 0).testBit i=true)
 | [],s,h => .inl h
 | e :: l,s,h => by
   rw [List.foldl_cons] at h
   rcases foldl_bit l _ h with h | ⟨e',he,hx⟩
   · split at h
     · rename_i hb
       rw [Nat.testBit_or,Nat.testBit_or,Nat.testBit_two_pow] at h
       simp only [Bool.or_eq_true,decide_eq_true_eq] at h
       rcases h with (h | h) | h
       · exact .inl h
       · exact .inr ⟨e,List.mem_cons_self,hb,.inl h.symm⟩
       · exact .inr ⟨e,List.mem_cons_self,hb,.inr h⟩
     · exact .inl h
   · exact .inr ⟨e',List.mem_cons_of_mem _ he,hx⟩
theorem foldl_keep {acc:List Nat} {i:Nat}:∀ (l:List Edge) (s:Nat),s.testBit i=true→(l.foldl (fun s e => match Region.binds .any e with | true => s ||| 2 ^ e.on ||| acc.getD e.on 0 | false => s) s).testBit i=true
 | [],_,h => h
 | e :: l,s,h => by
   rw [List.foldl_cons]
   refine foldl_keep l _ ?_
   split
   · rw [Nat.testBit_or,Nat.testBit_or,h]; rfl
   · exact h
theorem foldl_has {acc:List Nat}:∀ (l:List Edge) (s:Nat) (e:Edge),e ∈ l→Region.binds .any e=true→(l.foldl (fun s e => match Region.binds .any e with | true => s ||| 2 ^ e.on ||| acc.getD e.on 0 | false => s) s).testBit e.on=true
 | [],_,_,h,_ => by cases h
 | e' :: l,s,e,h,hb => by
   rw [List.foldl_cons]
   cases h with
   | head =>
     refine foldl_keep l _ ?_
     rw [hb]
     simp [Nat.testBit_or,Nat.testBit_two_pow]
   | tail _ hm => exact foldl_has l _ e hm hb
theorem DOk.lt {ops:Array Oper} {bef:List Nat} (h:DOk ops bef):∀ (n j:Nat) (o:Oper) (i:Nat),j≤n→ops[j]?=some o→(bef.getD j 0).testBit i=true→i < j:=by
 intro n
 induction n with
 | zero =>
   intro j o i hj ho hb
   obtain ⟨e,he,hbi,_⟩:=h.bef j o i ho hb
   have:=h.back j o ho e he hbi
   omega
 | succ n ih =>
   intro j o i hj ho hb
   obtain ⟨e,he,hbi,hor⟩:=h.bef j o i ho hb
   have hlt:=h.back j o ho e he hbi
   rcases hor with rfl | hor
   · exact hlt
   · have hjs:j < ops.size:=by
       rcases Nat.lt_or_ge j ops.size with h' | h'
       · exact h'
       · rw [Array.getElem?_eq_none h'] at ho; cases ho
     have:=ih e.on ops[e.on] i (by omega) (Array.getElem?_eq_getElem (by omega)) hor
     omega
theorem dok_of {ops:Array Oper} (h:drawOk ops (befs ops.toList [])=true):DOk ops (befs ops.toList []):=by
 unfold drawOk at h
 rw [Bool.and_eq_true] at h
 obtain ⟨h1,h2⟩:=h
 rw [List.all_eq_true] at h2
 have hmem:∀ (j:Nat) (o:Oper),ops[j]?=some o→(o,j) ∈ ops.toList.zipIdx:=by
   intro j o ho
   rw [List.mem_zipIdx_iff_getElem?]
   simpa using ho
 have back:∀ (j:Nat) (o:Oper),ops[j]?=some o→∀ e ∈ o.after,Region.binds .any e=true→e.on < j:=by
   intro j o ho e he hb
   have:=h2 _ (hmem j o ho)
   simp only [Bool.and_eq_true,List.all_eq_true] at this
   have:=this.1 e (Array.mem_toList_iff.2 he)
   simpa [hb] using this
 refine ⟨fun j o cs b ho => Region.noSelect_spec h1 j o cs b ho,back,?_,?_,?_⟩
 · intro i j p o hij hi hj
   have:=h2 _ (hmem j o hj)
   simp only [Bool.and_eq_true,List.all_eq_true] at this
   have:=this.2 _ (hmem i p hi)
   simp only [Bool.or_eq_true,decide_eq_true_eq] at this
   rcases this with (h | h) | h
   · omega
   · exact .inl h
   · exact .inr h
 · intro j o e ho he hbi
   obtain ⟨acc',l,e1,e2⟩:=befs_at ops.toList [] j o (by simpa using ho)
   have e3:(befs ops.toList []).getD j 0=befStep acc' o:=by
     rw [e1,List.getD_eq_getElem?_getD,List.getElem?_append_right (by simp at e2; omega)]
     simp at e2
     simp [e2]
   rw [e3]
   exact foldl_has _ _ e (Array.mem_toList_iff.2 he) hbi
 · intro j o i ho hb
   obtain ⟨acc',l,e1,e2⟩:=befs_at ops.toList [] j o (by simpa using ho)
   have e3:(befs ops.toList []).getD j 0=befStep acc' o:=by
     rw [e1,List.getD_eq_getElem?_getD,List.getElem?_append_right (by simp at e2; omega)]
     simp at e2
     simp [e2]
   rw [e3] at hb
   rcases foldl_bit _ _ hb with h | ⟨e,he,hbi,hx⟩
   · simp at h
   · refine ⟨e,Array.mem_toList_iff.1 he,hbi,hx.imp id fun hx => ?_⟩
     have hlt:=back j o ho e (Array.mem_toList_iff.1 he) hbi
     rw [e1,List.getD_eq_getElem?_getD,List.getElem?_append_left (by simp at e2; omega),← List.getD_eq_getElem?_getD]
     exact hx
theorem draw_sound1 {P:Program} (hm:P.follows .mixedOrders=true) (call:CallR) (hc:HC P call) {id:Nat} {ops:Array Oper} {Q:IX→Env→PH→Prop} {e:Env} {σ:PH} {a:Act} {w:World}
   (h:idrawn P call ops (fun e τ => Q .normal e τ) e σ) (he:ER e a) (hw:PH.le σ w):(Code.region id ops true).wp P (W Q σ w) a w:=by
 unfold idrawn at h
 split at h
 · rename_i hok
   have hok:=dok_of hok
   obtain ⟨cv,h⟩:=qcalls_ex h
   have hT:=idraw_TR hok.sel (fun i => by simp) he h
   refine wp_region_any hm ?_
   have hw':PH.le σ { w with drawn:=w.drawn + 1 }:=hw
   refine TR_sound hc hok (σ0:=σ) (w0:=w) (Q:=fun a τ => ∃ e,ER e a∧Q .normal e τ) ?_ ops.size (zipT 0 ops.toList cv) _ [] a σ _ hT hw' ⟨rfl,rfl,rfl,Nat.le_refl _,fun _ _ _ => rfl,fun _ _ h => h⟩ (by rw [zipT_length]; simp) ?_
   · rintro a τ w' ⟨e,he,hq⟩ hl hf
     exact ⟨.normal,e,τ,rfl,hq,he,hl,hf⟩
   · refine ⟨zipT_ord.imp_of_mem fun {x y} hx hy hlt => ⟨?_,by omega⟩,?_,?_,by simp,?_⟩
     · obtain ⟨_,h2⟩:=zipT_at x hx
       cases hb:((befs ops.toList []).getD x.1 0).testBit y.1 with
       | false => rfl
       | true => have:=hok.lt x.1 x.1 x.2.1 y.1 (Nat.le_refl _) (by simpa using h2) hb; omega
     · intro j
       constructor
       · rintro ⟨z,hz,rfl⟩
         obtain ⟨_,h2⟩:=zipT_at z hz
         have:z.1 < ops.size:=by
           rcases Nat.lt_or_ge z.1 ops.size with h' | h'
           · exact h'
           · rw [List.getElem?_eq_none (by simp; omega)] at h2; cases h2
         simp [this]
       · intro hu
         have hlt:=(getD_tf hu).1
         obtain ⟨z,hz,e⟩:=zipT_mem (os:=ops.toList) (j:=0) (cv:=cv) j (by simpa using hlt)
         exact ⟨z,hz,by omega⟩
     · intro z hz
       obtain ⟨_,h2⟩:=zipT_at z hz
       simpa using h2
     · intro j hj
       exfalso
       rw [Array.getD_eq_getD_getElem?,Array.getElem?_replicate] at hj
       split at hj <;> cases hj
 · exact h.elim
def Det {α:Type} (P:Program):Sem α→Prop
 | .pure _ | .halt _ => True
 | .program k => Det P (k P)
 | .mark _ k => Det P k
 | .load _ _ k => ∀ v,Det P (k v)
 | .shape _ k => ∀ s,Det P (k s)
 | .frozen _ k => ∀ s,Det P (k s)
 | .getObj _ k => ∀ s,Det P (k s)
 | .freeze .. | .sys .. => True
 | _ => False
theorem Det.bind {α β:Type} {P:Program} {s:Sem α} {f:α→Sem β} (h:Det P s) (hf:∀ a,Det P (f a)):Det P (s >>= f):=by
 show Det P (s.bind f)
 induction s with
 | pure a => exact hf a
 | load m a k ih => exact fun v => ih v (h v)
 | program k ih => exact ih P h
 | mark m k ih => exact ih h
 | halt h => trivial
 | shape r k ih => exact fun v => ih v (h v)
 | freeze a n k ih => trivial
 | frozen r k ih => exact fun v => ih v (h v)
 | getObj r k ih => exact fun v => ih v (h v)
 | sys c k ih => trivial
 | _ => exact h.elim
theorem Det.irun {α:Type} {P:Program}:∀ {s:Sem α} {Q:α→PH→Prop} {σ:PH},Det P s→Sl.irun P s Q σ→∃ n,Q n σ∧∀ Q':α→PH→Prop,Q' n σ→Sl.irun P s Q' σ:=by
 intro s
 induction s with
 | pure a => intro Q σ _ h; exact ⟨a,h,fun Q' h => h⟩
 | load m a k ih =>
   rintro Q σ hd ⟨v,hc,h⟩
   obtain ⟨n,h1,h2⟩:=ih v (hd v) h
   exact ⟨n,h1,fun Q' hq => ⟨v,hc,h2 Q' hq⟩⟩
 | program k ih => intro Q σ hd h; exact ih P hd h
 | mark m k ih => intro Q σ hd h; exact ih hd h
 | halt x => intro Q σ _ h; exact h.elim
 | shape r k ih =>
   rintro Q σ hd ⟨v,hc,h⟩
   obtain ⟨n,h1,h2⟩:=ih v (hd v) h
   exact ⟨n,h1,fun Q' hq => ⟨v,hc,h2 Q' hq⟩⟩
 | freeze a n k ih => intro Q σ _ h; exact h.elim
 | frozen r k ih =>
   rintro Q σ hd ⟨v,hc,h⟩
   obtain ⟨n,h1,h2⟩:=ih v (hd v) h
   exact ⟨n,h1,fun Q' hq => ⟨v,hc,h2 Q' hq⟩⟩
 | getObj r k ih =>
   rintro Q σ hd ⟨v,hc,h⟩
   obtain ⟨n,h1,h2⟩:=ih v (hd v) h
   exact ⟨n,h1,fun Q' hq => ⟨v,hc,h2 Q' hq⟩⟩
 | sys c k ih => intro Q σ _ h; exact h.elim
 | _ => intro Q σ hd; exact hd.elim
theorem Det.irunF {α:Type} {P:Program} {R W:Addr→Prop}:∀ {s:Sem α} {Q:α→PH→Prop} {σ:PH},Det P s→Sl.irunF P R W s Q σ →
   ∃ n,Q n σ∧∀ (υ:PH) (Q':α→PH→Prop),(∀ a v,R a→σ.cell? a=some v→υ.cell? a=some v)→Q' n υ→Sl.irunF P R W s Q' υ:=by
 intro s
 induction s with
 | pure a => intro Q σ _ h; exact ⟨a,h,fun _ Q' _ h => h⟩
 | load m a k ih =>
   rintro Q σ hd ⟨h0,v,hc,h⟩
   obtain ⟨n,h1,h2⟩:=ih v (hd v) h
   exact ⟨n,h1,fun υ Q' hr hq => ⟨h0,v,hr _ _ h0 hc,h2 υ Q' hr hq⟩⟩
 | program k ih => intro Q σ hd h; exact ih P hd h
 | mark m k ih => intro Q σ hd h; exact ih hd h
 | halt x => intro Q σ _ h; exact h.elim
 | shape r k ih => intro Q σ _ h; exact h.elim
 | freeze a n k ih => intro Q σ _ h; exact h.elim
 | frozen r k ih => intro Q σ _ h; exact h.elim
 | getObj r k ih => intro Q σ _ h; exact h.elim
 | sys c k ih => intro Q σ _ h; exact h.elim
 | _ => intro Q σ hd; exact hd.elim
theorem Det.ofLooks {α:Type} {P:Program}:∀ {s:Sem α},Looks P s→Det P s:=by
 intro s
 induction s with
 | pure a => intro _; trivial
 | load m a k ih => intro h v; exact ih v (h v)
 | program k ih => intro h; exact ih P h
 | halt x => intro _; trivial
 | _ => intro h; exact h.elim
theorem det_typeInfo {P:Program} (t:TypeId):Det P (typeInfo t):=.ofLooks (looks_typeInfo t)
theorem det_underlying {P:Program} (t:TypeId):Det P (underlying t):=by
 show Det P (match P.underlying t with | some d => pure d | none => stuck "no such type" : Sem TypeDesc)
 split <;> trivial
theorem det_sure {P:Program} (p:Option Addr):Det P (Instr.sureAddr (.pointer p)):=by
 cases p <;> trivial
theorem det_shape {P:Program} (b:Nat):Det P (shape b):=fun _ => trivial
theorem det_getObj {P:Program} (b:Nat):Det P (getObj b):=fun _ => trivial
theorem det_viewAt {P:Program} (b:Nat):Det P (viewAt b):=by
 unfold viewAt
 refine Det.bind (det_shape b) fun s => ?_
 split
 · trivial
 · refine Det.bind (det_getObj b) fun o => ?_
   split <;> trivial
theorem det_noView {P:Program} (a:Addr):Det P (noView a):=by
 unfold noView
 refine Det.bind (det_viewAt _) fun s => ?_
 split <;> trivial
theorem det_byteOf {P:Program} (a:Addr):Det P (byteOf a):=by
 unfold byteOf
 split
 · trivial
 · refine Det.bind (show Det P program from trivial) fun p => Det.bind (det_noView a) fun _ => Det.bind (det_shape _) fun s => ?_
   split
   · dsimp only
     split
     · trivial
     · split <;> trivial
   · trivial
theorem det_partAt {P:Program} (a:Addr) (c b:Nat):Det P (partAt a c b):=Det.bind (det_byteOf a) fun _ => Det.bind (det_byteOf _) fun _ => by trivial
theorem det_at {P:Program} {o:Oper} {ρ:Operand→Value} (h:detAt o.op ρ=true):Det P (execOp ρ o):=by
 obtain ⟨dst,op,type,pos,after,guard⟩:=o
 cases op <;> (try (cases h; done))
 case move x => trivial
 case assign x => trivial
 case nilCheck x =>
   simp only [detAt] at h
   split at h
   · rename_i p hp
     simp only [execOp,hp]
     cases p <;> trivial
   · cases h
 case binOp bop t x y e =>
   simp only [detAt] at h
   split at h
   · rename_i k a k' b h1 h2
     simp only [execOp,h1,h2]
     refine Det.bind (Det.bind (by trivial) fun _ => ?_) fun _ => by trivial
     show Det P (if k ≠ k' then stuck _ else _:Sem Value)
     split <;> trivial
   · rename_i k a k' b h1 h2
     simp only [execOp,h1,h2]
     refine Det.bind (Det.bind (by trivial) fun _ => ?_) fun _ => by trivial
     show Det P (if k ≠ k' then stuck _ else _:Sem Value)
     split <;> trivial
   · cases h
 case load t a =>
   simp only [detAt] at h
   split at h
   · rename_i p hp
     simp only [execOp,hp]
     exact Det.bind (Det.bind (det_sure p) fun _ => .ofLooks (looks_loadVar t _)) fun _ => by trivial
   · cases h
 case fieldAddr t x f =>
   simp only [detAt] at h
   split at h
   · rename_i p hp
     simp only [execOp,hp]
     refine Det.bind (Det.bind (det_underlying t) fun d => ?_) fun _ => by trivial
     split
     · split
       · refine Det.bind (det_sure p) fun a => Det.bind ?_ fun _ => by trivial
         refine Det.bind (Det.bind (det_typeInfo _) fun _ => by trivial) fun n => ?_
         split
         · exact det_partAt _ _ _
         · trivial
       · trivial
     · trivial
   · cases h
def SK.det (P:Program):SK→Prop
 | .skip => True
 | .pure s => Det P s
 | .heap _ s => Det P s
 | _ => False
theorem stepF_det {P:Program} {call:CallR} {k:SK} (hk:k.det P) {K:Value→PH→Prop} {σ:PH} (h:stepF P call k K σ) :
   ∃ v,K v σ∧∀ (υ:PH) (K':Value→PH→Prop),(∀ lg,k.log=some lg→∀ a v,lg.R a→σ.cell? a=some v→υ.cell? a=some v)→K' v υ→stepF P call k K' υ:=by
 cases k with
 | skip => exact ⟨_,h,fun _ _ _ h => h⟩
 | pure s =>
   obtain ⟨n,⟨v,hv,hk'⟩,hb⟩:=Det.irun hk h
   exact ⟨v,hk',fun υ K' _ hq => hb _ ⟨v,hv,hq⟩⟩
 | heap lg s =>
   obtain ⟨n,⟨v,hv,hk'⟩,hb⟩:=Det.irunF hk h
   exact ⟨v,hk',fun υ K' hr hq => hb υ _ (hr lg rfl) ⟨v,hv,hq⟩⟩
 | call g args x => exact hk.elim
 | gen s => exact hk.elim
def Ecall (P:Program) (call:CallR) (ops:Array Oper) (bef:List Nat) (c:Nat) (oc:Oper) (post:List (Nat × Oper × Told)) (Q:Act→PH→Prop) (done:List (Nat × Log)) (a:Act) (σ:PH):Prop :=
 ∃ g args,callTo P oc.op a.eval=some (g,args)∧call g args (fun v τ => ∃ υ:PH,υ.sub τ∧(∀ p ∈ stabs (bef.getD c 0) σ υ done,p) ∧
   TR P call ops bef (fun _ _ => True) post done (fun _ => Q) (a.put oc.dst v) υ) σ
theorem stabs_at {bc:Nat} {σ υ:PH}:∀ {done:List (Nat × Log)},(∀ p ∈ stabs bc σ υ done,p) ↔ ∀ z ∈ done,bc.testBit z.1=false→∀ r ∈ z.2.reads,r.stab σ υ
 | [] => by simp [stabs]
 | (i,y) :: l => by
   have ih:=stabs_at (bc:=bc) (σ:=σ) (υ:=υ) (done:=l)
   unfold stabs
   constructor
   · intro h z hz hb r hr
     cases hz with
     | head =>
       simp only at hb hr
       rw [hb] at h
       exact h _ (List.mem_append_left _ (List.mem_map.2 ⟨r,hr,rfl⟩))
     | tail _ hm =>
       refine ih.1 (fun p hp => h p ?_) z hm hb r hr
       split
       · exact hp
       · exact List.mem_append_right _ hp
   · intro h p hp
     split at hp
     · exact ih.2 (fun z hz => h z (List.mem_cons_of_mem _ hz)) p hp
     · rename_i hb
       rcases List.mem_append.1 hp with hp | hp
       · obtain ⟨r,hr,rfl⟩:=List.mem_map.1 hp
         exact h _ List.mem_cons_self hb r hr
       · exact ih.2 (fun z hz => h z (List.mem_cons_of_mem _ hz)) p hp
theorem stab_cell {σ υ:PH} {lg:Log} (h:∀ r ∈ lg.reads,r.stab σ υ) {a:Addr} {v:Value} (ha:lg.R a) (hc:σ.cell? a=some v):υ.cell? a=some v:=by
 obtain ⟨r,hr,hh⟩:=ha
 have hs:=h r hr
 cases r with
 | cell b o =>
   obtain ⟨rfl,rfl⟩:=hh
   obtain ⟨ab,ao,sp⟩:=a
   cases sp with
   | none => exact hs.trans hc
   | some s =>
     unfold PH.cell? at hc
     simp only [Option.isSome_some,if_true] at hc
     split at hc <;> cases hc
 | blk p => exact hs.elim
 | many bs => exact hs.elim
theorem Ecall_mono {P:Program} {call:CallR} (hm:CMono call call) {ops:Array Oper} {bef:List Nat} {c:Nat} {oc:Oper} {post:List (Nat × Oper × Told)} {Q:Act→PH→Prop} :
   DMono (Ecall P call ops bef c oc post Q):=by
 rintro done done' a σ hs ⟨g,args,h1,h2⟩
 refine ⟨g,args,h1,hm _ _ _ _ _ ?_ h2⟩
 rintro v τ ⟨υ,h3,h4,h5⟩
 exact ⟨υ,h3,stabs_at.2 fun z hz => stabs_at.1 h4 z (hs z hz),TR_done (fun _ _ _ _ _ h => h) hs h5⟩
def XE (P:Program) (bef:List Nat) (c j:Nat) (k:SK):Prop:=(bef.getD c 0).testBit j=true ∨ k.det P
theorem TRE_call {P:Program} {call:CallR} (hm:CMono call call) {ops:Array Oper} {bef:List Nat} {c:Nat} {oc:Oper} (hso:∀ cs b,oc.op ≠ .select cs b) {post:List (Nat × Oper × Told)} {Q:Act→PH→Prop} :
   ∀ {pre:List (Nat × Oper × Told)} {done:List (Nat × Log)} {a:Act} {σ:PH},(∀ z ∈ pre,(bef.getD c 0).testBit z.1=false∧ApartP ops z.2.1 oc∧(∀ cs b,z.2.1.op ≠ .select cs b)) →
   TR P call ops bef (XE P bef c) pre done (Ecall P call ops bef c oc post Q) a σ →
   ∃ g args,callTo P oc.op a.eval=some (g,args)∧call g args (fun v τ => ∃ υ:PH,υ.sub τ∧(∀ p ∈ stabs (bef.getD c 0) σ υ done,p) ∧
     TR P call ops bef (fun _ _ => True) (pre ++ post) done (fun _ => Q) (a.put oc.dst v) υ) σ
 | [],_,_,_,_,h => h
 | (j,o,x) :: pre,done,a,σ,hp,⟨k,hk,⟨hg,hX⟩,hc,hs⟩ => by
   obtain ⟨q1,q2,q3⟩:=hp _ List.mem_cons_self
   simp only at q1 q2 q3
   have hdet:k.det P:=hX.resolve_left (by rw [q1]; simp)
   obtain ⟨v,hv,hback⟩:=stepF_det hdet hs
   obtain ⟨g,args,hct,hcall⟩:=TRE_call hm hso (fun z hz => hp z (List.mem_cons_of_mem _ hz)) hv
   refine ⟨g,args,?_,hm _ _ _ _ _ ?_ hcall⟩
   · rw [← hct]
     exact (callTo_congr (eval_put_operand q2.1)).symm
   · rintro u τ ⟨υ,h3,h4,h5⟩
     have h4':=stabs_at.1 h4
     have hsub:∀ z,z ∈ done→z ∈ addLog j done k.log:=by
       intro z hz
       cases k.log with
       | none => exact hz
       | some l => exact List.mem_cons_of_mem _ hz
     refine ⟨υ,h3,stabs_at.2 fun z hz => h4' z (hsub z hz),k,?_,⟨hg,trivial⟩,hc,hback υ _ ?_ ?_⟩
     · rw [skOf_put q3 q2.2.2]; exact hk
     · intro lg hlg a' v' hR hcell
       refine stab_cell (h4' (j,lg) ?_ q1) hR hcell
       rw [hlg]
       exact List.mem_cons_self
     · rw [← Act.put_comm a v u q2.2.1]
       exact h5
theorem Left.empty {ops:Array Oper} {bef:List Nat} (hok:DOk ops bef) {rem:List (Nat × Oper × Told)} {listed:Array Bool} (hl:Left ops bef rem listed) (hr:Region.ready .any ops listed=[]):rem=[]:=by
 cases rem with
 | nil => rfl
 | cons z rest =>
   exfalso
   have hm:z.1 ∈ Region.ready .any ops listed:=by
     rw [mem_ready]
     refine ⟨(hl.mem z.1).1 ⟨z,List.mem_cons_self,rfl⟩,z.2.1,hl.at' z List.mem_cons_self,fun e he hb => ?_⟩
     have hlt:=hok.back z.1 z.2.1 (hl.at' z List.mem_cons_self) e he hb
     have hsz:e.on < listed.size:=by
       have:=(getD_tf ((hl.mem z.1).1 ⟨z,List.mem_cons_self,rfl⟩)).1
       omega
     refine getD_ft hsz fun hu => ?_
     obtain ⟨z',hz',he'⟩:=(hl.mem e.on).2 hu
     cases hz' with
     | head => omega
     | tail _ hm =>
       have:=(List.pairwise_cons.1 hl.ord).1 z' hm
       have h2:=hok.bef' z.1 z.2.1 e (hl.at' z List.mem_cons_self) he hb
       rw [he'] at this
       rw [this.1] at h2; cases h2
   rw [hr] at hm; cases hm
theorem Left.remove {ops:Array Oper} {bef:List Nat} {pre post:List (Nat × Oper × Told)} {j:Nat} {o:Oper} {x:Told} {listed:Array Bool} (hl:Left ops bef (pre ++ (j,o,x) :: post) listed) (hun:listed.getD j true=false)
   (hbefore:∀ i',(bef.getD j 0).testBit i'=true→listed.getD i' false=true):Left ops bef (pre ++ post) (listed.setIfInBounds j true):=by
 have hord:=hl.ord
 rw [List.pairwise_append] at hord
 have hjlt:=(getD_tf hun).1
 have hne:∀ z ∈ pre ++ post,z.1 ≠ j:=by
   intro z hz' e
   rcases List.mem_append.1 hz' with hz' | hz'
   · have:=hord.2.2 z hz' _ List.mem_cons_self; simp only at this; omega
   · have:=(List.pairwise_cons.1 hord.2.1).1 z hz'; simp only at this; omega
 refine ⟨?_,?_,?_,by simp [hl.size],?_⟩
 · rw [List.pairwise_append]
   exact ⟨hord.1,(List.pairwise_cons.1 hord.2.1).2,fun z hz' z' hz'' => hord.2.2 z hz' z' (List.mem_cons_of_mem _ hz'')⟩
 · intro i'
   by_cases e:j=i'
   · subst e
     constructor
     · rintro ⟨z,hz',e⟩; exact absurd e (hne z hz')
     · intro hu
       have:(listed.setIfInBounds j true).getD j true=true:=by simp [hjlt]
       rw [this] at hu; cases hu
   · rw [getD_set_ne true e,← hl.mem i']
     constructor
     · rintro ⟨z,hz',e'⟩
       refine ⟨z,?_,e'⟩
       rcases List.mem_append.1 hz' with h' | h'
       · exact List.mem_append_left _ h'
       · exact List.mem_append_right _ (List.mem_cons_of_mem _ h')
     · rintro ⟨z,hz',e'⟩
       refine ⟨z,?_,e'⟩
       rcases List.mem_append.1 hz' with h' | h'
       · exact List.mem_append_left _ h'
       · cases h' with
         | head => exact absurd e' e
         | tail _ hm => exact List.mem_append_right _ hm
 · intro z hz'
   refine hl.at' z ?_
   rcases List.mem_append.1 hz' with h' | h'
   · exact List.mem_append_left _ h'
   · exact List.mem_append_right _ (List.mem_cons_of_mem _ h')
 · intro q hq i' hb
   by_cases e:j=q
   · subst e; exact getD_set_true (hbefore i' hb)
   · rw [getD_set_ne false e] at hq
     exact getD_set_true (hl.closed q hq i' hb)
theorem Left.ahead {ops:Array Oper} {bef:List Nat} (hok:DOk ops bef) {pre post:List (Nat × Oper × Told)} {j:Nat} {o:Oper} {x:Told} {listed:Array Bool} (hl:Left ops bef (pre ++ (j,o,x) :: post) listed)
   (hbefore:∀ i',(bef.getD j 0).testBit i'=true→listed.getD i' false=true) {z:Nat × Oper × Told} (hz:z ∈ pre) :
   (∀ cs b,z.2.1.op ≠ .select cs b)∧ApartP ops z.2.1 o∧(bef.getD j 0).testBit z.1=false∧(bef.getD z.1 0).testBit j=false∧z.1 ≠ j∧z.1 < ops.size:=by
 have hord:=hl.ord
 rw [List.pairwise_append] at hord
 have hzr:z ∈ pre ++ (j,o,x) :: post:=List.mem_append_left _ hz
 have hat:=hl.at' z hzr
 have ho:=hl.at' (j,o,x) (List.mem_append_right _ List.mem_cons_self)
 have hR:=hord.2.2 z hz _ List.mem_cons_self
 simp only at hR ho
 have hzu:=(hl.mem z.1).1 ⟨z,hzr,rfl⟩
 have hnb:(bef.getD j 0).testBit z.1=false:=by
   cases hb:(bef.getD j 0).testBit z.1 with
   | false => rfl
   | true => have:=hbefore _ hb; rw [(getD_tf hzu).2] at this; cases this
 exact ⟨fun cs b => hok.sel z.1 z.2.1 cs b hat,hok.apart' hR.2 hat ho hnb hR.1,hnb,hR.1,hR.2,hl.size ▸ (getD_tf hzu).1⟩
theorem TRE_sound {P:Program} {call:CallR} (hc:HC P call) (hm:CMono call call) {ops:Array Oper} {bef:List Nat} (hok:DOk ops bef) {c:Nat} {oc:Oper} (hoc:ops[c]?=some oc) (hgd:oc.guard=none)
   {post:List (Nat × Oper × Told)} (hpost:∀ z ∈ post,(bef.getD z.1 0).testBit c=true) {Q:Act→PH→Prop} {Qx:Exit→Act→World→Prop} {σ0:PH} {w0:World}
   (hQ:∀ a τ w,Q a τ→PH.le τ w→Fr σ0 w0 τ w→Qx .normal a w) :
   ∀ (fuel:Nat) (pre:List (Nat × Oper × Told)) (listed:Array Bool) (done:List (Nat × Log)) (a:Act) (σ:PH) (w:World),TR P call ops bef (XE P bef c) pre done (Ecall P call ops bef c oc post Q) a σ→PH.le σ w→Fr σ0 w0 σ w →
     (pre ++ (c,oc,dum) :: post).length≤fuel→Left ops bef (pre ++ (c,oc,dum) :: post) listed→wpAny P .any ops Qx fuel listed a w:=by
 intro fuel
 induction fuel with
 | zero => intro pre listed done a σ w _ _ _ hlen; simp at hlen
 | succ fuel ih =>
   intro pre listed done a σ w h hw hf hlen hl
   refine ⟨fun hr => ?_,fun i hi => ?_⟩
   · have:=hl.empty hok hr
     simp at this
   · have hi':=hi
     rw [mem_ready] at hi
     obtain ⟨hun,o',ho',hafter⟩:=hi
     have hbefore:∀ i',(bef.getD i 0).testBit i'=true→listed.getD i' false=true:=by
       intro i' hb
       obtain ⟨e,he,hbi,hor⟩:=hok.bef i o' i' ho' hb
       rcases hor with rfl | hor
       · exact hafter e he hbi
       · exact hl.closed e.on (hafter e he hbi) i' hor
     obtain ⟨z,hz,rfl⟩:=(hl.mem i).2 hun
     rcases List.mem_append.1 hz with hzp | hzp
     ·
       obtain ⟨pre1,pre2,rfl⟩:=List.append_of_mem hzp
       obtain ⟨j,o,x⟩:=z
       simp only at hun hi' hafter hbefore ho' ⊢
       have hl':Left ops bef (pre1 ++ (j,o,x) :: (pre2 ++ (c,oc,dum) :: post)) listed:=by simpa using hl
       have ho:=hl'.at' (j,o,x) (List.mem_append_right _ List.mem_cons_self)
       have h:=TR_front (Ecall_mono hm) (hok.sel j o · · ho) (hl.size ▸ (getD_tf hun).1) (fun z hz => hl'.ahead hok hbefore hz) (Fin'.of_le hw) h
       obtain ⟨k,hk,_,_,h⟩:=h
       refine step_sound hc ho hk hw h ?_
       intro v τ w' hv hle hfr
       refine ih (pre1 ++ pre2) _ _ _ _ _ hv hle (hf.trans hfr) (by simp at hlen ⊢; omega) ?_
       have:=hl'.remove hun hbefore
       simpa using this
     · rcases List.mem_cons.1 hzp with rfl | hzp
       ·
         simp only at hun hi' hafter hbefore ho' ⊢
         obtain ⟨g,args,hct,hcall⟩:=TRE_call hm (hok.sel c oc · · hoc) (fun z hz => ⟨(hl.ahead hok hbefore hz).2.2.1,(hl.ahead hok hbefore hz).2.1,(hl.ahead hok hbefore hz).1⟩) h
         have hl2:=hl.remove hun hbefore
         unfold wpOp
         simp only [hoc]
         rw [if_pos (by unfold Region.wanted; rw [hgd])]
         refine .inl ?_
         unfold Oper.wp
         rw [callTo_run hct w]
         refine (hc _ _ _ _ _ hcall hw).mono ?_
         rintro e w' ⟨v,τ,rfl,⟨υ,hs,_,htr⟩,hl',hfr⟩
         exact TR_sound hc hok hQ fuel _ _ _ _ _ _ htr (hs.le hl') (hf.trans (hfr.sub hs)) (by simp at hlen ⊢; omega) hl2
       · exfalso
         have:=hpost z hzp
         have h1:=hbefore c this
         have h2:=(hl.mem c).1 ⟨(c,oc,dum),List.mem_append_right _ List.mem_cons_self,rfl⟩
         rw [(getD_tf h2).2] at h1; cases h1
theorem preE_at {bef:List Nat} {c:Nat}:∀ {os:List Oper} {j:Nat},∀ z ∈ preE bef c j os,j≤z.1∧os[z.1 - j]?=some z.2
 | [],_,_,h => by cases h
 | o :: os,j,z,h => by
   have tl:z ∈ preE bef c (j + 1) os→j≤z.1∧(o :: os)[z.1 - j]?=some z.2:=by
     intro h
     obtain ⟨h1,h2⟩:=preE_at z h
     refine ⟨by omega,?_⟩
     rw [show z.1 - j=(z.1 - (j + 1)) + 1 from by omega,List.getElem?_cons_succ]; exact h2
   unfold preE at h
   split at h
   · exact tl h
   · cases h with
     | head => exact ⟨Nat.le_refl _,by simp⟩
     | tail _ hm => exact tl hm
theorem postE_at {bef:List Nat} {c:Nat}:∀ {os:List Oper} {j:Nat},∀ z ∈ postE bef c j os,j≤z.1∧os[z.1 - j]?=some z.2
 | [],_,_,h => by cases h
 | o :: os,j,z,h => by
   have tl:z ∈ postE bef c (j + 1) os→j≤z.1∧(o :: os)[z.1 - j]?=some z.2:=by
     intro h
     obtain ⟨h1,h2⟩:=postE_at z h
     refine ⟨by omega,?_⟩
     rw [show z.1 - j=(z.1 - (j + 1)) + 1 from by omega,List.getElem?_cons_succ]; exact h2
   unfold postE at h
   split at h
   · cases h with
     | head => exact ⟨Nat.le_refl _,by simp⟩
     | tail _ hm => exact tl hm
   · exact tl h
theorem callAt_at:∀ {os:List Oper} {j:Nat} {c:Nat} {o:Oper},callAt j os=some (c,o)→j≤c∧os[c - j]?=some o
 | [],_,_,_,h => by cases h
 | x :: os,j,c,o,h => by
   unfold callAt at h
   split at h
   · cases h; exact ⟨Nat.le_refl _,by simp⟩
   · obtain ⟨h1,h2⟩:=callAt_at h
     refine ⟨by omega,?_⟩
     rw [show c - j=(c - (j + 1)) + 1 from by omega,List.getElem?_cons_succ]; exact h2
def lay (l:List (Nat × Oper)):List (Nat × Oper × Told):=l.map fun z => (z.1,z.2,dum)
theorem wanted_plain {o:Oper} (h:o.guard=none) (f:Nat→Option Bool):Region.wanted o f=true:=by unfold Region.wanted; rw [h]
theorem detAt_congr {o:Op} {ρ ρ':Operand→Value} (h:∀ x ∈ o.operands,ρ x=ρ' x):detAt o ρ=detAt o ρ':=by
 cases o <;> try rfl
 case nilCheck x => simp only [detAt]; rw [h x (by simp [Op.operands])]
 case load t x => simp only [detAt]; rw [h x (by simp [Op.operands])]
 case fieldAddr t x f => simp only [detAt]; rw [h x (by simp [Op.operands])]
 case binOp op t x y e => simp only [detAt]; rw [h x (by simp [Op.operands]),h y (by simp [Op.operands])]
theorem det_sk {P:Program} {ops:Array Oper} {o:Oper} {a:Act} (h:detAt o.op a.eval=true) {x:Told} {k:SK} (hk:skOf P ops o x a=some k):k.det P:=by
 have hd:=det_at (P:=P) h
 unfold skOf at hk
 split at hk
 · cases hk; trivial
 · split at hk
   · cases hk; exact hd
   · cases hk; exact hd
   · rename_i hdk
     exfalso
     obtain ⟨dst,op,type,pos,after,guard⟩:=o
     cases op <;> first | (cases h; done) | (cases hdk; done)
   · rename_i hdk
     exfalso
     obtain ⟨dst,op,type,pos,after,guard⟩:=o
     cases op <;> first | (cases h; done) | (cases hdk; done)
theorem idrawL_TR {P:Program} {call:CallR} {ops:Array Oper} {bef:List Nat} (hs:∀ (j:Nat) (o:Oper) cs b,ops[j]?=some o→o.op ≠ .select cs b) {Q:List (Nat × Log)→Env→PH→Prop} {Q':List (Nat × Log)→Act→PH→Prop}
   (hQ:∀ done e a σ,ER e a→Q done e σ→Q' done a σ):∀ {os:List (Nat × Oper)} {done:List (Nat × Log)} {e:Env} {a:Act} {σ:PH},(∀ z ∈ os,ops[z.1]?=some z.2)→ER e a→idrawL P call ops bef os done Q e σ →
     TR P call ops bef (fun _ _ => True) (lay os) done Q' a σ
 | [],_,_,_,_,_,he,h => hQ _ _ _ _ he h
 | (j,o) :: os,done,e,a,σ,hi,he,h => by
   unfold idrawL at h
   split at h
   · rename_i hg
     have:=idstep_TR (P:=P) (call:=call) (ops:=ops) (bef:=bef) (j:=j) (r:=lay os) (Q:=Q') (X:=fun _ _ => True) (fun _ _ _ => trivial) (fun cs b => hs j o cs b (hi _ List.mem_cons_self)) he (wanted_plain hg _) h
       fun lg v τ hv => idrawL_TR hs hQ (fun z hz => hi z (List.mem_cons_of_mem _ hz)) (he.put _ _) hv
     revert this
     split <;> exact id
   · exact h.elim
theorem idrawP_TR {P:Program} {call:CallR} {ops:Array Oper} {bef:List Nat} {c:Nat} (hs:∀ (j:Nat) (o:Oper) cs b,ops[j]?=some o→o.op ≠ .select cs b) {Q:List (Nat × Log)→Env→PH→Prop} {Q':List (Nat × Log)→Act→PH→Prop}
   (hQ:∀ done e a σ,ER e a→Q done e σ→Q' done a σ):∀ {os:List (Nat × Oper)} {done:List (Nat × Log)} {e:Env} {a:Act} {σ:PH},(∀ z ∈ os,ops[z.1]?=some z.2)→ER e a→idrawP P call ops bef (bef.getD c 0) os done Q e σ →
     TR P call ops bef (XE P bef c) (lay os) done Q' a σ
 | [],_,_,_,_,_,he,h => hQ _ _ _ _ he h
 | (j,o) :: os,done,e,a,σ,hi,he,h => by
   unfold idrawP at h
   split at h
   · rename_i hg
     split at h
     · rename_i hx
       have hX:∀ x k,skOf P ops o x a=some k→XE P bef c j k:=by
         intro x k hk
         rw [Bool.or_eq_true] at hx
         rcases hx with hx | hx
         · exact .inl hx
         · refine .inr (det_sk ?_ hk)
           have hkn:eknown e o.op.operands.toList=true:=by
             unfold idstep at h
             split at h
             · exact h.elim
             · assumption
           rw [detAt_congr (erho_eq he hkn)]
           exact hx
       have:=idstep_TR (P:=P) (call:=call) (ops:=ops) (bef:=bef) (j:=j) (r:=lay os) (Q:=Q') (X:=XE P bef c) hX (fun cs b => hs j o cs b (hi _ List.mem_cons_self)) he (wanted_plain hg _) h
         fun lg v τ hv => idrawP_TR hs hQ (fun z hz => hi z (List.mem_cons_of_mem _ hz)) (he.put _ _) hv
       revert this
       split <;> exact id
     · exact h.elim
   · exact h.elim
theorem iecall_TR {P:Program} {call:CallR} (hm:CMono call call) {ops:Array Oper} {bef:List Nat} (hs:∀ (j:Nat) (o:Oper) cs b,ops[j]?=some o→o.op ≠ .select cs b) {c:Nat} {oc:Oper} {post:List (Nat × Oper)} (hp:∀ z ∈ post,ops[z.1]?=some z.2) {Q:Env→PH→Prop}
   (done:List (Nat × Log)) (e:Env) (a:Act) (σ:PH) (he:ER e a) (h:iecall P call ops bef c oc post Q done e σ):Ecall P call ops bef c oc (lay post) (fun a τ => ∃ e,ER e a∧Q e τ) done a σ:=by
 unfold iecall at h
 split at h
 · exact h.elim
 · rename_i hk
   split at h
   · exact h.elim
   · rename_i g args hct
     refine ⟨g,args,by rw [callTo_congr (erho_eq he hk)]; exact hct,hm _ _ _ _ _ ?_ h⟩
     rintro v τ ⟨υ,h1,h2⟩
     obtain ⟨h3,h4⟩:=withC_iff h2
     obtain ⟨u,rfl,h5⟩:=enumT_ex h4
     exact ⟨υ,h1,h3,idrawL_TR hs (fun _ e a σ he h => ⟨e,he,h⟩) hp (he.put _ _) h5⟩
theorem linOk_spec {bef:List Nat}:∀ {l:List Nat},linOk bef l=true→l.Pairwise fun x y => (bef.getD x 0).testBit y=false∧x ≠ y
 | [],_ => List.Pairwise.nil
 | x :: l,h => by
   unfold linOk at h
   rw [Bool.and_eq_true,List.all_eq_true] at h
   refine List.pairwise_cons.2 ⟨fun y hy => ?_,linOk_spec h.2⟩
   have:=h.1 y hy
   simpa using this
theorem draw_soundE {P:Program} (hmo:P.follows .mixedOrders=true) (call:CallR) (hc:HC P call) (hm:CMono call call) {id:Nat} {ops:Array Oper} {Q:IX→Env→PH→Prop} {e:Env} {σ:PH} {a:Act} {w:World}
   (h:idrawnE P call ops (fun e τ => Q .normal e τ) e σ) (he:ER e a) (hw:PH.le σ w):(Code.region id ops true).wp P (W Q σ w) a w:=by
 unfold idrawnE at h
 split at h
 · exact h.elim
 · rename_i c oc hcall
   split at h
   · exact h.elim
   · rename_i hgd
     split at h
     · exact h.elim
     · rename_i hok
       unfold eOk at hok
       simp only [Bool.and_eq_true] at hok
       obtain ⟨⟨⟨⟨hok,hsz⟩,hlin⟩,hcov⟩,hpost⟩:=hok
       have hok:=dok_of hok
       have hoc:ops[c]?=some oc:=by have:=(callAt_at hcall).2; simpa using this
       have hpre:∀ z ∈ preE (befs ops.toList []) c 0 ops.toList,ops[z.1]?=some z.2:=fun z hz => by have:=(preE_at z hz).2; simpa using this
       have hpo:∀ z ∈ postE (befs ops.toList []) c 0 ops.toList,ops[z.1]?=some z.2:=fun z hz => by have:=(postE_at z hz).2; simpa using this
       have hT:=idrawP_TR hok.sel (iecall_TR hm hok.sel hpo) hpre he h
       have hmap:(lay (preE (befs ops.toList []) c 0 ops.toList) ++ (c,oc,dum) :: lay (postE (befs ops.toList []) c 0 ops.toList)).map (·.1) =
           (preE (befs ops.toList []) c 0 ops.toList).map (·.1) ++ c :: (postE (befs ops.toList []) c 0 ops.toList).map (·.1):=by
         simp only [lay,List.map_append,List.map_cons,List.map_map]
         rfl
       refine wp_region_any hmo ?_
       have hw':PH.le σ { w with drawn:=w.drawn + 1 }:=hw
       have hat:∀ z ∈ lay (preE (befs ops.toList []) c 0 ops.toList) ++ (c,oc,dum) :: lay (postE (befs ops.toList []) c 0 ops.toList),ops[z.1]?=some z.2.1:=by
         intro z hz
         rcases List.mem_append.1 hz with hz | hz
         · obtain ⟨y,hy,rfl⟩:=List.mem_map.1 hz; exact hpre y hy
         · rcases List.mem_cons.1 hz with rfl | hz
           · exact hoc
           · obtain ⟨y,hy,rfl⟩:=List.mem_map.1 hz; exact hpo y hy
       have hpw:(lay (preE (befs ops.toList []) c 0 ops.toList) ++ (c,oc,dum) :: lay (postE (befs ops.toList []) c 0 ops.toList)).Pairwise fun x y => ((befs ops.toList []).getD x.1 0).testBit y.1=false∧x.1 ≠ y.1:=by
         have:=linOk_spec hlin
         rw [← hmap,List.pairwise_map] at this
         exact this
       have hlen:(lay (preE (befs ops.toList []) c 0 ops.toList) ++ (c,oc,dum) :: lay (postE (befs ops.toList []) c 0 ops.toList)).length≤ops.size:=by
         have:=by simpa using hsz
         simp [lay]
         omega
       refine TRE_sound hc hm hok hoc hgd (σ0:=σ) (w0:=w) (Q:=fun a τ => ∃ e,ER e a∧Q .normal e τ) (post:=lay (postE (befs ops.toList []) c 0 ops.toList)) ?_ ?_ ops.size _ _ [] a σ _ hT hw' ⟨rfl,rfl,rfl,Nat.le_refl _,fun _ _ _ => rfl,fun _ _ h => h⟩ hlen ?_
       · intro z hz
         obtain ⟨y,hy,rfl⟩:=List.mem_map.1 hz
         exact List.all_eq_true.1 hpost y hy
       · rintro a τ w' ⟨e,he,hq⟩ hl hf
         exact ⟨.normal,e,τ,rfl,hq,he,hl,hf⟩
       · refine ⟨hpw,?_,hat,by simp,?_⟩
         · intro j
           constructor
           · rintro ⟨z,hz,rfl⟩
             have:z.1 < ops.size:=by
               rcases Nat.lt_or_ge z.1 ops.size with h' | h'
               · exact h'
               · have:=hat z hz; rw [Array.getElem?_eq_none h'] at this; cases this
             simp [this]
           · intro hu
             have hlt:=(getD_tf hu).1
             have:=List.all_eq_true.1 hcov j (List.mem_range.2 (by simpa using hlt))
             rw [List.contains_iff_mem,← hmap] at this
             obtain ⟨z,hz,e⟩:=List.mem_map.1 this
             exact ⟨z,hz,e⟩
         · intro j hj
           exfalso
           rw [Array.getD_eq_getD_getElem?,Array.getElem?_replicate] at hj
           split at hj <;> cases hj
def SemCall (P:Program):CallR:=fun f args Q σ => ∀ w,PH.le σ w→Calls P f args w (CP Q σ w)
theorem SemCall.hc {P:Program}:HC P (SemCall P):=fun _ _ _ _ w h hw => h w hw
theorem SemCall.of {P:Program} {call:CallR} (hc:HC P call):CMono call (SemCall P):=by
 intro f args Q Q' σ hq h w hw
 refine (hc _ _ _ _ _ h hw).mono ?_
 rintro e w' ⟨v,τ,rfl,h1,h2,h3⟩
 exact ⟨v,τ,rfl,hq _ _ h1,h2,h3⟩
theorem draw_sound {P:Program} (hm:P.follows .mixedOrders=true) (call:CallR) (hc:HC P call):DrawSound P call:=by
 intro id ops Q e σ a w h he hw
 rcases h with h | h
 · exact draw_sound1 hm call hc h he hw
 · exact draw_soundE hm (SemCall P) SemCall.hc (SemCall.of SemCall.hc) (idrawnE_mono (SemCall.of hc) (fun _ _ h => h) h) he hw
theorem ICall.calls {P:Program} (hm:P.follows .mixedOrders=true) {anns:FuncId→Ann} {base:CallR} (hB:HC P base):HC P (ICall P anns base) :=
 ICall.sound hB fun call hc => draw_sound hm call hc
theorem w64 {n:Int} (h1:-9223372036854775808≤n) (h2:n < 9223372036854775808):IntKind.wrap .i64 n=n:=by
 unfold IntKind.wrap
 simp only [show IntKind.i64.signed=true from rfl,show IntKind.i64.bits=64 from rfl,Bool.true_and,decide_eq_true_eq]
 simp only [show (2:Int) ^ 64=18446744073709551616 from rfl,show (2:Int) ^ (64 - 1)=9223372036854775808 from rfl]
 split <;> omega
theorem br_iff {b:Bool} {A B:Prop}:br b A B ↔ (b=true→A)∧(b=false→B):=by cases b <;> simp [br]
theorem br_dec {p:Prop} [Decidable p] {A B:Prop}:br (decide p) A B ↔ (p→A)∧(¬ p→B):=by
 rw [br_iff]; simp
theorem br_true {b:Bool} {A B:Prop} (hb:b=true) (h:A):br b A B:=by subst hb; exact h
theorem br_false {b:Bool} {A B:Prop} (hb:b=false) (h:B):br b A B:=by subst hb; exact h
theorem PH.sub_set {σ:PH} {b:Nat} {o:Obj} (h:σ b=none):σ.sub (σ.set b o):=by
 intro c o' hc
 unfold PH.set
 rw [if_neg (by rintro rfl; rw [h] at hc; cases hc)]
 exact hc
theorem PH.sub.cell {σ τ:PH} (h:σ.sub τ) {a:Addr} {v:Value} (hc:σ.cell? a=some v):τ.cell? a=some v:=by
 unfold PH.cell? at hc ⊢
 split at hc
 · rename_i c e f hb; rw [h _ _ hb]; exact hc
 · cases hc
def Row (σ:PH) (a:Option Addr) (vs:List Value):Prop:=vs=[] ∨ ∃ p,a=some p∧∀ i v,vs[i]?=some v→σ.cell? (p.add i)=some v
theorem Row.sub {σ τ:PH} (h:σ.sub τ) {a:Option Addr} {vs:List Value} (hr:Row σ a vs):Row τ a vs:=by
 rcases hr with h' | ⟨p,h1,h2⟩
 · exact .inl h'
 · exact .inr ⟨p,h1,fun i v hv => h.cell (h2 i v hv)⟩
theorem Row.at {σ:PH} {a:Option Addr} {vs:List Value} (h:Row σ a vs) {i:Nat} {v:Value} (hv:vs[i]?=some v):∃ p,a=some p∧σ.cell? (p.add i)=some v:=by
 rcases h with rfl | ⟨p,h1,h2⟩
 · simp at hv
 · exact ⟨p,h1,h2 i v hv⟩
def Ints (σ:PH) (a:Option Addr) (n:Nat) (l:List Int):Prop:=l.length=n∧Row σ a (l.map (.int .i64))
theorem Ints.at {σ:PH} {a:Option Addr} {n:Nat} {l:List Int} (h:Ints σ a n l) {i:Int} (h0:0≤i) (h1:i < n):∃ p,a=some p∧σ.cell? (p.add (i.toNat * 1))=some (.int .i64 (l.getD i.toNat 0)):=by
 have hlt:i.toNat < l.length:=by rw [h.1]; omega
 rw [Nat.mul_one]
 refine h.2.at ?_
 simp [hlt]
theorem Ints.sub {σ τ:PH} (h:σ.sub τ) {a:Option Addr} {n:Nat} {l:List Int} (hr:Ints σ a n l):Ints τ a n l:=⟨hr.1,hr.2.sub h⟩
theorem iloopS_for {L G:Type} {S:(L→PH→Prop)→L→PH→Prop} (st:Nat→G→L) (I:Nat→G→PH→Prop) (n:Nat)
   (h:∀ k g σ,k≤n→I k g σ→∀ R:L→PH→Prop,(∀ g' σ',k < n→I (k + 1) g' σ'→R (st (k + 1) g') σ')→S R (st k g) σ) {g:G} {σ:PH} (h0:I 0 g σ):iloopS S (st 0 g) σ:=by
 intro R hR
 have:∀ d k g σ,n - k=d→k≤n→I k g σ→R (st k g) σ:=by
   intro d
   induction d with
   | zero => intro k g σ hd hk hI; exact hR _ _ (h k g σ hk hI R fun g' σ' hlt _ => by omega)
   | succ d ih => intro k g σ hd hk hI; exact hR _ _ (h k g σ hk hI R fun g' σ' hlt hI' => ih (k + 1) g' σ' (by omega) (by omega) hI')
 exact this _ 0 g σ rfl (Nat.zero_le _) h0
theorem wnat {k:Nat} (h:(k:Int) + 1 < 9223372036854775808):IntKind.wrap .i64 ((k:Int) + 1)=((k + 1:Nat):Int):=by
 rw [w64 (by omega) (by omega)]; omega
end Go.Sl
namespace Go.Sv
def idx (i:Int):Int:=if i < 0 then 2 * (-i - 1) + 1 else 2 * (i - 1)
def valS (l:List Int) (i:Int):Int:=if 0 < i∧i≤l.length then l.getD (i - 1).toNat 0 else if i < 0∧-i≤l.length then -(l.getD (-i - 1).toNat 0) else 0
def sgn (i:Int):Int:=if i < 0 then -1 else 1
def vr (x:Int):Nat:=x.natAbs - 1
theorem idx_half {x:Int} (h:x ≠ 0):idx x / 2=(vr x:Int):=by
 unfold idx vr; split <;> omega
theorem idx_toNat {x:Int} (h:x ≠ 0):(idx x / 2).toNat=vr x:=by
 rw [idx_half h]; omega
def LitN (n:Nat) (x:Int):Prop:=x ≠ 0∧x.natAbs≤n
theorem LitN.neg {n:Nat} {x:Int} (h:LitN n x):LitN n (-x):=⟨by have:=h.1; omega,by rw [Int.natAbs_neg]; exact h.2⟩
theorem LitN.vr_lt {n:Nat} {x:Int} (h:LitN n x):vr x < n:=by unfold vr; obtain ⟨h1,h2⟩:=h; omega
theorem vr_neg {x:Int}:vr (-x)=vr x:=by unfold vr; rw [Int.natAbs_neg]
theorem vr_eq {x y:Int} (hx:x ≠ 0) (hy:y ≠ 0) (h:vr x=vr y):y=x ∨ y=-x:=by unfold vr at h; omega
def sg (trail:List Int) (i:Nat):Int:=if ((i:Int) + 1) ∈ trail then 1 else if -((i:Int) + 1) ∈ trail then -1 else 0
structure Tr (n:Nat) (value:List Int) (level:List Nat) (trail:List Int) (limits:List Nat):Prop where
 vlen:value.length=n
 llen:level.length=n
 lit:∀ x ∈ trail,LitN n x
 dis:∀ pre x post,trail=pre ++ x :: post→x ∉ pre∧-x ∉ pre
 val:∀ i,i < n→value[i]?=some (sg trail i)
 lev:∀ pre x post,trail=pre ++ x :: post→level[vr x]?=some ((limits.filter (·≤pre.length)).length)
 srt:limits.Pairwise (· < ·)
 lim:∀ p ∈ limits,p < trail.length
theorem mem_pre {l:List Int} {x:Int} (h:x ∈ l):∃ pre post,l=pre ++ x :: post:=List.append_of_mem h
theorem Tr.anti {n:Nat} {value:List Int} {level:List Nat} {trail:List Int} {limits:List Nat} (h:Tr n value level trail limits) {x:Int} (h1:x ∈ trail) (h2:-x ∈ trail):False:=by
 obtain ⟨pre,post,e⟩:=mem_pre h1
 have hx:=(h.lit x h1).1
 subst e
 rcases List.mem_append.1 h2 with h3 | h3
 · exact (h.dis pre x post rfl).2 h3
 · rcases List.mem_cons.1 h3 with h4 | h4
   · omega
   · obtain ⟨p2,q2,e2⟩:=mem_pre h4
     have:=(h.dis (pre ++ x :: p2) (-x) q2 (by rw [e2]; simp)).2
     rw [Int.neg_neg] at this
     exact this (by simp)
theorem valS_eq {n:Nat} {value:List Int} (hl:value.length=n) {x:Int} (hx:LitN n x):valS value x=if 0 < x then value.getD (vr x) 0 else -(value.getD (vr x) 0):=by
 obtain ⟨h1,h2⟩:=hx
 unfold valS
 by_cases h:0 < x
 · rw [if_pos (by omega),if_pos h]
   congr 1
   unfold vr; omega
 · rw [if_neg (by omega),if_pos (by omega),if_neg h]
   congr 2
   unfold vr; omega
theorem sg_lit {n:Nat} {value:List Int} {level:List Nat} {trail:List Int} {limits:List Nat} (h:Tr n value level trail limits) {x:Int} (hx:LitN n x) :
   valS value x=if x ∈ trail then 1 else if -x ∈ trail then -1 else 0:=by
 rw [valS_eq h.vlen hx]
 have hv:=h.val (vr x) hx.vr_lt
 have hg:value.getD (vr x) 0=sg trail (vr x):=by rw [List.getD_eq_getElem?_getD,hv]; rfl
 rw [hg]
 unfold sg
 have h1:=hx.1
 by_cases h0:0 < x
 · rw [if_pos h0]
   have:((vr x:Nat):Int) + 1=x:=by unfold vr; omega
   rw [this]
 · rw [if_neg h0]
   have:((vr x:Nat):Int) + 1=-x:=by unfold vr; omega
   rw [this,Int.neg_neg]
   by_cases h2:x ∈ trail
   · have h3:-x ∉ trail:=fun h3 => h.anti h2 h3
     simp [h2,h3]
   · by_cases h3:-x ∈ trail <;> simp [h2,h3]
theorem Tr.pos {n:Nat} {value:List Int} {level:List Nat} {trail:List Int} {limits:List Nat} (h:Tr n value level trail limits) {x:Int} (hx:LitN n x):0 < valS value x ↔ x ∈ trail:=by
 rw [sg_lit h hx]
 by_cases h2:x ∈ trail
 · simp [h2]
 · by_cases h3:-x ∈ trail <;> simp [h2,h3]
theorem Tr.neg {n:Nat} {value:List Int} {level:List Nat} {trail:List Int} {limits:List Nat} (h:Tr n value level trail limits) {x:Int} (hx:LitN n x):valS value x < 0 ↔ -x ∈ trail:=by
 rw [sg_lit h hx]
 by_cases h2:x ∈ trail
 · have h3:-x ∉ trail:=fun h3 => h.anti h2 h3
   simp [h2,h3]
 · by_cases h3:-x ∈ trail <;> simp [h2,h3]
theorem Tr.zero {n:Nat} {value:List Int} {level:List Nat} {trail:List Int} {limits:List Nat} (h:Tr n value level trail limits) {x:Int} (hx:LitN n x):valS value x=0 ↔ x ∉ trail∧-x ∉ trail:=by
 rw [sg_lit h hx]
 by_cases h2:x ∈ trail
 · simp [h2]
 · by_cases h3:-x ∈ trail <;> simp [h2,h3]
theorem snoc_split {l pre post:List Int} {x y:Int} (h:l ++ [y]=pre ++ x :: post):(post=[]∧l=pre∧y=x) ∨ ∃ p',post=p' ++ [y]∧l=pre ++ x :: p':=by
 rcases List.eq_nil_or_concat post with rfl | ⟨p',z,rfl⟩
 · left
   have:=List.append_inj' h rfl
   exact ⟨rfl,this.1,by simpa using this.2⟩
 · right
   rw [List.concat_eq_append,← List.cons_append,← List.append_assoc] at h
   have:=List.append_inj' h rfl
   refine ⟨p',?_,this.1⟩
   have e:y=z:=by simpa using this.2
   rw [e,List.concat_eq_append]
theorem sg_snoc {trail:List Int} {x:Int} (hx:x ≠ 0) (h1:x ∉ trail) (h2:-x ∉ trail) (i:Nat):sg (trail ++ [x]) i=if i=vr x then sgn x else sg trail i:=by
 unfold sg sgn
 by_cases hi:i=vr x
 · subst hi
   rw [if_pos rfl]
   unfold vr
   by_cases h0:x < 0
   · rw [if_pos h0,if_neg,if_pos]
     · exact List.mem_append_right _ (by rw [List.mem_singleton]; omega)
     · intro h
       rcases List.mem_append.1 h with h | h
       · exact h2 (by rw [show -x=((x.natAbs - 1:Nat):Int) + 1 from by omega]; exact h)
       · rw [List.mem_singleton] at h; omega
   · rw [if_neg h0,if_pos]
     exact List.mem_append_right _ (by rw [List.mem_singleton]; omega)
 · rw [if_neg hi]
   have e1:((i:Int) + 1 ∈ trail ++ [x]) ↔ (i:Int) + 1 ∈ trail:=by
     rw [List.mem_append,List.mem_singleton]
     refine ⟨fun h => h.resolve_right ?_,.inl⟩
     intro e; apply hi; unfold vr; omega
   have e2:(-((i:Int) + 1) ∈ trail ++ [x]) ↔ -((i:Int) + 1) ∈ trail:=by
     rw [List.mem_append,List.mem_singleton]
     refine ⟨fun h => h.resolve_right ?_,.inl⟩
     intro e; apply hi; unfold vr; omega
   simp only [e1,e2]
theorem filter_all {l:List Nat} {m:Nat} (h:∀ p ∈ l,p≤m):(l.filter (·≤m)).length=l.length:=by
 rw [List.filter_eq_self.2]; simpa using h
theorem Tr.assign {n:Nat} {value:List Int} {level:List Nat} {trail:List Int} {limits:List Nat} (h:Tr n value level trail limits) {x:Int} (hx:LitN n x) (h1:x ∉ trail) (h2:-x ∉ trail) :
   Tr n (value.set (vr x) (sgn x)) (level.set (vr x) limits.length) (trail ++ [x]) limits where
 vlen:=by rw [List.length_set]; exact h.vlen
 llen:=by rw [List.length_set]; exact h.llen
 lit y hy:=by
   rcases List.mem_append.1 hy with hy | hy
   · exact h.lit y hy
   · rw [List.mem_singleton] at hy; subst hy; exact hx
 dis pre y post e:=by
   rcases snoc_split e with ⟨_,rfl,rfl⟩ | ⟨p',_,e'⟩
   · exact ⟨h1,h2⟩
   · exact h.dis pre y p' e'
 val i hi:=by
   rw [sg_snoc hx.1 h1 h2,List.getElem?_set]
   by_cases e:i=vr x
   · subst e; simp [h.vlen,hi]
   · rw [if_neg (Ne.symm e),if_neg e]; exact h.val i hi
 lev pre y post e:=by
   rcases snoc_split e with ⟨_,rfl,rfl⟩ | ⟨p',_,e'⟩
   · rw [List.getElem?_set_self (by rw [h.llen]; exact hx.vr_lt),filter_all fun p hp => Nat.le_of_lt (h.lim p hp)]
   · have hy:y ∈ trail:=by rw [e']; simp
     rw [List.getElem?_set_ne]
     · exact h.lev pre y p' e'
     · intro e1
       rcases vr_eq hx.1 (h.lit y hy).1 e1 with rfl | rfl
       · exact h1 hy
       · exact h2 hy
 srt:=h.srt
 lim p hp:=by rw [List.length_append]; have:=h.lim p hp; omega
theorem Tr.decide {n:Nat} {value:List Int} {level:List Nat} {trail:List Int} {limits:List Nat} (h:Tr n value level trail limits) {x:Int} (hx:LitN n x) (h1:x ∉ trail) (h2:-x ∉ trail) :
   Tr n (value.set (vr x) (sgn x)) (level.set (vr x) (limits.length + 1)) (trail ++ [x]) (limits ++ [trail.length]) where
 vlen:=by rw [List.length_set]; exact h.vlen
 llen:=by rw [List.length_set]; exact h.llen
 lit:=(h.assign hx h1 h2).lit
 dis:=(h.assign hx h1 h2).dis
 val:=(h.assign hx h1 h2).val
 lev pre y post e:=by
   rcases snoc_split e with ⟨_,rfl,rfl⟩ | ⟨p',_,e'⟩
   · rw [List.getElem?_set_self (by rw [h.llen]; exact hx.vr_lt),filter_all]
     · simp
     · intro p hp
       rcases List.mem_append.1 hp with hp | hp
       · exact Nat.le_of_lt (h.lim p hp)
       · rw [List.mem_singleton] at hp; omega
   · have hy:y ∈ trail:=by rw [e']; simp
     rw [List.getElem?_set_ne,h.lev pre y p' e',List.filter_append]
     · have:pre.length < trail.length:=by rw [e']; simp
       simp [show ¬ trail.length≤pre.length from by omega]
     · intro e1
       rcases vr_eq hx.1 (h.lit y hy).1 e1 with rfl | rfl
       · exact h1 hy
       · exact h2 hy
 srt:=by
   rw [List.pairwise_append]
   refine ⟨h.srt,List.pairwise_singleton _ _,fun a ha b hb => ?_⟩
   rw [List.mem_singleton] at hb; subst hb
   exact h.lim a ha
 lim p hp:=by
   rw [List.length_append]
   rcases List.mem_append.1 hp with hp | hp
   · have:=h.lim p hp; omega
   · rw [List.mem_singleton] at hp; simp; omega
theorem count_take {limits:List Nat} (hs:limits.Pairwise (· < ·)) {j p:Nat} (hj:j < limits.length):(limits.filter (·≤p)).length≤j ↔ p < limits[j]:=by
 induction limits generalizing j with
 | nil => simp at hj
 | cons a l ih =>
   rw [List.pairwise_cons] at hs
   rw [List.filter_cons]
   by_cases ha:a≤p
   · simp only [ha,decide_true,if_true,List.length_cons]
     cases j with
     | zero => simp; omega
     | succ j =>
       have:=ih hs.2 (j:=j) (by simpa using hj)
       simp only [List.getElem_cons_succ]
       rw [← this]; omega
   · simp only [ha,decide_false,Bool.false_eq_true,if_false]
     have:l.filter (·≤p)=[]:=by
       rw [List.filter_eq_nil_iff]
       intro b hb
       have:=hs.1 b hb
       simp; omega
     rw [this]
     simp only [List.length_nil,Nat.zero_le,true_iff]
     cases j with
     | zero => simp; omega
     | succ j =>
       have:=hs.1 _ (List.getElem_mem (l:=l) (n:=j) (by simpa using hj))
       simp; omega
def lv (level:List Nat) (x:Int):Nat:=level.getD (vr x) 0
theorem lv_neg {level:List Nat} {x:Int}:lv level (-x)=lv level x:=by unfold lv; rw [vr_neg]
theorem Tr.lv_at {n:Nat} {value:List Int} {level:List Nat} {trail:List Int} {limits:List Nat} (h:Tr n value level trail limits) {pre post:List Int} {x:Int} (e:trail=pre ++ x :: post) :
   lv level x=(limits.filter (·≤pre.length)).length:=by
 unfold lv; rw [List.getD_eq_getElem?_getD,h.lev pre x post e]; rfl
theorem Tr.lv_le {n:Nat} {value:List Int} {level:List Nat} {trail:List Int} {limits:List Nat} (h:Tr n value level trail limits) {x:Int} (hx:x ∈ trail):lv level x≤limits.length:=by
 obtain ⟨pre,post,e⟩:=mem_pre hx
 rw [h.lv_at e]
 exact List.length_filter_le ..
theorem Tr.lv_take {n:Nat} {value:List Int} {level:List Nat} {trail:List Int} {limits:List Nat} (h:Tr n value level trail limits) {j:Nat} (hj:j < limits.length) {x:Int} (hx:x ∈ trail):lv level x≤j ↔ x ∈ trail.take limits[j]:=by
 obtain ⟨pre,post,e⟩:=mem_pre hx
 rw [h.lv_at e,count_take h.srt hj]
 constructor
 · intro hp
   rw [e,List.take_append]
   refine List.mem_append_right _ ?_
   rw [show limits[j] - pre.length=(limits[j] - pre.length - 1) + 1 from by omega,List.take_succ_cons]
   exact List.mem_cons_self
 · intro hm
   rcases Nat.lt_or_ge pre.length limits[j] with hp | hp
   · exact hp
   · rw [e,List.take_append_of_le_length hp] at hm
     exact absurd (List.mem_of_mem_take hm) (h.dis pre x post e).1
def clrI (ls:List Int) (V:List Int):List Int:=ls.foldl (fun V x => V.set (vr x) 0) V
theorem clrI_len:∀ (ls V:List Int),(clrI ls V).length=V.length
 | [],_ => rfl
 | x :: ls,V => by unfold clrI; rw [List.foldl_cons]; exact (clrI_len ls _).trans (List.length_set ..)
theorem clrI_get:∀ (ls V:List Int) (i:Nat),i < V.length→(clrI ls V)[i]?=if i ∈ ls.map vr then some 0 else V[i]?
 | [],_,_,_ => by simp [clrI]
 | x :: ls,V,i,h => by
   have:=clrI_get ls (V.set (vr x) 0) i (by simpa using h)
   unfold clrI at this ⊢
   rw [List.foldl_cons,this]
   by_cases h1:i ∈ ls.map vr
   · rw [if_pos h1,if_pos (by simp only [List.map_cons]; exact List.mem_cons_of_mem _ h1)]
   · rw [if_neg h1,List.getElem?_set]
     by_cases h2:vr x=i
     · subst h2; simp [h]
     · rw [if_neg h2,if_neg]
       rw [List.map_cons,List.mem_cons]
       rintro (h3 | h3)
       · exact h2 h3.symm
       · exact h1 h3
theorem Tr.undo {n:Nat} {value:List Int} {level:List Nat} {trail:List Int} {limits:List Nat} (h:Tr n value level trail limits) {j:Nat} (hj:j < limits.length) :
   Tr n (clrI (trail.drop limits[j]) value) level (trail.take limits[j]) (limits.take j) where
 vlen:=by rw [clrI_len]; exact h.vlen
 llen:=h.llen
 lit x hx:=h.lit x (List.mem_of_mem_take hx)
 dis pre x post e:=h.dis pre x (post ++ trail.drop limits[j]) (by rw [← List.cons_append,← List.append_assoc,← e,List.take_append_drop])
 val i hi:=by
   rw [clrI_get _ _ _ (by rw [h.vlen]; exact hi),h.val i hi]
   have split:∀ x:Int,x ∈ trail.drop limits[j]→x ∈ trail.take limits[j]→False:=by
     intro x h1 h2
     obtain ⟨p,q,e⟩:=mem_pre h1
     refine (h.dis (trail.take limits[j] ++ p) x q ?_).1 (List.mem_append_left _ h2)
     rw [List.append_assoc,← e,List.take_append_drop]
   have splitn:∀ x:Int,x ∈ trail.drop limits[j]→-x ∈ trail.take limits[j]→False:=fun x h1 h2 => h.anti (List.mem_of_mem_drop h1) (List.mem_of_mem_take h2)
   have mem:∀ x:Int,x ∈ trail ↔ x ∈ trail.take limits[j] ∨ x ∈ trail.drop limits[j]:=by
     intro x
     conv => lhs; rw [← List.take_append_drop limits[j] trail]
     exact List.mem_append
   have key:i ∈ (trail.drop limits[j]).map vr ↔ (((i:Int) + 1) ∈ trail.drop limits[j] ∨ -((i:Int) + 1) ∈ trail.drop limits[j]):=by
     rw [List.mem_map]
     constructor
     · rintro ⟨x,hx,e⟩
       have h0:=(h.lit x (List.mem_of_mem_drop hx)).1
       unfold vr at e
       rcases Int.lt_or_gt_of_ne h0 with h0 | h0
       · right; rw [show -((i:Int) + 1)=x from by omega]; exact hx
       · left; rw [show ((i:Int) + 1)=x from by omega]; exact hx
     · rintro (h1 | h1)
       · exact ⟨_,h1,by unfold vr; omega⟩
       · exact ⟨_,h1,by unfold vr; omega⟩
   by_cases hd:i ∈ (trail.drop limits[j]).map vr
   · rw [if_pos hd]
     rw [key] at hd
     unfold sg
     rcases hd with hd | hd
     · rw [if_neg fun h1 => split _ hd h1,if_neg fun h1 => splitn _ hd h1]
     · rw [if_neg,if_neg fun h1 => split _ hd h1]
       intro h1
       refine splitn _ hd ?_
       rw [Int.neg_neg]; exact h1
   · rw [if_neg hd]
     rw [key] at hd
     have hd1:=fun h => hd (.inl h)
     have hd2:=fun h => hd (.inr h)
     congr 1
     unfold sg
     have m1:((i:Int) + 1) ∈ trail ↔ ((i:Int) + 1) ∈ trail.take limits[j]:=(mem _).trans (or_iff_left hd1)
     have m2:-((i:Int) + 1) ∈ trail ↔ -((i:Int) + 1) ∈ trail.take limits[j]:=(mem _).trans (or_iff_left hd2)
     simp only [m1,m2]
 lev pre x post e:=by
   have e1:trail=pre ++ x :: (post ++ trail.drop limits[j]):=by rw [← List.cons_append,← List.append_assoc,← e,List.take_append_drop]
   rw [h.lev pre x _ e1]
   have hp:pre.length < limits[j]:=by
     have:=congrArg List.length e
     rw [List.length_take,List.length_append,List.length_cons] at this
     omega
   congr 1
   conv => lhs; rw [← List.take_append_drop j limits]
   rw [List.filter_append]
   have:(limits.drop j).filter (·≤pre.length)=[]:=by
     rw [List.filter_eq_nil_iff]
     intro q hq
     rw [List.drop_eq_getElem_cons hj] at hq
     have hs:=h.srt
     rw [← List.take_append_drop j limits,List.pairwise_append,List.drop_eq_getElem_cons hj,List.pairwise_cons] at hs
     rcases List.mem_cons.1 hq with rfl | hq
     · simp; omega
     · have:=hs.2.1.1 q hq
       simp; omega
   rw [this,List.append_nil]
 srt:=h.srt.sublist (List.take_sublist ..)
 lim p hp:=by
   rw [List.length_take]
   have h1:=h.lim p (List.mem_of_mem_take hp)
   have hs:=h.srt
   rw [← List.take_append_drop j limits,List.pairwise_append,List.drop_eq_getElem_cons hj] at hs
   have:=hs.2.2 p hp _ List.mem_cons_self
   omega
def minInt:Int:=-9223372036854775808
def ins (x:Int):List Int→Option (List Int)
 | [] => some [x]
 | y :: ys => if y.natAbs < x.natAbs then (ins x ys).map (y :: ·) else if y=x then some (y :: ys) else if y=-x then none else some (x :: y :: ys)
def normFrom (out:List Int):List Int→Option (List Int)
 | [] => some out
 | x :: xs => if x=0 ∨ x=minInt then none else match ins x out with | none => none | some o => normFrom o xs
def norm (c:List Int):Option (List Int):=normFrom [] c
abbrev SortedA (l:List Int):Prop:=l.Pairwise (fun a b => a.natAbs < b.natAbs)
theorem ins_some {x:Int} (hx:x ≠ 0):∀ {l out:List Int},SortedA l→ins x l=some out→SortedA out∧(∀ z,z ∈ out ↔ z=x ∨ z ∈ l)∧-x ∉ l
 | [],out,_,h => by
   simp only [ins,Option.some.injEq] at h
   subst h
   simp [SortedA]
 | y :: ys,out,hs,h => by
   have hs':=List.pairwise_cons.1 hs
   unfold ins at h
   split at h
   · rename_i h1
     cases hi:ins x ys with
     | none => rw [hi] at h; cases h
     | some o =>
       rw [hi] at h
       simp only [Option.map_some,Option.some.injEq] at h
       subst h
       obtain ⟨i1,i2,i3⟩:=ins_some hx hs'.2 hi
       refine ⟨List.pairwise_cons.2 ⟨fun z hz => ?_,i1⟩,fun z => ?_,?_⟩
       · rcases (i2 z).1 hz with rfl | hz
         · exact h1
         · exact hs'.1 z hz
       · rw [List.mem_cons,i2,List.mem_cons]
         constructor
         · rintro (h | h | h)
           · exact .inr (.inl h)
           · exact .inl h
           · exact .inr (.inr h)
         · rintro (h | h | h)
           · exact .inr (.inl h)
           · exact .inl h
           · exact .inr (.inr h)
       · rw [List.mem_cons]
         rintro (h | h)
         · rw [← h,Int.natAbs_neg] at h1; omega
         · exact i3 h
   · rename_i h1
     split at h
     · rename_i h2
       cases h
       subst h2
       refine ⟨hs,fun z => ?_,?_⟩
       · rw [List.mem_cons]
         constructor
         · intro h; exact .inr h
         · rintro (h | h)
           · exact .inl h
           · exact h
       · rw [List.mem_cons]
         rintro (h | h)
         · omega
         · have:=hs'.1 _ h; rw [Int.natAbs_neg] at this; omega
     · rename_i h2
       split at h
       · cases h
       · rename_i h3
         cases h
         have hlt:x.natAbs < y.natAbs:=by omega
         refine ⟨List.pairwise_cons.2 ⟨fun z hz => ?_,hs⟩,fun z => List.mem_cons,?_⟩
         · rcases List.mem_cons.1 hz with rfl | hz
           · exact hlt
           · have:=hs'.1 z hz; omega
         · rw [List.mem_cons]
           rintro (h | h)
           · exact h3 h.symm
           · have:=hs'.1 _ h; rw [Int.natAbs_neg] at this; omega
theorem ins_ok {x:Int}:∀ {l:List Int},-x ∉ l→∃ out,ins x l=some out
 | [],_ => ⟨_,rfl⟩
 | y :: ys,h => by
   obtain ⟨o,ho⟩:=ins_ok (x:=x) (l:=ys) fun h' => h (List.mem_cons_of_mem _ h')
   unfold ins
   split
   · rw [ho]; exact ⟨_,rfl⟩
   · split
     · exact ⟨_,rfl⟩
     · split
       · rename_i h3; exact absurd (by rw [h3]; exact List.mem_cons_self) h
       · exact ⟨_,rfl⟩
def Clean (c:List Int):Prop:=∀ x ∈ c,x ≠ 0∧x ≠ minInt∧-x ∉ c
theorem normFrom_some:∀ {c l out:List Int},SortedA l→Clean l→normFrom l c=some out→SortedA out∧(∀ z,z ∈ out ↔ z ∈ l ∨ z ∈ c)∧Clean out
 | [],l,out,hs,hc,h => by
   simp only [normFrom,Option.some.injEq] at h
   subst h
   exact ⟨hs,fun z => by simp,hc⟩
 | x :: xs,l,out,hs,hc,h => by
   unfold normFrom at h
   split at h
   · cases h
   · rename_i h0
     split at h
     · cases h
     · rename_i o ho
       obtain ⟨i1,i2,i3⟩:=ins_some (by omega) hs ho
       have hco:Clean o:=by
         intro z hz
         rcases (i2 z).1 hz with rfl | hz'
         · refine ⟨by omega,by omega,fun h' => ?_⟩
           rcases (i2 _).1 h' with h' | h'
           · omega
           · exact i3 h'
         · obtain ⟨q1,q2,q3⟩:=hc z hz'
           refine ⟨q1,q2,fun h' => ?_⟩
           rcases (i2 _).1 h' with h' | h'
           · apply i3; rw [← h',Int.neg_neg]; exact hz'
           · exact q3 h'
       obtain ⟨j1,j2,j3⟩:=normFrom_some i1 hco h
       refine ⟨j1,fun z => ?_,j3⟩
       rw [j2,i2,List.mem_cons]
       constructor
       · rintro ((h | h) | h)
         · exact .inr (.inl h)
         · exact .inl h
         · exact .inr (.inr h)
       · rintro (h | h | h)
         · exact .inl (.inr h)
         · exact .inl (.inl h)
         · exact .inr h
theorem norm_some {c out:List Int} (h:norm c=some out):SortedA out∧(∀ z,z ∈ out ↔ z ∈ c)∧Clean c:=by
 obtain ⟨h1,h2,h3⟩:=normFrom_some (l:=[]) .nil (by intro x hx; simp at hx) h
 refine ⟨h1,fun z => by simpa using h2 z,fun x hx => ?_⟩
 obtain ⟨q1,q2,q3⟩:=h3 x ((h2 x).2 (.inr hx))
 exact ⟨q1,q2,fun h => q3 ((h2 _).2 (.inr h))⟩
theorem normFrom_ok:∀ {c l:List Int},SortedA l→Clean l→Clean c→(∀ x ∈ c,-x ∉ l)→∃ out,normFrom l c=some out
 | [],l,_,_,_,_ => ⟨_,rfl⟩
 | x :: xs,l,hs,hl,hc,hd => by
   obtain ⟨o,ho⟩:=ins_ok (x:=x) (l:=l) (hd x List.mem_cons_self)
   obtain ⟨c1,c2,c3⟩:=hc x List.mem_cons_self
   obtain ⟨i1,i2,i3⟩:=ins_some c1 hs ho
   unfold normFrom
   rw [if_neg (by omega),ho]
   refine normFrom_ok i1 ?_ (fun z hz => ?_) fun z hz h' => ?_
   · intro z hz
     rcases (i2 z).1 hz with rfl | hz'
     · refine ⟨c1,c2,fun h' => ?_⟩
       rcases (i2 _).1 h' with h' | h'
       · omega
       · exact i3 h'
     · obtain ⟨q1,q2,q3⟩:=hl z hz'
       refine ⟨q1,q2,fun h' => ?_⟩
       rcases (i2 _).1 h' with h' | h'
       · apply i3; rw [← h',Int.neg_neg]; exact hz'
       · exact q3 h'
   · obtain ⟨q1,q2,q3⟩:=hc z (List.mem_cons_of_mem _ hz)
     exact ⟨q1,q2,fun h => q3 (List.mem_cons_of_mem _ h)⟩
   · rcases (i2 _).1 h' with h' | h'
     · exact (hc z (List.mem_cons_of_mem _ hz)).2.2 (by rw [h']; exact List.mem_cons_self)
     · exact hd z (List.mem_cons_of_mem _ hz) h'
theorem norm_ok {c:List Int} (h:Clean c):∃ out,norm c=some out:=normFrom_ok .nil (by intro x hx; simp at hx) h fun _ _ h => by simp at h
theorem sorted_unique:∀ {a b:List Int},SortedA a→SortedA b→(∀ z,z ∈ a ↔ z ∈ b)→a=b
 | [],[],_,_,_ => rfl
 | [],y :: b,_,_,h => by have:=(h y).2 List.mem_cons_self; simp at this
 | x :: a,[],_,_,h => by have:=(h x).1 List.mem_cons_self; simp at this
 | x :: a,y :: b,ha,hb,h => by
   have ha':=List.pairwise_cons.1 ha
   have hb':=List.pairwise_cons.1 hb
   have e:x=y:=by
     rcases List.mem_cons.1 ((h x).1 List.mem_cons_self) with h1 | h1
     · exact h1
     · rcases List.mem_cons.1 ((h y).2 List.mem_cons_self) with h2 | h2
       · exact h2.symm
       · have:=ha'.1 _ h2; have:=hb'.1 _ h1; omega
   subst e
   congr 1
   refine sorted_unique ha'.2 hb'.2 fun z => ?_
   constructor
   · intro hz
     rcases List.mem_cons.1 ((h z).1 (List.mem_cons_of_mem _ hz)) with h1 | h1
     · subst h1; have:=ha'.1 _ hz; omega
     · exact h1
   · intro hz
     rcases List.mem_cons.1 ((h z).2 (List.mem_cons_of_mem _ hz)) with h1 | h1
     · subst h1; have:=hb'.1 _ hz; omega
     · exact h1
theorem norm_eq {c out:List Int} (hs:SortedA out) (hm:∀ z,z ∈ out ↔ z ∈ c) (hc:Clean c):norm c=some out:=by
 obtain ⟨o,ho⟩:=norm_ok hc
 obtain ⟨h1,h2,_⟩:=norm_some ho
 rw [ho,sorted_unique h1 hs fun z => (h2 z).trans (hm z).symm]
theorem norm_none {c:List Int} (h:¬ Clean c):norm c=none:=by
 cases ho:norm c with
 | none => rfl
 | some o => exact absurd (norm_some ho).2.2 h
structure PStep where
 kind:Int
 index:Int
 lits:List Int
 p:Int
 q:Int
 v:Int
structure Fm where
 ints:Nat
 bools:Nat
 atoms:List (Int × Int × Int)
 clauses:List (List Int)
def bound (F:Fm) (x:Int):Option (Int × Int × Int) :=
 if x=0 then none else match F.atoms[vr x]? with
   | none => none
   | some (a,b,c) => if 0 < x then some (a,b,c) else some (b,a,-c - 1)
def chain:Int→Int→List (Int × Int × Int)→Prop
 | a,b,[] => a=b
 | a,b,d :: l => d.1=a∧chain d.2.1 b l
def sumC (l:List (Int × Int × Int)):Int:=(l.map (·.2.2)).sum
def ring (l:List (Int × Int × Int)):Prop:=∃ a,chain a a l∧sumC l < 0
theorem ring_ne {l:List (Int × Int × Int)} (h:ring l):l ≠ []:=by
 rintro rfl; obtain ⟨_,_,h⟩:=h; simp [sumC] at h
def bounds (F:Fm):List Int→Option (List (Int × Int × Int))
 | [] => some []
 | x :: xs => match bound F x with | none => none | some d => match bounds F xs with | none => none | some l => some (d :: l)
open Classical in
noncomputable def cyclic (F:Fm) (lits:List Int):Option (List Int) :=
 match bounds F lits with
 | none => none
 | some l => if ring l∧lits.length≤1000 then norm (lits.map (- ·)) else none
def resolvent (p q:List Int) (v:Int):Option (List Int) :=
 if 0≤v∧v < 1024∧v + 1 ∈ p∧-(v + 1) ∈ q then norm (p.filter (· != v + 1) ++ q.filter (· != -(v + 1))) else none
noncomputable def stepClause (F:Fm) (cs:List (List Int)) (s:PStep):Option (List Int) :=
 if s.kind=1 then (if 0≤s.index then match F.clauses[s.index.toNat]? with | some c => norm c | none => none else none)
 else if s.kind=2 then cyclic F s.lits
 else if s.kind=3 then (if 0≤s.p∧0≤s.q then match cs[s.p.toNat]?,cs[s.q.toNat]? with | some a,some b => resolvent a b s.v | _,_ => none else none)
 else none
noncomputable def stepsFrom (F:Fm) (cs:List (List Int)):List PStep→Option (List (List Int))
 | [] => some cs
 | s :: l => match stepClause F cs s with | none => none | some c => stepsFrom F (cs ++ [c]) l
noncomputable def stepsOf (F:Fm) (l:List PStep):Option (List (List Int)):=stepsFrom F [] l
theorem stepsFrom_append {F:Fm}:∀ {l m:List PStep} {cs:List (List Int)},stepsFrom F cs (l ++ m)=match stepsFrom F cs l with | none => none | some ds => stepsFrom F ds m
 | [],m,cs => rfl
 | s :: l,m,cs => by
   rw [List.cons_append,stepsFrom,stepsFrom]
   cases stepClause F cs s with
   | none => rfl
   | some c => exact stepsFrom_append
theorem stepsOf_snoc {F:Fm} {l:List PStep} {cs:List (List Int)} (h:stepsOf F l=some cs) {s:PStep} {c:List Int} (hs:stepClause F cs s=some c):stepsOf F (l ++ [s])=some (cs ++ [c]):=by
 unfold stepsOf at h ⊢
 rw [stepsFrom_append,h]
 simp only [stepsFrom,hs]
theorem stepsFrom_len {F:Fm}:∀ {l:List PStep} {cs ds:List (List Int)},stepsFrom F cs l=some ds→ds.length=cs.length + l.length∧∃ e,ds=cs ++ e
 | [],cs,ds,h => by simp only [stepsFrom,Option.some.injEq] at h; subst h; exact ⟨rfl,[],by simp⟩
 | s :: l,cs,ds,h => by
   unfold stepsFrom at h
   split at h
   · cases h
   · obtain ⟨h1,e,h2⟩:=stepsFrom_len h
     refine ⟨by rw [h1]; simp; omega,_,by rw [h2,List.append_assoc]⟩
theorem stepsOf_len {F:Fm} {l:List PStep} {cs:List (List Int)} (h:stepsOf F l=some cs):cs.length=l.length:=by
 have:=(stepsFrom_len h).1; simpa using this
theorem stepClause_mono {F:Fm} {cs ds:List (List Int)} {s:PStep} {c:List Int} (h:stepClause F cs s=some c):stepClause F (cs ++ ds) s=some c:=by
 have up:∀ (k:Nat) (a:List Int),cs[k]?=some a→(cs ++ ds)[k]?=some a:=by
   intro k a h
   rw [List.getElem?_append_left]
   · exact h
   · exact (List.getElem?_eq_some_iff.1 h).1
 unfold stepClause at h ⊢
 split at h
 · rename_i h1; rw [if_pos h1]; exact h
 · rename_i h1
   rw [if_neg h1]
   split at h
   · rename_i h2; rw [if_pos h2]; exact h
   · rename_i h2
     rw [if_neg h2]
     split at h
     · rename_i h3
       rw [if_pos h3]
       split at h
       · rename_i h4
         rw [if_pos h4]
         split at h
         · rename_i a b ha hb
           rw [up _ _ ha,up _ _ hb]
           exact h
         · cases h
       · cases h
     · cases h
theorem stepsOf_at {F:Fm} {l:List PStep} {cs:List (List Int)} (h:stepsOf F l=some cs) {i:Nat} {s:PStep} (hs:l[i]?=some s):∃ c,cs[i]?=some c∧stepClause F cs s=some c:=by
 have hlt:=(List.getElem?_eq_some_iff.1 hs).1
 have e:l=l.take i ++ (s :: l.drop (i + 1)):=by
   rw [← (List.getElem?_eq_some_iff.1 hs).2,← List.drop_eq_getElem_cons hlt,List.take_append_drop]
 unfold stepsOf at h
 rw [e,stepsFrom_append] at h
 cases h1:stepsFrom F [] (l.take i) with
 | none => rw [h1] at h; cases h
 | some ds =>
   rw [h1] at h
   dsimp only at h
   unfold stepsFrom at h
   split at h
   · cases h
   · rename_i c hc
     obtain ⟨_,e',he⟩:=stepsFrom_len h
     have hl:=(stepsFrom_len h1).1
     simp only [List.length_nil,List.length_take,Nat.zero_add] at hl
     have hdl:ds.length=i:=by omega
     refine ⟨c,?_,?_⟩
     · rw [he,List.append_assoc,List.getElem?_append_right (by omega),hdl]
       simp
     · rw [he,List.append_assoc]
       exact stepClause_mono hc
structure RC where
 lits:List Int
 step:Int
 cyc:List Int
structure St where
 steps:List PStep
 clauses:List Nat
 W:List (List Int)
 value:List Int
 level:List Nat
 why:List (Option Nat)
 trail:List Int
 limits:List Nat
 head:Int
 empty:Option Nat
 units:List Nat
 R:Nat→Option RC
def addW (W:List (List Int)) (ls:List Int) (ci:Int):List (List Int):=ls.foldl (fun W l => W.modify (idx l).toNat (· ++ [ci])) W
def clrW (ls:List Int) (V:List (Option Nat)):List (Option Nat):=ls.foldl (fun V x => V.set (vr x) none) V
def St.assign (st:St) (x:Int) (r:Option Nat):St :=
 { st with value:=st.value.set (vr x) (sgn x),level:=st.level.set (vr x) st.limits.length,why:=st.why.set (vr x) r,trail:=st.trail ++ [x] }
def St.step (st:St) (p:PStep):St:={ st with steps:=st.steps ++ [p] }
def St.setR (st:St) (r:Nat) (c:RC):St:={ st with R:=fun q => if q=r then some c else st.R q }
def St.add (st:St) (r:Nat) (lits:List Int):St:={ st with clauses:=st.clauses ++ [r],W:=addW st.W (lits.take 2) st.clauses.length }
def St.undoTo (st:St) (j n0:Nat):St :=
 { st with value:=clrI (st.trail.drop n0) st.value,why:=clrW (st.trail.drop n0) st.why,trail:=st.trail.take n0,limits:=st.limits.take j,head:=n0 }
def pInput (i:Int):PStep:=⟨1,i,[],0,0,0⟩
def pCyc (l:List Int):PStep:=⟨2,0,l,0,0,0⟩
def pRes (p q v:Int):PStep:=⟨3,0,[],p,q,v⟩
def St.derive (st:St) (r:Nat) (x:RC):St:=if x.step < 0 then (st.step (pCyc x.cyc)).setR r { x with step:=st.steps.length } else st
def St.stepOf (st:St) (x:RC):Int:=if x.step < 0 then st.steps.length else x.step
def St.undo (st:St) (j:Nat):St:=if h:j < st.limits.length then st.undoTo j st.limits[j] else st
end Go.Sv
namespace Go.Proofs.Ythfnjogadngfiaa
open Go.Sl
noncomputable abbrev prog:Program:=Try.prog
def an5:Ann:=(.go .no (.go .no (.go (.go .no (.go (.at 26 .no .no) .no)) .no)))
def an22:Ann:=(.go .no (.go .no (.go .no (.go (.go .no (.go (.at 7696581394434 .no .no) .no)) (.go (.go .no (.go (.at 1083197534374707740536733698 (.go .no (.go .no (.go (.go (.go .no (.go .no (.go (.at 70407839734356003134887690242 .no .no) .no))) .no) .no))) .no) .no)) .no)))))
def an23:Ann:=(.go .no (.go (.go .no (.go (.at 904 .no .no) .no)) .no))
def an25:Ann:=(.go .no (.go .no (.go .no (.go (.go .no (.go (.at 939524292 .no .no) .no)) (.go (.go .no (.go (.at 1220 (.go .no (.go (.go .no (.go .no (.go (.at 7696581395652 (.go .no (.go .no (.go (.go (.go .no (.go .no (.go .no (.go (.go .no (.go (.at 500277790696644 .no .no) .no)) .no)))) .no) .no))) .no) .no))) .no)) .no) .no)) (.go .no (.go (.go .no (.go (.at 67699845898419233784070144 .no .no) .no)) .no)))))))
def an27:Ann:=(.go .no (.go .no (.go (.go .no (.go (.at 12291 .no .no) .no)) .no)))
def an35:Ann:=(.go .no (.go .no (.go .no (.go (.go .no (.go (.at 7696581394434 .no .no) .no)) (.go (.go .no (.go (.at 1083197534374707740536733698 (.go .no (.go .no (.go (.go (.go .no (.go .no (.go (.at 70407839734356003134887690242 .no .no) .no))) .no) .no))) .no) .no)) .no)))))
def an36:Ann:=(.go .no (.go .no (.go (.go .no (.go (.at 7516192776 .no .no) .no)) .no)))
def an37:Ann:=(.go .no (.go .no (.go (.go .no (.go (.at 240518168577 .no .no) .no)) .no)))
def an38:Ann:=(.go .no (.go .no (.go .no (.go (.go .no (.go (.at 393245 .no .no) .no)) .no))))
def an39:Ann:=(.go .no (.go .no (.go (.go .no (.go (.at 117440524 .no .no) .no)) (.go (.go .no (.go (.at 252201579132747784 .no .no) .no)) .no))))
def an48:Ann:=(.go .no (.go .no (.go .no (.go (.go .no (.go (.at 120259084550 .no .no) .no)) (.go (.go .no (.go (.at 3940649673949444 .no .no) .no)) .no)))))
def an50:Ann:=(.go .no (.go .no (.go .no (.go .no (.go .no (.go (.go .no (.go (.at 48 .no .no) .no)) .no))))))
def an51:Ann:=(.go .no (.go (.go .no (.go .no (.go .eff .no))) .no))
def an52:Ann:=(.go .no (.go .no (.go (.at 7340033 .no .no) .no)))
def an54:Ann:=(.go .no (.go .no (.at 71 .no .no)))
def an55:Ann:=(.go .no (.go (.go .no (.go (.at 113 .no .no) .no)) .no))
def an56:Ann:=(.go .no (.go (.at 3 .no .no) .no))
def an57:Ann:=(.go .no (.go (.at 1 (.go (.go (.go (.at 1 .no .no) .no) .no) .no) .no) .no))
def an59:Ann:=(.go .no (.go (.go .no (.go (.go .no (.go (.at 58720265 .no .no) .no)) (.go .no (.go .no (.go (.go .no (.go (.at 216172782113785353 .no .no) .no)) (.go .no (.go .no (.go .no (.at 9736 (.go .no (.go (.at 30217 (.go .no (.go (.go (.go .no (.go (.go .no (.go (.at 8264141345021879154185 .no .no) .no)) .no)) .no) .no)) .no) .no)) .no))))))))) .no))
def an60:Ann:=(.go .no (.go .no (.go (.go .no (.go (.at 14404 (.go .no (.go .no (.go (.go (.go .no (.go .no (.go .no (.at 16068 (.go .no (.go (.go .no (.go .no (.go .no (.go .no (.go .no (.go (.go .no (.go .eff .no)) .no)))))) .no)) .no)))) .no) .no))) .no) .no)) .no)))
def an62:Ann:=(.go .no (.go .no (.go (.go .no (.go (.at 3600 (.go .no (.go .no (.go (.go (.go .no (.go .no (.go .no (.go (.go (.at 3792 .no .no) .no) .no)))) .no) .no))) .no) .no)) .no)))
def an65:Ann:=(.go .no (.go .no (.go .no (.go (.go .no (.go (.at 57796 .no .no) .no)) .no))))
def an66:Ann:=(.go .no (.go (.go .no (.go (.at 898 .no .no) .no)) .no))
def an75:Ann:=(.go .no (.go .no (.go (.go .no (.go (.at 28704 .no .no) .no)) .no)))
def an77:Ann:=(.go .no (.go .no (.go .no (.at 1547 .no (.go .no (.go (.go .no (.go (.at 15393162789899 .no .no) .no)) .no))))))
def an78:Ann:=(.go .no (.go .no (.go (.go .no (.go (.at 229411 .no .no) .no)) (.go .no (.go .no (.go .no (.go (.go .no (.go (.at 1825 .no .no) .no)) .no)))))))
def an79:Ann:=(.go .no (.go .no (.go (.go .no (.go (.at 3593 .no .no) .no)) .no)))
def an80:Ann:=(.go .no (.go .no (.go .no (.go (.go .no (.go (.at 3670115 (.go .no (.go .no (.go (.go (.go .no (.go .no (.at 3671011 .no .no))) .no) .no))) .no) .no)) .no))))
def an81:Ann:=(.go .no (.go .no (.go .no (.go (.go .no (.go (.at 1835033 .no .no) .no)) (.go .no (.go .no (.go (.go .no (.go (.at 8264141345021879128081 .no .no) .no)) .no)))))))
def an83:Ann:=(.go .no (.go (.go .no (.go (.at 3079 .no .no) .no)) (.go .no (.go .no (.go (.at 391 .no .no) .no)))))
def an87:Ann:=(.go .no (.go .no (.go (.go .no (.go (.at 3619 .no .no) .no)) .no)))
def an88:Ann:=(.go .no (.go (.go .no (.go (.at 387 .no .no) .no)) .no))
def an91:Ann:=(.go .no (.go (.go .no (.go (.at 117440515 .no .no) .no)) .no))
def an92:Ann:=(.go .no (.go .no (.go (.go .no (.go (.at 1157 .no .no) .no)) .no)))
def an93:Ann:=(.go .no (.go .no (.go .no (.go (.go (.go .no (.go (.at 103079215105 .no .no) .no)) .no) .no))))
def an94:Ann:=(.go .no (.go .no (.go (.go .no (.go (.at 1049353 .no .no) .no)) (.go .no (.go (.go .no (.go (.at 8070450532247929609 .no .no) .no)) (.go (.go .no (.go (.at 283953734451123385935261518004993 .no .no) .no)) (.go .no (.at 257 .no .no))))))))
def an95:Ann:=(.go .no (.go (.go .no (.go (.at 135 .no .no) .no)) .no))
def an96:Ann:=(.go .no (.go .no (.at 131 .no (.go (.go .no (.go (.at 240518168705 .no .no) .no)) .no))))
def an97:Ann:=(.go .no (.go .no (.go (.go .no (.go (.at 393251 (.go .no (.go .no (.go (.go (.go .no (.go .no (.go .no (.go (.at 26388279459939 .no .no) .no)))) .no) .no))) .no) .no)) (.go (.go .no (.go (.at 16140901064495857697 .no .no) .no)) (.go (.go .no (.go (.at 1947111321950560360698936123457569 (.go .no (.go .no (.go (.go (.go .no (.go .no (.go (.at 33100892473159526131881914098779169 (.go .no (.go .no (.go (.go (.go .no (.go .no (.go (.at 531561390892502978470809561703910433 .no .no) .no))) .no) .no))) .no) .no))) .no) .no))) .no) .no)) .no)))))
def an99:Ann:=(.go .no (.go .no (.go (.go (.at 135 .no .no) .no) .no)))
def an6:Ann:=(.go .no (.go .no (.go .no (.go (.go .no (.go (.at 1610613126 .no .no) .no)) (.go (.go .no (.go (.at 1688849860264324 .no .no) .no)) (.go (.go .no (.go (.at 567907468902246771870523036008832 .no .no) .no)) .no))))))
def an7:Ann:=(.go .no (.go .no (.go .no (.go (.go .no (.go (.at 226 .no .no) .no)) .no))))
def an8:Ann:=(.go .no (.go .no (.go .no (.go (.go .no (.go (.at 56 (.go .no (.go (.go (.go .no (.go (.at 120 .no .no) .no)) .no) .no)) .no) .no)) (.go (.go .no (.go (.at 152 (.go .no (.go (.go (.go .no (.go (.at 408 .no .no) .no)) .no) .no)) .no) .no)) (.go (.go .no (.go (.at 536 .no .no) .no)) .no))))))
def an9:Ann:=(.go .no (.go .no (.go .no (.go .no (.at 3072 (.go .no (.go .no (.go .no (.go .no (.go (.at 252201579132750976 .no .no) .no))))) .no)))))
def an10:Ann:=(.go .no (.go .no (.go .no (.go (.go .no (.go (.at 229472 .no .no) .no)) .no))))
def an11:Ann:=(.go .no (.go .no (.go (.go .no (.go (.at 102 .no .no) .no)) .no)))
def an12:Ann:=(.go .no (.go .no (.go .no (.go .no (.go .eff (.go .no (.go .no (.go .no (.go (.go .no (.go (.at 16924961474604808445892608 .no .no) .no)) .no)))))))))
def an13:Ann:=(.go .no (.go .no (.go .no (.go .no (.go .no (.go (.go .no (.go (.at 1879048864 .no .no) .no)) (.go .no (.go .no (.go (.go .no (.go (.at 258254417031933722752 .no .no) .no)) .no)))))))))
def an16:Ann:=(.go .no (.go .no (.go .no (.go .no (.go .no (.go .no (.go (.go .no (.go (.at 1924145349002 .no .no) .no)) .no)))))))
def an21:Ann:=(.go .no (.go .no (.go .no (.go (.go .no (.go (.at 62 (.go .no (.go (.go (.go .no (.go .no (.go .eff .no))) .no) .no)) .no) .no)) (.go .no (.go (.go (.at 28 (.go .no (.go (.go .no (.go (.go .no (.go (.at 796 .no .no) .no)) .no)) .no)) .no) .no) .no))))))
def an26:Ann:=(.go .no (.go .no (.go (.go .no (.go (.at 117440580 .no .no) .no)) (.go (.go .no (.go (.at 580 (.go .no (.go (.go .no (.go .no (.go (.at 64563604257983431236 (.go .no (.go .no (.go (.go (.go .no (.go .no (.go (.go .no (.go (.at 4196634276768923021892 .no .no) .no)) .no))) .no) .no))) .no) .no))) .no)) .no) .no)) (.go .no (.go (.go .no (.go (.at 36346078009743793399713474304671744 .no .no) .no)) .no))))))
def an28:Ann:=(.go .no (.go (.go .no (.go (.at 898 .no .no) .no)) .no))
def an32:Ann:=(.go .no (.go .no (.go .no (.go (.go (.at 17 .no .no) .no) (.go .no (.go .no (.go .no (.go .no (.go .no (.go .no (.go .no (.go .no (.go .no (.go .no (.go .eff .no)))))))))))))))
def an34:Ann:=(.go .no (.go .no (.go (.go .no (.go (.at 195 (.go .no (.go (.go (.go .no (.go (.go .no (.go (.at 1835459 .no .no) .no)) .no)) .no) .no)) .no) .no)) .no)))
def an45:Ann:=(.go .no (.go .no (.go (.go .no (.go (.at 28804 .no .no) .no)) .no)))
def an46:Ann:=(.go .no (.go (.go .no (.go (.at 29360129 .no .no) .no)) (.go .no (.go .no (.go (.go .no (.go (.at 6755399441056129 .no .no) .no)) (.go .no (.go .no (.go .no (.go (.go .no (.go (.at 70988433612780846483815379509505 .no .no) .no)) .no)))))))))
def an47:Ann:=(.go .no (.go (.go .no (.go (.at 898 .no .no) .no)) .no))
def an63:Ann:=(.go .no (.go (.go .no (.go (.at 897 .no .no) .no)) .no))
def an64:Ann:=(.go .no (.go .no (.go (.go .no (.go (.at 3145827 .no .no) .no)) (.go .no (.go (.go .no (.go (.at 867 (.go .no (.go (.go (.go .no (.go (.go .no (.go (.at 60129543011 .no .no) .no)) .no)) .no) .no)) .no) .no)) (.go (.go .no (.go (.at 4419 .no .no) .no)) (.go .no (.go .no (.go (.at 24898 .no .no) .no)))))))))
def an85:Ann:=(.go .no (.go .no (.go .no (.go (.go .no (.go (.at 115140 .no .no) .no)) .no))))
def an86:Ann:=(.go .no (.go .no (.go .no (.go .no (.go .no (.go (.go .no (.go (.at 8264141345021879124360 .no .no) .no)) (.go (.go .no (.go (.at 541598767187353870268367112 .no .no) .no)) .no)))))))
def anns (f:FuncId):Ann:=match f with
 | 5 => an5
 | 22 => an22
 | 23 => an23
 | 25 => an25
 | 27 => an27
 | 35 => an35
 | 36 => an36
 | 37 => an37
 | 38 => an38
 | 39 => an39
 | 48 => an48
 | 50 => an50
 | 51 => an51
 | 52 => an52
 | 54 => an54
 | 55 => an55
 | 56 => an56
 | 57 => an57
 | 59 => an59
 | 60 => an60
 | 62 => an62
 | 65 => an65
 | 66 => an66
 | 75 => an75
 | 77 => an77
 | 78 => an78
 | 79 => an79
 | 80 => an80
 | 81 => an81
 | 83 => an83
 | 87 => an87
 | 88 => an88
 | 91 => an91
 | 92 => an92
 | 93 => an93
 | 94 => an94
 | 95 => an95
 | 96 => an96
 | 97 => an97
 | 99 => an99
 | 6 => an6
 | 7 => an7
 | 8 => an8
 | 9 => an9
 | 10 => an10
 | 11 => an11
 | 12 => an12
 | 13 => an13
 | 16 => an16
 | 21 => an21
 | 26 => an26
 | 28 => an28
 | 32 => an32
 | 34 => an34
 | 45 => an45
 | 46 => an46
 | 47 => an47
 | 63 => an63
 | 64 => an64
 | 85 => an85
 | 86 => an86
 | _ => .no
abbrev QT:=Value→PH→Prop
abbrev ET:=Env→PH→Prop
abbrev KT:=IX→Env→PH→Prop
abbrev oo:Option Value:=none
def rp:Nat→Env
 | 0 => []
 | n + 1 => none :: rp n
def ppf:Nat→Nat→List Bool
 | 0,_ => []
 | k + 1,n => match Nat.ble n 1 with
   | true => []
   | false => Nat.beq (n % 2) 1 :: ppf k (n / 2)
def pp (n:Nat):List Bool:=ppf 200 n
def gv (e:Env) (t:Nat):Value:=match eget e t with | some v => v | none => .nilFunc
def vi:Value→Int | .int _ i => i | _ => 0
def vb:Value→Bool | .bool b => b | _ => false
def vp:Value→Option Addr | .pointer p => p | _ => none
def va:Value→Addr | .pointer (some p) => p | _ => ⟨0,0,none⟩
def sa:Value→Option Addr | .slice a _ _ => a | _ => none
def sl:Value→Nat | .slice _ n _ => n | _ => 0
def sc:Value→Nat | .slice _ _ c => c | _ => 0
def vm:Value→Option Nat | .map m => m | _ => none
def vgl:List Value→Nat→Value
 | [],_ => .nilFunc
 | x :: _,0 => x
 | _ :: xs,n + 1 => vgl xs n
def vf2 (v:Value) (n:Nat):Value:=match v with | .func _ a _ => vgl a.toList n | _ => .nilFunc
def vf3 (v:Value) (n:Nat):Value:=match v with | .func _ _ b => vgl b.toList n | _ => .nilFunc
theorem iloop_inv {L:Type} (mk:L→Env) (g:Env→L) (hg:∀ x,g (mk x)=x) (body:(IX→Env→PH→Prop)→Env→PH→Prop) (cut:Env→Env) (Q:IX→Env→PH→Prop)
   (S:(L→PH→Prop)→L→PH→Prop) (h:∀ (R:Env→PH→Prop) x σ,body (loopK cut R Q) (mk x) σ=S (fun y => R (mk y)) x σ) (x:L) (σ:PH) :
   iloop body cut Q (mk x) σ=iloopS S x σ :=
 iloop_eq mk (fun x y e => by rw [← hg x,← hg y,e]) body cut Q S h x σ
end Go.Proofs.Ythfnjogadngfiaa
