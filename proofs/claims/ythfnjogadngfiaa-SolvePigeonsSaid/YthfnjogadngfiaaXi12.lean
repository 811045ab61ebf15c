/- A part of the proof: see the last text, YthfnjogadngfiaaXi14. -/
import Derived.Test.YthfnjogadngfiaaXi11
set_option maxRecDepth 100000
set_option linter.unusedVariables false
set_option linter.unusedSimpArgs false
namespace Go.Sv
def bu (n:Nat) (p:Nat→Nat):Nat→Nat→Nat
 | 0,L => 2 * L + 3 * 2 ^ (n - L) - 2
 | i + 1,L => (2 * (L - p i - 1) + 3 * 2 ^ (n - L) - 2) + bu n p i (p i + 1)
theorem pow_pos' (k:Nat):1≤2 ^ k:=Nat.one_le_two_pow
theorem pow_half {n L:Nat} (h:L < n):2 ^ (n - L)=2 * 2 ^ (n - (L + 1)):=by
 have:n - L=n - (L + 1) + 1:=by omega
 rw [this,Nat.pow_succ]; omega
theorem bu_asg {n:Nat} {p:Nat→Nat} {d L:Nat} (hL:L < n) (hd:∀ i,i < d→p i < L):bu n p d (L + 1) + 1≤bu n p d L:=by
 have h1:=pow_half hL
 have h2:=pow_pos' (n - (L + 1))
 cases d with
 | zero => unfold bu; omega
 | succ i =>
   have:=hd i (by omega)
   unfold bu; omega
theorem bu_le {n:Nat} {p:Nat→Nat} {d L:Nat} (hd:∀ i,i < d→p i < L):∀ k,L + k≤n→bu n p d (L + k) + k≤bu n p d L
 | 0,_ => by simp
 | k + 1,h => by
   have h1:=bu_le (n:=n) hd k (by omega)
   have h2:=bu_asg (n:=n) (p:=p) (d:=d) (L:=L + k) (by omega) fun i hi => by have:=hd i hi; omega
   rw [show L + (k + 1)=L + k + 1 from by omega]
   omega
theorem bu_dec {n:Nat} {p:Nat→Nat} {d L:Nat} (hL:L < n) (hp:p d=L) (hd:∀ i,i < d→p i < L):bu n p (d + 1) (L + 1)≤bu n p d L:=by
 have h1:=pow_half hL
 have h2:=pow_pos' (n - (L + 1))
 rw [bu,hp]
 cases d with
 | zero => unfold bu; omega
 | succ i =>
   have:=hd i (by omega)
   unfold bu; omega
theorem bu_drop {n:Nat} {p:Nat→Nat}:∀ {d L:Nat},∀ back,back < d→bu n p back (p back + 1)≤bu n p d L
 | 0,L,back,h => by omega
 | d + 1,L,back,h => by
   rw [bu]
   by_cases e:back=d
   · subst e; omega
   · have:=bu_drop (n:=n) (p:=p) (d:=d) (L:=p d + 1) back (by omega)
     omega
theorem bu_conf {n:Nat} {p:Nat→Nat} {d L top back:Nat} (hL:L≤n) (hlt:∀ i j,i < j→j < d→p i < p j) (hpL:∀ i,i < d→p i < L) (h1:back < top) (h2:top≤d) :
   bu n p back (p back + 1) + 1 + 2 * ((if top < d then p top else L) - p (top - 1) - 1)≤bu n p d L:=by
 obtain ⟨t,rfl⟩:∃ t,top=t + 1:=⟨top - 1,by omega⟩
 have hb:bu n p back (p back + 1)≤bu n p t (p t + 1):=by
   by_cases e:back=t
   · subst e; omega
   · exact bu_drop back (by omega)
 rw [show t + 1 - 1=t from rfl]
 by_cases e:t + 1 < d
 · rw [if_pos e]
   have h3:=bu_drop (n:=n) (p:=p) (d:=d) (L:=L) (t + 1) e
   rw [bu] at h3
   have:=hlt t (t + 1) (by omega) e
   have:=pow_pos' (n - (p (t + 1) + 1))
   omega
 · rw [if_neg e]
   have:d=t + 1:=by omega
   subst this
   rw [bu]
   have:=hpL t (by omega)
   have:=pow_pos' (n - L)
   omega
def bud (n:Nat) (st:St):Nat:=bu n (fun i => st.limits.getD i 0) st.limits.length st.trail.length
theorem Tr.limD {n:Nat} {value:List Int} {level:List Nat} {trail:List Int} {limits:List Nat} (h:Tr n value level trail limits):(∀ i,i < limits.length→limits.getD i 0 < trail.length)∧∀ i j,i < j→j < limits.length→limits.getD i 0 < limits.getD j 0:=by
 constructor
 · intro i hi
   have:=h.lim limits[i] (List.getElem_mem hi)
   simpa [List.getD_eq_getElem?_getD,hi] using this
 · intro i j hij hj
   have:=List.pairwise_iff_getElem.1 h.srt i j (by omega) hj hij
   simpa [List.getD_eq_getElem?_getD,hj,show i < limits.length from by omega] using this
theorem bud_psame {n:Nat} {a b:St} (hT:Tr n a.value a.level a.trail a.limits) (hT':Tr n b.value b.level b.trail b.limits) (h:PSame a b):bud n b + (b.trail.length - a.trail.length)≤bud n a∧a.trail.length≤b.trail.length:=by
 obtain ⟨e,he⟩:=h.trail
 have hl:b.trail.length=a.trail.length + e.length:=by rw [he,List.length_append]
 have:=hT'.len_le
 unfold bud
 rw [h.limits,hl]
 have:=bu_le (n:=n) (p:=fun i => a.limits.getD i 0) (d:=a.limits.length) (L:=a.trail.length) hT.limD.1 e.length (by omega)
 exact ⟨by omega,by omega⟩
def Cov (F:Fm) (st:St):Prop:=∀ c ∈ F.clauses,∀ l,norm c=some l→(∃ r ∈ st.clauses,∃ rc,st.R r=some rc∧∀ x,x ∈ rc.lits ↔ x ∈ l) ∨ ∃ x,l=[x]∧x ∈ st.trail∧lv st.level x=0
theorem Cov.psame {F:Fm} {a b:St} (h:Cov F a) (s:PSame a b):Cov F b:=by
 intro c hc l hl
 rcases h c hc l hl with ⟨r,h1,rc,h2,h3⟩ | ⟨x,h1,h2,h3⟩
 · obtain ⟨rc',q1,q2,_⟩:=s.R r rc h2
   exact .inl ⟨r,by rw [s.clauses]; exact h1,rc',q1,fun x => q2.mem_iff.trans (h3 x)⟩
 · obtain ⟨e,he⟩:=s.trail
   exact .inr ⟨x,h1,by rw [he]; exact List.mem_append_left _ h2,by rw [s.lev x h2]; exact h3⟩
theorem Cov.same {F:Fm} {a b:St} (h:Cov F a) (s:Same a b):Cov F b:=by
 intro c hc l hl
 rcases h c hc l hl with ⟨r,h1,rc,h2,h3⟩ | ⟨x,h1,h2,h3⟩
 · obtain ⟨rc',q1,q2⟩:=s.R h2
   exact .inl ⟨r,by rw [s.clauses]; exact h1,rc',q1,fun x => by rw [q2]; exact h3 x⟩
 · exact .inr ⟨x,h1,by rw [s.trail]; exact h2,by rw [s.level]; exact h3⟩
theorem Cov.undo {F:Fm} {n:Nat} {a:St} (h:Cov F a) (hT:Tr n a.value a.level a.trail a.limits) (j:Nat):Cov F (a.undo j):=by
 by_cases hj:j < a.limits.length
 · have e:a.undo j=a.undoTo j a.limits[j]:=by unfold St.undo; rw [dif_pos hj]
   rw [e]
   intro c hc l hl
   rcases h c hc l hl with ⟨r,h1,rc,h2,h3⟩ | ⟨x,h1,h2,h3⟩
   · exact .inl ⟨r,h1,rc,h2,h3⟩
   · exact .inr ⟨x,h1,(hT.lv_take hj h2).1 (by omega),h3⟩
 · have e:a.undo j=a:=by unfold St.undo; rw [dif_neg hj]
   rw [e]; exact h
theorem Cov.assign {F:Fm} {n:Nat} {a:St} (h:Cov F a) (hT:Tr n a.value a.level a.trail a.limits) {x:Int} (hx:LitN n x) (h1:x ∉ a.trail) (h2:-x ∉ a.trail) (r:Option Nat):Cov F (a.assign x r):=h.psame (PSame.assign hT hx h1 h2 r)
theorem Cov.newR {F:Fm} {a:St} (h:Cov F a) {r:Nat} (hr:a.R r=none) (rc:RC):Cov F (a.setR r rc):=h.psame (PSame.newR hr rc)
structure SI (F:Fm) (n C:Nat) (st:St):Prop where
 inv:Inv F n st
 wi:∃ p:Nat,st.head=p∧WI n st st.W p
 cov:Cov F st
 sb:st.steps.length + bud n st≤C
 cb:st.clauses.length + bud n st≤C
theorem undo_bud {n:Nat} {st:St} {top:Nat}:(st.undo top).trail.length=(if h:top < st.limits.length then min st.limits[top] st.trail.length else st.trail.length):=by
 unfold St.undo
 split
 · show (st.trail.take _).length=_
   rw [List.length_take]
 · rfl
theorem Learned.next {F:Fm} {n C:Nat} {st st':St} {top:Nat} (L:Learned F n st st' top) (hn:n≤1024) (hI:Inv F n st) {p:Nat} (hW:WI n st st.W p) (hC:Cov F st) (hsb:st.steps.length + bud n st≤C) (hcb:st.clauses.length + bud n st≤C) :
   SI F n C st'∧bud n st' + 1≤bud n st:=by
 obtain ⟨hpos,st2,r,lits,step,back,m,p2,t0,S2,I2,hl2,hp2,rfl,hr2,CL2,hd,h0,hlv0,hlvx,hback,hlv1,hst,_⟩:=L
 have hT:=hI.tr
 have htop:top≤st.limits.length:=by
   rw [S2.limits] at hl2
   unfold St.undo at hl2
   split at hl2
   · omega
   · rw [← hl2]; exact Nat.le_refl _
 obtain ⟨pu,Wu⟩:∃ pu,WI n (st.undo top) st.W pu:=by
   by_cases hj:top < st.limits.length
   · exact ⟨_,hW.undo hT hj⟩
   · have e:st.undo top=st:=by unfold St.undo; rw [dif_neg hj]
     exact ⟨p,by rw [e]; exact hW⟩
 have eWu:(st.undo top).W=st.W:=by unfold St.undo; split <;> rfl
 have ecl:(st.undo top).clauses=st.clauses:=by unfold St.undo; split <;> rfl
 have W2:WI n st2 st.W pu:=Wu.same S2
 have C2:Cov F st2:=(hC.undo hT top).same S2
 have T2:=I2.tr
 have hlim2:∀ i,i < top→st2.limits[i]?=st.limits[i]?:=by
   intro i hi
   rw [S2.limits]
   unfold St.undo
   split
   · show (st.limits.take top)[i]?=_
     rw [List.getElem?_take,if_pos hi]
   · rfl
 obtain ⟨cs,cc,hcs,hcc,hceq⟩:=CL2.der
 have hfls:∀ l ∈ lits,-l ∈ st2.trail:=fun l hl => List.mem_of_mem_take (CL2.fls l hl)
 have hlit:∀ l ∈ lits,LitN n l:=fun l hl => by have:=(T2.lit _ (hfls l hl)).neg; rwa [Int.neg_neg] at this
 have ht0:=List.mem_of_getElem? h0
 have hG:∀ cs,stepsOf F st2.steps=some cs→RGood F n cs ⟨lits,step,[]⟩:=by
   intro cs' hcs'
   rw [hcs] at hcs'; cases hcs'
   exact ⟨hlit,hd,fun _ => ⟨cc,hcc,hceq⟩,fun h => by have:=CL2.pos; dsimp only at h; omega⟩
 have I3:=I2.newR hr2 hG
 have W3:=W2.newR hr2 ⟨lits,step,[]⟩
 have C3:=C2.newR hr2 ⟨lits,step,[]⟩
 have hb2:back < st2.limits.length:=by omega
 have I4:=I3.undo back
 have W4:WI n ((st2.setR r ⟨lits,step,[]⟩).undo back) st.W st2.limits[back]:=W3.undo I3.tr hb2
 have C4:=C3.undo I3.tr back
 have e4:(st2.setR r ⟨lits,step,[]⟩).undo back=(st2.setR r ⟨lits,step,[]⟩).undoTo back st2.limits[back]:=by
   unfold St.undo
   exact dif_pos hb2
 have hblt:=T2.lim _ (List.getElem_mem hb2)
 have n1:t0 ∉ ((st2.setR r ⟨lits,step,[]⟩).undo back).trail:=by
   rw [e4]
   intro hm
   exact T2.anti (List.mem_of_mem_take hm) (hfls t0 ht0)
 have n2:-t0 ∉ ((st2.setR r ⟨lits,step,[]⟩).undo back).trail:=by
   rw [e4]
   intro hm
   have:=(T2.lv_take hb2 (hfls t0 ht0)).2 hm
   rw [lv_neg] at this
   omega
 have hR4:((st2.setR r ⟨lits,step,[]⟩).undo back).R r=some ⟨lits,step,[]⟩:=by rw [e4]; exact if_pos rfl
 have hoth:∀ y ∈ lits,y ≠ t0→-y ∈ ((st2.setR r ⟨lits,step,[]⟩).undo back).trail:=by
   intro y hy hne
   rw [e4]
   exact (T2.lv_take hb2 (hfls y hy)).1 (by rw [lv_neg]; exact hlvx y hy hne)
 have I5:=I4.assign (hlit t0 ht0) n1 n2 hR4 ht0 hoth
 have W5:=W4.assign I4.tr (hlit t0 ht0) n1 n2 (some r)
 have C5:=C4.assign I4.tr (hlit t0 ht0) n1 n2 (some r)
 have hhd:lits.headD 0=t0:=by
   cases lits with
   | nil => simp at h0
   | cons a t => simpa using h0
 generalize hst4:(st2.setR r ⟨lits,step,[]⟩).undo back=st4 at *
 have f4h:st4.head=(st2.limits[back]:Nat):=by rw [e4]; rfl
 have f4t:st4.trail.length=st2.limits[back]:=by rw [e4]; show (st2.trail.take _).length=_; rw [List.length_take]; omega
 have f4l:st4.limits=st2.limits.take back:=by rw [e4]; rfl
 have f4s:st4.steps=st2.steps:=by rw [e4]; rfl
 have f4c:st4.clauses=st.clauses:=by rw [e4]; exact S2.clauses.trans ecl
 have f4W:st4.W=st.W:=by rw [e4]; exact S2.W.trans eWu
 have hb4:bud n (st4.assign t0 (some r))=bu n (fun i => st.limits.getD i 0) back (st.limits.getD back 0 + 1):=by
   unfold bud
   have e1:(st4.assign t0 (some r)).limits=st2.limits.take back:=f4l
   have e2:(st4.assign t0 (some r)).trail.length=st2.limits[back] + 1:=by
     show (st4.trail ++ [t0]).length=_
     rw [List.length_append,f4t]; rfl
   have e3:st.limits.getD back 0=st2.limits[back]:=by
     have:=hlim2 back hback
     rw [List.getElem?_eq_getElem hb2] at this
     rw [List.getD_eq_getElem?_getD,← this]; rfl
   have key:∀ d,d≤back→∀ L,bu n (fun i => (st2.limits.take back).getD i 0) d L=bu n (fun i => st.limits.getD i 0) d L:=by
     intro d
     induction d with
     | zero => intro _ L; rfl
     | succ i ih =>
       intro hi L
       have:(st2.limits.take back).getD i 0=st.limits.getD i 0:=by
         rw [List.getD_eq_getElem?_getD,List.getD_eq_getElem?_getD,List.getElem?_take,if_pos (by omega),hlim2 i (by omega)]
       rw [bu,bu]
       rw [this,ih (by omega)]
   rw [e1,e2,e3,List.length_take,Nat.min_eq_left (by omega)]
   exact key back (Nat.le_refl _) _
 have hbc:=bu_conf (n:=n) (p:=fun i => st.limits.getD i 0) (d:=st.limits.length) (L:=st.trail.length) (top:=top) (back:=back) hT.len_le hT.limD.2 hT.limD.1 hback htop
 have hp2':p2=st.limits.getD (top - 1) 0:=by
   rw [hlim2 (top - 1) (by omega)] at hp2
   rw [List.getD_eq_getElem?_getD,hp2]; rfl
 have ht2:st2.trail.length≤if top < st.limits.length then st.limits.getD top 0 else st.trail.length:=by
   rw [S2.trail,undo_bud (n:=n)]
   split
   · rename_i hj
     rw [List.getD_eq_getElem?_getD,List.getElem?_eq_getElem hj]
     exact Nat.min_le_left _ _
   · exact Nat.le_refl _
 have hbud:bud n (st4.assign t0 (some r)) + 1 + 2 * (st2.trail.length - p2 - 1)≤bud n st:=by
   rw [hb4,hp2']
   unfold bud
   omega
 have hnc:r ∉ st4.clauses:=by
   intro hm
   rw [f4c,← ecl,← S2.clauses] at hm
   obtain ⟨y,q1,_⟩:=W2.cl r hm
   rw [hr2] at q1; cases q1
 by_cases h1:1 < lits.length
 · have ej:st2.jumped r lits step back=(st4.add r lits).assign t0 (some r):=by
     unfold St.jumped
     rw [if_pos h1,hhd,hst4]
   have hWj:WI n ((st4.add r lits).assign t0 (some r)) (addW st4.W (lits.take 2) st4.clauses.length) st2.limits[back]:=by
     have:=W5.add (r:=r) (rc:=⟨lits,step,[]⟩) hR4 hnc h1 hlit hd fun w o hwo hm => ?_
     · rw [f4W]
       exact ⟨this.wl,this.nd,this.cl,this.back,this.mem,this.ok,this.hp,this.lim⟩
     · replace hm:-w ∈ (st4.trail ++ [t0]).take st2.limits[back]:=hm
       rw [List.take_append_of_le_length (by omega),List.take_of_length_le (by omega)] at hm
       rcases hwo with ⟨q1,q2⟩ | ⟨q1,q2⟩
       · replace q1:lits[0]?=some w:=q1
         rw [h0] at q1; cases q1
         exact absurd hm n2
       · replace q1:lits[1]?=some w:=q1
         replace q2:lits[0]?=some o:=q2
         rw [h0] at q2; cases q2
         refine ⟨List.mem_append_right _ (by simp),?_⟩
         have hwt:vr w ≠ vr t0:=by
           obtain ⟨g1,e1⟩:=List.getElem?_eq_some_iff.1 q1
           obtain ⟨g0,e0⟩:=List.getElem?_eq_some_iff.1 h0
           have:=List.pairwise_iff_getElem.1 hd 0 1 g0 g1 (by omega)
           rw [e0,e1] at this
           exact Ne.symm this
         have hvt:=(hlit t0 ht0).vr_lt
         have hl4:=I4.tr.llen
         have a1:lv (st4.assign t0 (some r)).level t0=st4.limits.length:=lv_set_self (by omega)
         have a2:lv (st4.assign t0 (some r)).level w=lv st4.level w:=lv_set hwt
         rw [a1,a2,f4l,List.length_take]
         have:lv st4.level w=lv st2.level w:=by rw [e4]; rfl
         rw [this,hlv1 w q1]
         omega
   rw [ej]
   have ebud:bud n ((st4.add r lits).assign t0 (some r))=bud n (st4.assign t0 (some r)):=rfl
   refine ⟨⟨⟨I5.tr,I5.wlen,I5.stp,I5.imp⟩,⟨st2.limits[back],f4h,hWj⟩,?_,?_,?_⟩,?_⟩
   · intro c hc l hl
     rcases C5 c hc l hl with ⟨q,q1,q2⟩ | q
     · exact .inl ⟨q,List.mem_append_left _ q1,q2⟩
     · exact .inr q
   · show st4.steps.length + _≤C
     rw [ebud,f4s]; omega
   · show (st4.clauses ++ [r]).length + _≤C
     rw [ebud,f4c,List.length_append]
     show st.clauses.length + 1 + _≤C
     omega
   · rw [ebud]; omega
 · have ej:st2.jumped r lits step back=st4.assign t0 (some r):=by
     unfold St.jumped
     rw [if_neg h1,hhd,hst4]
   rw [ej]
   refine ⟨⟨I5,⟨st2.limits[back],f4h,by rw [← f4W] at W5; exact W5⟩,C5,?_,?_⟩,by omega⟩
   · show st4.steps.length + _≤C
     rw [f4s]; omega
   · show st4.clauses.length + _≤C
     rw [f4c]; omega
def St.limit (st:St):St:={ st with limits:=st.limits ++ [st.trail.length] }
theorem Inv.decide {F:Fm} {n:Nat} {st:St} (h:Inv F n st) {x:Int} (hx:LitN n x) (h1:x ∉ st.trail) (h2:-x ∉ st.trail):Inv F n (st.limit.assign x none):=by
 have hT:=h.tr.decide hx h1 h2
 refine ⟨?_,by show (st.why.set _ _).length=n; rw [List.length_set]; exact h.wlen,h.stp,fun pre y post e hl => ?_⟩
 · show Tr n (st.value.set _ _) (st.level.set _ (st.limits ++ [st.trail.length]).length) (st.trail ++ [x]) (st.limits ++ [st.trail.length])
   rw [List.length_append]
   exact hT
 · replace e:st.trail ++ [x]=pre ++ y :: post:=e
   replace hl:pre.length ∉ st.limits ++ [st.trail.length]:=hl
   rcases snoc_split e with ⟨_,e2,_⟩ | ⟨p',_,e'⟩
   · rw [e2] at hl
     exact absurd (List.mem_append_right _ (by simp)) hl
   · obtain ⟨r,rc,q1,q2,q3,q4⟩:=h.imp pre y p' e' fun hm => hl (List.mem_append_left _ hm)
     refine ⟨r,rc,?_,q2,q3,q4⟩
     show (st.why.set _ _)[vr y]?=_
     rw [List.getElem?_set_ne]
     · exact q1
     · intro e1
       have hy:y ∈ st.trail:=by rw [e']; simp
       rcases vr_eq hx.1 (h.tr.lit y hy).1 e1 with rfl | rfl
       · exact h1 hy
       · exact h2 hy
theorem WI.decide {n:Nat} {st:St} {W:List (List Int)} (h:WI n st W st.trail.length) (hT:Tr n st.value st.level st.trail st.limits) {x:Int} (hx:LitN n x) (h1:x ∉ st.trail) (h2:-x ∉ st.trail):WI n (st.limit.assign x none) W st.trail.length:=by
 have key:∀ y ∈ st.trail,lv (st.limit.assign x none).level y=lv st.level y:=by
   intro y hy
   refine lv_set fun e => ?_
   rcases vr_eq hx.1 (hT.lit y hy).1 e.symm with rfl | rfl
   · exact h1 hy
   · exact h2 hy
 refine ⟨h.wl,h.nd,h.cl,h.back,h.mem,fun q hq rc hrc w o hw hm => ?_,?_,fun q hq => ?_⟩
 · replace hm:-w ∈ (st.trail ++ [x]).take st.trail.length:=hm
   rw [List.take_append_of_le_length (Nat.le_refl _)] at hm
   obtain ⟨q1,q2⟩:=h.ok q hq rc hrc w o hw hm
   refine ⟨List.mem_append_left _ q1,?_⟩
   have:=key _ (List.mem_of_mem_take hm)
   rw [lv_neg,lv_neg] at this
   rw [key o q1,this]
   exact q2
 · show st.trail.length≤(st.trail ++ [x]).length
   simp
 · replace hq:q ∈ st.limits ++ [st.trail.length]:=hq
   rcases List.mem_append.1 hq with hq | hq
   · exact h.lim q hq
   · rw [List.mem_singleton] at hq; omega
theorem bud_decide {n:Nat} {st:St} (hT:Tr n st.value st.level st.trail st.limits) {x:Int} (hL:st.trail.length < n):bud n (st.limit.assign x none)≤bud n st:=by
 unfold bud
 have e1:(st.limit.assign x none).limits=st.limits ++ [st.trail.length]:=rfl
 have e2:(st.limit.assign x none).trail.length=st.trail.length + 1:=by show (st.trail ++ [x]).length=_; simp
 rw [e1,e2,List.length_append]
 have key:∀ d,d≤st.limits.length→∀ L,bu n (fun i => (st.limits ++ [st.trail.length]).getD i 0) d L=bu n (fun i => st.limits.getD i 0) d L:=by
   intro d
   induction d with
   | zero => intro _ L; rfl
   | succ i ih =>
     intro hi L
     have:(st.limits ++ [st.trail.length]).getD i 0=st.limits.getD i 0:=by
       rw [List.getD_eq_getElem?_getD,List.getD_eq_getElem?_getD,List.getElem?_append_left (by omega)]
     rw [bu,bu]
     rw [this,ih (by omega)]
 have h:=bu_dec (n:=n) (p:=fun i => (st.limits ++ [st.trail.length]).getD i 0) (d:=st.limits.length) (L:=st.trail.length) hL (by simp) fun i hi => by
   show (st.limits ++ [st.trail.length]).getD i 0 < _
   rw [List.getD_eq_getElem?_getD,List.getElem?_append_left hi,← List.getD_eq_getElem?_getD]
   exact hT.limD.1 i hi
 rw [key st.limits.length (Nat.le_refl _)] at h
 exact h
theorem Cov.decide {F:Fm} {n:Nat} {a:St} (h:Cov F a) (hT:Tr n a.value a.level a.trail a.limits) {x:Int} (hx:LitN n x) (h1:x ∉ a.trail) (h2:-x ∉ a.trail):Cov F (a.limit.assign x none):=by
 intro c hc l hl
 rcases h c hc l hl with ⟨r,q1,q2⟩ | ⟨y,q1,q2,q3⟩
 · exact .inl ⟨r,q1,q2⟩
 · refine .inr ⟨y,q1,List.mem_append_left _ q2,?_⟩
   have:lv (a.limit.assign x none).level y=lv a.level y:=lv_set fun e => by
     rcases vr_eq hx.1 (hT.lit y q2).1 e.symm with rfl | rfl
     · exact h1 q2
     · exact h2 q2
   rw [this]; exact q3
theorem SI.decide {F:Fm} {n C:Nat} {st st1:St} (h:SI F n C st) (hp:PSame st st1) (hI:Inv F n st1) (hw:WI n st1 st1.W st1.trail.length) (hh:st1.head=st1.trail.length) {x:Int} (hx:LitN n x) (h1:x ∉ st1.trail) (h2:-x ∉ st1.trail) :
   SI F n C (st1.limit.assign x none)∧bud n (st1.limit.assign x none)≤bud n st∧st.trail.length < (st1.limit.assign x none).trail.length∧(st1.limit.assign x none).trail.length≤n:=by
 have hb:=bud_psame h.inv.tr hI.tr hp
 have I':=hI.decide hx h1 h2
 have htl:=I'.tr.len_le
 have e2:(st1.limit.assign x none).trail.length=st1.trail.length + 1:=by show (st1.trail ++ [x]).length=_; simp
 have hd:=bud_decide (x:=x) hI.tr (by omega)
 refine ⟨⟨I',⟨st1.trail.length,hh,hw.decide hI.tr hx h1 h2⟩,(h.cov.psame hp).decide hI.tr hx h1 h2,?_,?_⟩,by omega,by omega,by omega⟩
 · have:=h.sb
   show st1.steps.length + _≤C
   rw [hp.steps]; omega
 · have:=h.cb
   show st1.clauses.length + _≤C
   rw [hp.clauses]; omega
theorem Tr.lims_le {n:Nat} {value:List Int} {level:List Nat} {trail:List Int} {limits:List Nat} (h:Tr n value level trail limits):limits.length≤n:=by
 have hn:limits.Nodup:=h.srt.imp fun hab => by omega
 have:=hn.length_le_of_subset (l₂:=List.range n) fun v hv => List.mem_range.2 (by have:=h.lim v hv; have:=h.len_le; omega)
 simpa using this
end Go.Sv
namespace Go.Proofs.Ythfnjogadngfiaa
open Go.Sl Go.Sv
theorem _root_.Go.Sv.SI.size {F:Fm} {n C:Nat} {st:St} (hn:n≤1024) (hC:C≤5000000000000) (hI:Inv F n st) {p:Nat} (hw:WI n st st.W p) (hc:st.clauses.length≤C):JSize n st :=
 ⟨hn,hI.tr.vlen,hI.tr.llen,hI.wlen,hw.wl,hI.tr.lit,hI.tr.len_le,fun q hq => Nat.le_of_lt (hI.tr.lim q hq),hI.tr.lims_le,by omega,fun e he => by have:=hw.small e he; omega⟩
theorem Rep.limit {σ:PH} {T:Nat→Tag} {s:Nat} {ff:List Value} {st:St} (h:Rep σ T s ff st) (hn:st.limits.length≤1000000) {b:Nat} (hb:σ b=none):∃ a n c,σ.cell? ((ptr s).add 12)=some (.slice a n c)∧∀ {Q:Value→PH→Prop},
   (∀ a' n' c' τ,(∃ u,τ.cell? ((ptr s).add 12)=some u)→τ.froz ((ptr s).add 12)=some false→(∃ T',Rep (τ.setCell ((ptr s).add 12) (.slice a' n' c')) T' s ff st.limit∧Did σ T (τ.setCell ((ptr s).add 12) (.slice a' n' c')) T')→Q (.slice a' n' c') τ) →
   iappend prog 3 (.slice a n c) (.slice (some ⟨b,0,none⟩) 1 1) Q (σ.set b (.cells #[.int .i64 (st.trail.length:Nat)] 3)):=by
 obtain ⟨g,H,hff,A⟩:=h
 have n12:=H.n12 A
 refine ⟨_,_,_,H.field (k:=12) rfl,fun {Q} hQ => ?_⟩
 obtain ⟨T4,H4,D4,_⟩:=H.fresh hb (.cells #[.int .i64 (st.trail.length:Nat)] 3)
 refine H4.appendF (k:=12) rfl (by decide) t3.1 t3.2.1 t3.2.2 rfl (by decide) (news:=[.int .i64 (st.trail.length:Nat)]) ?_ rfl ?_ (by omega) ?_
 · exact rowAt_of (b:=b) (arr:=#[.int .i64 (st.trail.length:Nat)]) (e:=3) (f:=(0,0)) (by unfold PH.set; rw [if_pos rfl]) _ 0 0 (fun j v hv => by simpa using hv)
 · intro v hv; simp at hv; subst hv; trivial
 · rintro a' c' τ q1 q2 ⟨T5,H5,D5⟩
   refine hQ _ _ _ τ q1 q2 ⟨T5,⟨_,H5,hff,⟨A.steps,A.clauses,A.W,A.value,A.level,A.why,A.trail,?_,A.head,A.act,A.empty,A.units,A.R⟩⟩,D4.trans D5⟩
   show g.V 12 ++ _=nats (st.limits ++ [st.trail.length])
   rw [A.limits]; simp [nats]
theorem r56 {F:Fm} {n s C0:Nat} {ff:List Value} (hF:FOk F) (hn:n=F.bools) (hC0:C0≤3400000000000) {Q:Value→PH→Prop} {σ:PH} {T:Nat→Tag} {st:St} (hRep:Rep σ T s ff st) (hf:Frm (oth σ T) ff F) (hS:SI F n C0 st)
   (htrue:∀ τ T' st' (x:Nat→Int),Did σ T τ T'→Rep τ T' s ff st'→Inv F n st'→WI n st' st'.W st'.trail.length→Cov F st'→(∀ i,i < n→st'.value[i]? ≠ some 0)→(∀ y ∈ st'.trail,∀ d,bound F y=some d→x (dX d) - x (dY d)≤d.2.2)→Q (.bool true) τ)
   (hfalse:∀ τ T' st' cs,Did σ T τ T'→Rep τ T' s ff st'→stepsOf F st'.steps=some cs→cs.getLast?=some []→st'.steps.length≤3500000000000→Q (.bool false) τ) :
   C 56 #[.pointer (some (ptr s)),.func (.func 57) #[.pointer (some (ptr s))] #[]] Q σ:=by
 refine go (E56_0 _ _ _ _ _) ?_
 unfold S56_0 S56_1
 have hnb:=hF.bools
 refine iloopS_ind (fun m x υ => x=(some (ptr s),ptr s)∧∃ T1 st1,Did σ T υ T1∧Rep υ T1 s ff st1∧SI F n C0 st1∧m=bud n st1 * (n + 1) + (n - st1.trail.length)) ?_ (n:=bud n st * (n + 1) + (n - st.trail.length)) ⟨rfl,T,st,.refl _ _,hRep,hS,rfl⟩
 rintro m _ υ ⟨rfl,T1,st1,D1,R1,S1,rfl⟩ R hR
 unfold S56_2
 obtain ⟨p1,hp1,W1⟩:=S1.wi
 have hsb:=S1.sb
 have hcb:=S1.cb
 have hf1:=hf.sub D1.oth
 refine r57 hF hn S1.inv (by omega) R1 hf1 hp1 W1 (fun τ T2 st2 x D2 R2 P2 I2 W2 h2 hx => ?_) fun τ T2 st2 r rc p D2 R2 P2 I2 W2 hr hfl => ?_
 · refine ⟨τ,PH.sub.refl _,_,rfl,br_iff.2 ⟨fun h => (by cases h),fun _ => ?_⟩⟩
   have D12:=D1.trans D2
   have hvl:=I2.tr.vlen
   refine (r79 R2 (hf1.sub D2.oth) (by omega)).mono hb ?_
   rintro _ τ' ⟨eτ,y,rfl,hy⟩
   obtain rfl:=eτ.symm
   refine ⟨_,PH.sub.refl _,y,rfl,br_iff.2 ⟨fun h0 => ?_,fun h0 => ?_⟩⟩
   · have h0:y=0:=by simpa using h0
     rcases hy with ⟨_,hall⟩ | ⟨q,_⟩
     · exact htrue _ T2 st2 x D12 R2 I2 W2 (S1.cov.psame P2) (fun i hi => hall i (by omega)) hx
     · exact absurd h0 q.1
   · have h0:y ≠ 0:=by simpa using h0
     obtain ⟨hyl,hyv⟩:LitN n y∧st2.value[vr y]?=some 0:=by
       rcases hy with ⟨q,_⟩ | ⟨q1,q2⟩
       · exact absurd q h0
       · exact ⟨by rw [← hvl]; exact q1,q2⟩
     have hz:Go.Sv.valS st2.value y=0:=by
       have:=hyl.vr_lt
       obtain ⟨g1,g2⟩:=hyl
       unfold Go.Sv.valS
       unfold vr at hyv
       split
       · rw [List.getD_eq_getElem?_getD,show (y - 1).toNat=y.natAbs - 1 from by omega,hyv]; rfl
       · split
         · rw [List.getD_eq_getElem?_getD,show (-y - 1).toNat=y.natAbs - 1 from by omega,hyv]; rfl
         · rfl
     obtain ⟨n1,n2⟩:=(I2.tr.zero hyl).1 hz
     obtain ⟨S3,b3,t3',t4⟩:=S1.decide P2 I2 W2 h2 hyl n1 n2
     obtain ⟨ta,tc,t11,_,_⟩:=R2.trail
     have hll:=I2.tr.lims_le
     have e1:=I2.tr.llen
     have e2:=I2.wlen
     have e3:=I2.tr.len_le
     have hvy:=hyl.vr_lt
     obtain ⟨la,ln,lc,c12,_⟩:∃ a n c,τ.cell? ((ptr s).add 12)=some (.slice a n c)∧True:=by
       obtain ⟨g,H,_,_⟩:=R2
       exact ⟨_,_,_,H.field (k:=12) rfl,trivial⟩
     refine ⟨_,rfl,_,c12,_,_,_,rfl,_,rfl,_,t11,_,_,_,rfl,fun b hbn => ?_⟩
     obtain ⟨la',ln',lc',c12',happ⟩:=R2.limit (by omega) hbn
     rw [c12] at c12'
     cases c12'
     refine happ fun a' n' c' τ3 u3 f3 ⟨T3,R3,D3⟩ => ⟨_,_,_,rfl,_,rfl,u3,f3,?_⟩
     refine (r54 R3 (litN hyl (by omega)) hyl.1 none (by show vr y < st2.value.length; omega) (by show st2.level.length=st2.value.length; omega) (by show st2.why.length=st2.value.length; omega) (by show st2.trail.length≤_; omega)).mono hb ?_
     rintro _ τ4 ⟨rfl,T4,D4,R4⟩
     refine ⟨_,PH.sub.refl _,rfl,hR _ _ _ ?_ ⟨rfl,T4,_,(D12.trans D3).trans D4,R4,S3,rfl⟩⟩
     have:=Nat.mul_le_mul_right (n + 1) b3
     omega
 · refine ⟨τ,PH.sub.refl _,_,rfl,br_iff.2 ⟨fun _ => ?_,fun h => (by cases h)⟩⟩
   have D12:=D1.trans D2
   have hbp:=bud_psame S1.inv.tr I2.tr P2
   have hst2:st2.steps.length + bud n st2≤C0:=by rw [P2.steps]; omega
   have hcl2:st2.clauses.length + bud n st2≤C0:=by rw [P2.clauses]; omega
   have z:=SI.size (by omega) (by omega:C0≤5000000000000) I2 W2 (by omega)
   refine (r78 R2 I2 z hr hfl (by omega)).mono hb ?_
   rintro v τ3 ⟨T3,st3,D3,R3,hv⟩
   rcases hv with ⟨rfl,hm0,rfl⟩ | ⟨rfl,hL⟩
   · refine ⟨_,PH.sub.refl _,_,rfl,br_iff.2 ⟨fun _ => ?_,fun h => (by cases h)⟩⟩
     have I3:=I2.undo 0
     have hlim3:(st2.undo 0).limits=[]:=by
       unfold St.undo
       split
       · show st2.limits.take 0=[]; simp
       · rename_i h; exact List.length_eq_zero_iff.1 (by omega)
     have hR3:(st2.undo 0).R r=some rc:=by
       unfold St.undo
       split
       · exact hr
       · exact hr
     have hs3:(st2.undo 0).steps=st2.steps:=by unfold St.undo; split <;> rfl
     have hfl3:∀ l ∈ rc.lits,-l ∈ (st2.undo 0).trail:=by
       intro l hl
       have h0:=maxLv_le (level:=st2.level) hl
       by_cases hj:0 < st2.limits.length
       · have e:st2.undo 0=st2.undoTo 0 st2.limits[0]:=by unfold St.undo; rw [dif_pos hj]
         rw [e]
         exact (I2.tr.lv_take hj (hfl l hl)).1 (by rw [lv_neg]; omega)
       · have e:st2.undo 0=st2:=by unfold St.undo; rw [dif_neg hj]
         rw [e]; exact hfl l hl
     have htl3:=I3.tr.len_le
     obtain ⟨cs,hcs,hG⟩:=I2.stp
     have hrl:=RGood.len_le (hG r rc hr)
     refine (r55 R3 (by omega) I3 hlim3 hR3 hfl3 htl3 (by rw [hs3]; omega) (by omega)).mono hb ?_
     rintro _ τ4 ⟨rfl,T4,st4,D4,R4,_,hst4,cs4,hcs4,hlast⟩
     refine ⟨_,PH.sub.refl _,rfl,hfalse _ T4 st4 cs4 ((D12.trans D3).trans D4) R4 hcs4 hlast ?_⟩
     rw [hs3] at hst4
     omega
   · refine ⟨_,PH.sub.refl _,_,rfl,br_iff.2 ⟨fun h => (by cases h),fun _ => ?_⟩⟩
     obtain ⟨S3,b3⟩:=hL.next (by omega) I2 W2 (S1.cov.psame P2) hst2 hcl2
     refine hR _ _ _ ?_ ⟨rfl,T3,st3,D12.trans D3,R3,S3,rfl⟩
     have hb':bud n st3 + 1≤bud n st1:=by omega
     have:=Nat.mul_le_mul_right (n + 1) hb'
     rw [Nat.add_mul] at this
     omega
end Go.Proofs.Ythfnjogadngfiaa
namespace Go.Sv
theorem Tr.val_cases {n:Nat} {value:List Int} {level:List Nat} {trail:List Int} {limits:List Nat} (h:Tr n value level trail limits) {x:Int} (hx:LitN n x):valS value x=-1 ∨ valS value x=0 ∨ valS value x=1:=by
 have hv:=h.val (vr x) hx.vr_lt
 have hl:=h.vlen
 obtain ⟨h1,h2⟩:=hx
 have hs:sg trail (vr x)=1 ∨ sg trail (vr x)=-1 ∨ sg trail (vr x)=0:=by
   unfold sg
   split
   · exact .inl rfl
   · split
     · exact .inr (.inl rfl)
     · exact .inr (.inr rfl)
 unfold valS
 unfold vr at hv hs
 split
 · rw [List.getD_eq_getElem?_getD,show (x - 1).toNat=x.natAbs - 1 from by omega,hv]
   simp only [Option.getD_some]; omega
 · split
   · rw [List.getD_eq_getElem?_getD,show (-x - 1).toNat=x.natAbs - 1 from by omega,hv]
     simp only [Option.getD_some]; omega
   · exact .inr (.inl rfl)
structure New (F:Fm) (n:Nat) (st:St):Prop where
 inv:Inv F n st
 wi:WI n st st.W 0
 head:st.head=0
 trail:st.trail=[]
 limits:st.limits=[]
 empty:∀ r,st.empty=some r→∃ rc,st.R r=some rc∧0≤rc.step∧rc.lits=[]
 units:∀ r ∈ st.units,∃ rc x,st.R r=some rc∧rc.lits=[x]
 cov:∀ c ∈ F.clauses,∀ l,norm c=some l→(∃ r ∈ st.clauses,∃ rc,st.R r=some rc∧∀ x,x ∈ rc.lits ↔ x ∈ l) ∨ (∃ r ∈ st.units,∃ rc,st.R r=some rc∧rc.lits=l) ∨ (l=[]∧st.empty ≠ none)
 sn:st.steps.length≤F.clauses.length
 cn:st.clauses.length≤F.clauses.length
 un:st.units.length≤F.clauses.length
structure Uni (F:Fm) (n:Nat) (st st1:St) (k:Nat):Prop where
 inv:Inv F n st1
 wi:WI n st1 st1.W 0
 ps:PSame st st1
 R:st1.R=st.R
 head:st1.head=0
 don:∀ r ∈ st.units.take k,∀ rc x,st.R r=some rc→rc.lits=[x]→x ∈ st1.trail
theorem New.start {F:Fm} {n:Nat} {st:St} (h:New F n st):Uni F n st st 0:=⟨h.inv,h.wi,.refl _,rfl,h.head,by simp⟩
theorem Uni.skip {F:Fm} {n:Nat} {st st1:St} {k r:Nat} {rc:RC} {x:Int} (h:Uni F n st st1 k) (hk:st.units[k]?=some r) (hr:st.R r=some rc) (hx:rc.lits=[x]) (hm:x ∈ st1.trail):Uni F n st st1 (k + 1):=by
 refine ⟨h.inv,h.wi,h.ps,h.R,h.head,fun q hq rc' y hr' hy => ?_⟩
 rw [List.take_add_one,hk] at hq
 rcases List.mem_append.1 hq with hq | hq
 · exact h.don q hq rc' y hr' hy
 · have:q=r:=by simpa using hq
   subst this
   rw [hr] at hr'; cases hr'
   rw [hx] at hy; cases hy
   exact hm
theorem Uni.assign {F:Fm} {n:Nat} {st st1:St} {k r:Nat} {rc:RC} {x:Int} (h:Uni F n st st1 k) (hk:st.units[k]?=some r) (hr:st.R r=some rc) (hx:rc.lits=[x]) (hl:LitN n x) (h1:x ∉ st1.trail) (h2:-x ∉ st1.trail):Uni F n st (st1.assign x (some r)) (k + 1):=by
 have hr1:st1.R r=some rc:=by rw [h.R]; exact hr
 have base:Uni F n st (st1.assign x (some r)) k:=by
   refine ⟨h.inv.assign hl h1 h2 hr1 (by rw [hx]; simp) (by rw [hx]; intro y hy hne; simp at hy; exact absurd hy hne),h.wi.assign h.inv.tr hl h1 h2 _,h.ps.trans (PSame.assign h.inv.tr hl h1 h2 _),h.R,h.head,fun q hq rc' y hr' hy => List.mem_append_left _ (h.don q hq rc' y hr' hy)⟩
 exact base.skip hk hr hx (List.mem_append_right _ (by simp))
theorem Uni.done {F:Fm} {n:Nat} {st st1:St} (h:Uni F n st st1 st.units.length) (hN:New F n st) (he:st.empty=none) (hc:F.clauses.length≤32768):SI F n (3 * 2 ^ n + 32768) st1:=by
 have hb:=bud_psame hN.inv.tr h.inv.tr h.ps
 have hb0:bud n st=3 * 2 ^ n - 2:=by
   unfold bud
   rw [hN.limits,hN.trail]
   show bu n _ 0 0=_
   unfold bu
   rw [Nat.sub_zero]; omega
 have:=hN.sn
 have:=hN.cn
 have hp:=pow_pos' n
 refine ⟨h.inv,⟨0,h.head,h.wi⟩,fun c hcm l hl => ?_,?_,?_⟩
 · rcases hN.cov c hcm l hl with ⟨r,q1,rc,q2,q3⟩ | ⟨r,q1,rc,q2,q3⟩ | ⟨_,q⟩
   · exact .inl ⟨r,by rw [h.ps.clauses]; exact q1,rc,by rw [h.R]; exact q2,q3⟩
   · right
     obtain ⟨rc',x,q4,q5⟩:=hN.units r q1
     rw [q2] at q4; cases q4
     have hm:=h.don r (by rw [List.take_length]; exact q1) rc x q2 q5
     refine ⟨x,by rw [← q3,q5],hm,?_⟩
     have:=h.inv.tr.lv_le hm
     rw [h.ps.limits,hN.limits] at this
     simpa using this
   · exact absurd he q
 · rw [h.ps.steps]; omega
 · rw [h.ps.clauses]; omega
end Go.Sv
namespace Go.Proofs.Ythfnjogadngfiaa
open Go.Sl Go.Sv
theorem cellsOf_16 {g:Low} (hff:g.ff.length=4):(cellsOf g)[16]?=some (.pointer g.empty):=by
 obtain ⟨ff,F,V,inp,es,clock,head,bump,empty,W,R⟩:=g
 match ff,hff with
 | [a,b,c,d],_ => rfl
theorem Rep.mty {σ:PH} {T:Nat→Tag} {s:Nat} {ff:List Value} {st:St} (h:Rep σ T s ff st):σ.cell? ((ptr s).add 16)=some (.pointer (st.empty.map ptr)):=by
 obtain ⟨g,H,hff,A⟩:=h
 rw [← A.empty]
 exact H.blk.get (cellsOf_16 H.ff)
theorem r37 {F:Fm} {n s:Nat} {ff:List Value} (hF:FOk F) (hn:n=F.bools) (h40:n≤40) {Q:Value→PH→Prop} {σ:PH} {T:Nat→Tag} {st:St} (hRep:Rep σ T s ff st) (hf:Frm (oth σ T) ff F) (hN:New F n st)
   (htrue:∀ τ T' st' (x:Nat→Int),Did σ T τ T'→Rep τ T' s ff st'→Inv F n st'→WI n st' st'.W st'.trail.length→Cov F st'→(∀ i,i < n→st'.value[i]? ≠ some 0)→(∀ y ∈ st'.trail,∀ d,bound F y=some d→x (dX d) - x (dY d)≤d.2.2)→Q (.bool true) τ)
   (hfalse:∀ τ T' st' cs,Did σ T τ T'→Rep τ T' s ff st'→stepsOf F st'.steps=some cs→cs.getLast?=some []→st'.steps.length≤3500000000000→Q (.bool false) τ) :
   C 37 #[.pointer (some (ptr s))] Q σ:=by
 refine go (E37_0 _ _ _ _) ?_
 unfold S37_0
 have hcl:=hF.cn
 have hsn:=hN.sn
 obtain ⟨cs,hcs,hG⟩:=hN.inv.stp
 have hlen:=stepsOf_len hcs
 refine ⟨_,rfl,_,hRep.mty,_,rfl,br_iff.2 ⟨fun he => ?_,fun he => ?_⟩⟩
 · cases hem:st.empty with
   | none => rw [hem] at he; cases he
   | some r =>
     obtain ⟨rc,hr,hpos,hnil⟩:=hN.empty r hem
     obtain ⟨c,hc1,hc2⟩:=(hG r rc hr).der hpos
     have hcn:c=[]:=nil_of fun x hx => by have:=(hc2 x).1 hx; rw [hnil] at this; simp at this
     subst hcn
     have hlt:=(List.getElem?_eq_some_iff.1 hc1).1
     have hp4:st.steps[rc.step.toNat]?=some st.steps[rc.step.toNat]:=List.getElem?_eq_getElem (by omega)
     obtain ⟨sl,sc,hB,_⟩:=hRep.R_blk hr
     obtain ⟨g,x,H,hff,A,hx,hn4,q,hq,c0,c1,c2,c3,c4',c5⟩:=copyStep hRep hp4
     have hmty:=hRep.mty
     rw [hem] at hmty
     refine ⟨_,rfl,_,H.field (k:=4) rfl,_,_,_,rfl,_,rfl,_,H.field (k:=4) rfl,_,_,_,rfl,_,rfl,_,hmty,_,rfl,_,rfl,_,hB.get (i:=1) rfl,_,rfl,q,hq,hpos,by rw [hn4]; omega,_,c0,_,c1,_,c2,_,c3,_,c4',_,c5,_,_,_,_,_,_,_,_,rfl,fun b hbn => ?_⟩
     obtain ⟨T6,H6,D6,_⟩:=H.fresh hbn (.cells x.cells.toArray 95)
     refine pushStep H6 hff A x hx (by omega) (b:=b) (by unfold PH.set; rw [if_pos rfl]) ?_
     rintro a' c' τ q1 q2 ⟨T7,R7,D7⟩
     obtain ⟨c',hc1',hc2'⟩:=stepsOf_at hcs hp4
     rw [hc1] at hc1'; cases hc1'
     refine ⟨_,_,_,rfl,_,rfl,q1,q2,hfalse _ T7 _ _ (D6.trans D7) R7 (stepsOf_snoc hcs hc2') (by simp) ?_⟩
     show (st.steps ++ [_]).length≤_
     rw [List.length_append,List.length_singleton]; omega
 · have hem:st.empty=none:=by
     cases h:st.empty with
     | none => rfl
     | some r => rw [h] at he; cases he
   obtain ⟨g0,H0,hff0,A0⟩:=hRep
   have n17:=H0.n17 A0
   obtain ⟨⟨ua,un,uc⟩,eu⟩:∃ sl,g0.F 17=sl:=⟨_,rfl⟩
   have c17:=H0.field (k:=17) rfl
   rw [eu] at c17 n17
   dsimp only at n17 c17
   subst n17
   have hun:=hN.un
   have hnb:=hF.bools
   refine ⟨_,rfl,_,c17,_,_,_,rfl,?_⟩
   unfold S37_1
   refine iloopS_for (G:=Unit) (fun k _ => (some (ptr s),ua,st.units.length,uc,(st.units.length:Int),(k:Int))) (fun k _ υ => ∃ T1 g1 st1,Did σ T υ T1∧Sol υ T1 s g1∧g1.ff=ff∧Abs g1 st1∧g1.F 17=⟨ua,st.units.length,uc⟩∧Uni F n st st1 k) st.units.length ?_ (g:=()) ⟨T,g0,st,.refl _ _,H0,hff0,A0,eu,hN.start⟩
   rintro k _ υ hk ⟨T1,g1,st1,D1,H1,hff1,A1,hF17,U1⟩ R hR
   have R1:Rep υ T1 s ff st1:=⟨g1,H1,hff1,A1⟩
   have O1:=H1.fld 17 84 1 rfl
   rw [hF17,A1.units,U1.ps.units] at O1
   unfold S37_2
   dsimp only
   have I1:=U1.inv
   have hsm:=Tr.lits_small I1.tr
   refine br_dec.2 ⟨fun hlt => ?_,fun hge => ?_⟩
   · have hkl:k < st.units.length:=by omega
     obtain ⟨r,hr⟩:∃ r,st.units[k]?=some r:=⟨_,List.getElem?_eq_getElem hkl⟩
     obtain ⟨rc,x,hrc,hx⟩:=hN.units r (List.mem_of_getElem? hr)
     have hrc1:st1.R r=some rc:=by rw [U1.R]; exact hrc
     obtain ⟨p,hp,hcp⟩:=O1.1.get (i:=k) (v:=.pointer (some (ptr r))) (by simp [ptrs,hr])
     obtain ⟨sl,sc,hB,hOl,_⟩:=R1.R_blk hrc1
     have hnl:=own_len hOl
     rw [hx] at hOl hnl
     obtain ⟨q,hq,hcq⟩:=hOl.get (i:=0) (v:=.int .i64 x) rfl
     have e0:(Addr.mk r 0 none).add 0=⟨r,0,none⟩:=rfl
     have z0:Int.toNat (0:Int) * 1=0:=rfl
     have cr:υ.cell? (ptr r)=some (.slice sl.a sl.n sl.c):=by
       have:=hB.get (i:=0) rfl
       rw [e0] at this; exact this
     have hxl:LitN n x:=(hG r rc hrc).lit x (by rw [hx]; simp)
     have wk:IntKind.wrap .i64 ((k:Int) + 1)=((k + 1:Nat):Int):=by rw [w64 (by omega) (by omega)]; omega
     simp only [z0]
     have hn1:sl.n=1:=hnl
     refine ⟨p,hp,by omega,by show (k:Int) < ((st.units.length:Nat):Int); omega,_,by rw [Int.toNat_natCast,Nat.mul_one]; exact hcp,_,rfl,_,rfl,_,cr,_,_,_,rfl,q,hq,by omega,by omega,_,hcq,x,rfl,(r53 R1 (litN hxl (by omega)) hsm).mono hb ?_⟩
     rintro _ τ ⟨rfl,eτ⟩
     obtain rfl:=eτ.symm
     refine ⟨_,PH.sub.refl _,_,rfl,br_iff.2 ⟨fun h0 => ?_,fun h0 => br_iff.2 ⟨fun h1 => ?_,fun h1 => ?_⟩⟩⟩
     · have h0:Go.Sv.valS st1.value x=0:=by simpa using h0
       obtain ⟨n1,n2⟩:=(I1.tr.zero hxl).1 h0
       have hvf:=hxl.vr_lt
       have e1:=I1.tr.vlen
       have e2:=I1.tr.llen
       have e3:=I1.wlen
       have e4:=I1.tr.len_le
       refine ⟨_,rfl,_,cr,_,_,_,rfl,q,hq,by omega,by omega,_,hcq,x,rfl,(r54h H1 A1 (litN hxl (by omega)) hxl.1 (some r) (by omega) (by omega) (by omega) (by omega)).mono hb ?_⟩
       rintro _ τ2 ⟨rfl,T2,g2,D2,H2,hff2,A2,_,hF2⟩
       rw [wk]
       exact ⟨_,PH.sub.refl _,rfl,hR () _ hkl ⟨T2,g2,_,D1.trans D2,H2,hff2.trans hff1,A2,hF2.trans hF17,U1.assign hr hrc hx hxl n1 n2⟩⟩
     · have h1:Go.Sv.valS st1.value x=-1:=by simpa using h1
       have hneg:=(I1.tr.neg hxl).1 (by omega)
       have hlim1:st1.limits=[]:=U1.ps.limits.trans hN.limits
       have htl:=I1.tr.len_le
       have hs1:st1.steps.length≤F.clauses.length:=by rw [U1.ps.steps]; exact hsn
       refine (r55 R1 (by omega) I1 hlim1 hrc1 (by rw [hx]; intro l hl; simp at hl; subst hl; exact hneg) htl (by omega) (by rw [hx]; simp)).mono hb ?_
       rintro _ τ4 ⟨rfl,T4,st4,D4,R4,_,hst4,cs4,hcs4,hlast⟩
       exact ⟨_,PH.sub.refl _,rfl,hfalse _ T4 st4 cs4 (D1.trans D4) R4 hcs4 hlast (by omega)⟩
     · have h0:Go.Sv.valS st1.value x ≠ 0:=by simpa using h0
       have h1:Go.Sv.valS st1.value x ≠ -1:=by simpa using h1
       have hc:=I1.tr.val_cases hxl
       have hpos:=(I1.tr.pos hxl).1 (by omega)
       rw [wk]
       exact hR () _ hkl ⟨T1,g1,st1,D1,H1,hff1,A1,hF17,U1.skip hr hrc hx hpos⟩
   · have hkn:k=st.units.length:=by omega
     subst hkn
     have hp:3 * 2 ^ n + 32768≤3400000000000:=by
       have:2 ^ n≤2 ^ 40:=Nat.pow_le_pow_right (by omega) h40
       omega
     refine r56 hF hn hp R1 (hf.sub D1.oth) (U1.done hN hem hcl) (fun τ T' st' x D' R' I' W' C' hv hx => ⟨τ,PH.sub.refl _,_,rfl,htrue τ T' st' x (D1.trans D') R' I' W' C' hv hx⟩) fun τ T' st' cs D' R' h1 h2 h3 => ⟨τ,PH.sub.refl _,_,rfl,hfalse τ T' st' cs (D1.trans D') R' h1 h2 h3⟩
end Go.Proofs.Ythfnjogadngfiaa
namespace Go.Sv
structure NewK (F:Fm) (n:Nat) (st:St) (k m:Nat):Prop where
 inv:Inv F n st
 wi:WI n st st.W 0
 head:st.head=0
 trail:st.trail=[]
 limits:st.limits=[]
 empty:∀ r,st.empty=some r→∃ rc,st.R r=some rc∧0≤rc.step∧rc.lits=[]
 units:∀ r ∈ st.units,∃ rc x,st.R r=some rc∧rc.lits=[x]
 cov:∀ c ∈ F.clauses.take k,∀ l,norm c=some l→(∃ r ∈ st.clauses,∃ rc,st.R r=some rc∧∀ x,x ∈ rc.lits ↔ x ∈ l) ∨ (∃ r ∈ st.units,∃ rc,st.R r=some rc∧rc.lits=l) ∨ (l=[]∧st.empty ≠ none)
 sn:st.steps.length≤m
 cn:st.clauses.length≤k
 un:st.units.length≤k
theorem NewK.done {F:Fm} {n:Nat} {st:St} (h:NewK F n st F.clauses.length F.clauses.length):New F n st :=
 ⟨h.inv,h.wi,h.head,h.trail,h.limits,h.empty,h.units,fun c hc => h.cov c (by rw [List.take_length]; exact hc),h.sn,h.cn,h.un⟩
theorem NewK.start {F:Fm} {n:Nat} {st:St} (hv:st.value=List.replicate n 0) (hl:st.level=List.replicate n 0) (hw:st.why=List.replicate n none) (hW:st.W=List.replicate (2 * n) []) (hs:st.steps=[]) (hc:st.clauses=[]) (ht:st.trail=[]) (hlim:st.limits=[]) (hh:st.head=0) (he:st.empty=none) (hu:st.units=[]) (hR:∀ r,st.R r=none):NewK F n st 0 0:=by
 refine ⟨⟨⟨?_,?_,?_,?_,?_,?_,?_,?_⟩,?_,⟨[],?_,?_⟩,?_⟩,⟨?_,?_,?_,?_,?_,?_,?_,?_⟩,hh,ht,hlim,?_,?_,?_,?_,?_,?_⟩
 · rw [hv]; simp
 · rw [hl]; simp
 · rw [ht]; simp
 · intro pre x post e; rw [ht] at e; simp at e
 · intro i hi
   rw [hv,ht]
   simp [hi,sg]
 · intro pre x post e; rw [ht] at e; simp at e
 · rw [hlim]; exact .nil
 · rw [hlim]; simp
 · rw [hw]; simp
 · rw [hs]; rfl
 · intro r rc hr; rw [hR] at hr; cases hr
 · intro pre x post e; rw [ht] at e; simp at e
 · rw [hW]; simp
 · rw [hc]; exact .nil
 · rw [hc]; simp
 · intro j l hj
   rw [hW] at hj
   have:=List.mem_of_getElem? hj
   rw [List.mem_replicate] at this
   rw [this.2]; simp
 · intro x hx l hl' i r rc hi; rw [hc] at hi; simp at hi
 · rw [hc]; simp
 · simp
 · rw [hlim]; simp
 · intro r hr; rw [he] at hr; cases hr
 · rw [hu]; simp
 · simp
 · rw [hs]; simp
 · rw [hc]; simp
 · rw [hu]; simp
theorem NewK.skip {F:Fm} {n:Nat} {st:St} {k:Nat} (h:NewK F n st k k) {c:List Int} (hk:F.clauses[k]?=some c) (hc:norm c=none):NewK F n st (k + 1) (k + 1):=by
 refine ⟨h.inv,h.wi,h.head,h.trail,h.limits,h.empty,h.units,fun d hd l hl => ?_,by have:=h.sn; omega,by have:=h.cn; omega,by have:=h.un; omega⟩
 rw [List.take_add_one,hk] at hd
 rcases List.mem_append.1 hd with hd | hd
 · exact h.cov d hd l hl
 · have:d=c:=by simpa using hd
   subst this
   rw [hc] at hl; cases hl
theorem NewK.base {F:Fm} {n:Nat} {st:St} {k:Nat} (h:NewK F n st k k) {c out:List Int} (hk:F.clauses[k]?=some c) (hc:norm c=some out) (hl:∀ x ∈ c,LitN n x) {r:Nat} (hr:st.R r=none) :
   NewK F n ((st.step (pInput k)).setR r ⟨out,st.steps.length,[]⟩) k (k + 1)∧(∀ x ∈ out,LitN n x)∧(out.Pairwise fun a b => vr a ≠ vr b):=by
 obtain ⟨h1,h2,h3⟩:=norm_some hc
 have hlit:∀ x ∈ out,LitN n x:=fun x hx => hl x ((h2 x).1 hx)
 have hd:out.Pairwise fun a b => vr a ≠ vr b:=by
   refine List.Pairwise.imp_of_mem ?_ h1
   intro a b ha hb hab
   have:=(hlit a ha).1
   have:=(hlit b hb).1
   unfold vr; omega
 obtain ⟨cs,hcs,hG⟩:=h.inv.stp
 have hlen:=stepsOf_len hcs
 have hstep:stepClause F cs (pInput k)=some out:=by
   unfold stepClause pInput
   dsimp only
   rw [if_pos rfl,if_pos (by omega),Int.toNat_natCast,hk]
   exact hc
 have hcs':=stepsOf_snoc hcs hstep
 have I1:Inv F n (st.step (pInput k)):=by
   refine ⟨h.inv.tr,h.inv.wlen,⟨_,hcs',fun q rc hq => (hG q rc hq).append _⟩,h.inv.imp⟩
 have hr1:(st.step (pInput k)).R r=none:=hr
 have I2:=I1.newR hr1 (rc:=⟨out,st.steps.length,[]⟩) fun cs' hcs2 => by
   replace hcs2:stepsOf F (st.steps ++ [pInput k])=some cs':=hcs2
   rw [hcs'] at hcs2; cases hcs2
   refine ⟨hlit,hd,fun _ => ⟨out,?_,fun _ => Iff.rfl⟩,fun h => by dsimp only at h; omega⟩
   dsimp only
   rw [Int.toNat_natCast,← hlen,List.getElem?_append_right (Nat.le_refl _)]
   simp
 have W1:WI n (st.step (pInput k)) st.W 0:=h.wi.same (step_same _ _)
 have W2:=W1.newR hr1 ⟨out,st.steps.length,[]⟩
 have old:∀ q rc,st.R q=some rc→((st.step (pInput k)).setR r ⟨out,st.steps.length,[]⟩).R q=some rc:=by
   intro q rc hq
   exact (if_neg (by rintro rfl; rw [hr] at hq; cases hq)).trans hq
 refine ⟨⟨I2,W2,h.head,h.trail,h.limits,fun q hq => ?_,fun q hq => ?_,fun d hd l hl => ?_,?_,h.cn,h.un⟩,hlit,hd⟩
 · obtain ⟨rc,q1,q2⟩:=h.empty q hq
   exact ⟨rc,old _ _ q1,q2⟩
 · obtain ⟨rc,x,q1,q2⟩:=h.units q hq
   exact ⟨rc,x,old _ _ q1,q2⟩
 · rcases h.cov d hd l hl with ⟨q,q1,rc,q2,q3⟩ | ⟨q,q1,rc,q2,q3⟩ | q
   · exact .inl ⟨q,q1,rc,old _ _ q2,q3⟩
   · exact .inr (.inl ⟨q,q1,rc,old _ _ q2,q3⟩)
   · exact .inr (.inr q)
 · show (st.steps ++ [_]).length≤_
   have:=h.sn
   rw [List.length_append,List.length_singleton]; omega
theorem covStep {F:Fm} {k:Nat} {c out:List Int} (hk:F.clauses[k]?=some c) (hc:norm c=some out) {P:List Int→Prop} (h:∀ d ∈ F.clauses.take k,∀ l,norm d=some l→P l) (hP:P out):∀ d ∈ F.clauses.take (k + 1),∀ l,norm d=some l→P l:=by
 intro d hd l hl
 rw [List.take_add_one,hk] at hd
 rcases List.mem_append.1 hd with hd | hd
 · exact h d hd l hl
 · have:d=c:=by simpa using hd
   subst this
   rw [hc] at hl; cases hl
   exact hP
def St.setEmpty (st:St) (r:Nat):St:={ st with empty:=some r }
def St.unit (st:St) (r:Nat):St:={ st with units:=st.units ++ [r] }
theorem NewK.toEmpty {F:Fm} {n:Nat} {st:St} {k:Nat} (h:NewK F n st k (k + 1)) {c:List Int} (hk:F.clauses[k]?=some c) (hc:norm c=some []) {r:Nat} {rc:RC} (hr:st.R r=some rc) (h0:0≤rc.step) (hl:rc.lits=[]):NewK F n (st.setEmpty r) (k + 1) (k + 1):=by
 refine ⟨⟨h.inv.tr,h.inv.wlen,h.inv.stp,h.inv.imp⟩,⟨h.wi.wl,h.wi.nd,h.wi.cl,h.wi.back,h.wi.mem,h.wi.ok,h.wi.hp,h.wi.lim⟩,h.head,h.trail,h.limits,fun q hq => ?_,h.units,covStep hk hc (fun d hd l hl' => ?_) (.inr (.inr ⟨rfl,by unfold St.setEmpty; simp⟩)),h.sn,by have:=h.cn; show st.clauses.length≤_; omega,by have:=h.un; show st.units.length≤_; omega⟩
 · cases hq
   exact ⟨rc,hr,h0,hl⟩
 · rcases h.cov d hd l hl' with q | q | q
   · exact .inl q
   · exact .inr (.inl q)
   · exact .inr (.inr ⟨q.1,by unfold St.setEmpty; simp⟩)
theorem NewK.toUnit {F:Fm} {n:Nat} {st:St} {k:Nat} (h:NewK F n st k (k + 1)) {c:List Int} {x:Int} (hk:F.clauses[k]?=some c) (hc:norm c=some [x]) {r:Nat} {rc:RC} (hr:st.R r=some rc) (hl:rc.lits=[x]):NewK F n (st.unit r) (k + 1) (k + 1):=by
 refine ⟨⟨h.inv.tr,h.inv.wlen,h.inv.stp,h.inv.imp⟩,⟨h.wi.wl,h.wi.nd,h.wi.cl,h.wi.back,h.wi.mem,h.wi.ok,h.wi.hp,h.wi.lim⟩,h.head,h.trail,h.limits,h.empty,fun q hq => ?_,covStep hk hc (fun d hd l hl' => ?_) (.inr (.inl ⟨r,List.mem_append_right _ (by simp),rc,hr,hl⟩)),h.sn,by have:=h.cn; show st.clauses.length≤_; omega,?_⟩
 · rcases List.mem_append.1 hq with hq | hq
   · exact h.units q hq
   · rw [List.mem_singleton] at hq; subst hq
     exact ⟨rc,x,hr,hl⟩
 · rcases h.cov d hd l hl' with q | ⟨q,q1,q2⟩ | q
   · exact .inl q
   · exact .inr (.inl ⟨q,List.mem_append_left _ q1,q2⟩)
   · exact .inr (.inr q)
 · have:=h.un
   show (st.units ++ [r]).length≤_
   rw [List.length_append,List.length_singleton]; omega
theorem NewK.toClause {F:Fm} {n:Nat} {st:St} {k:Nat} (h:NewK F n st k (k + 1)) {c out:List Int} (hk:F.clauses[k]?=some c) (hc:norm c=some out) {r:Nat} {rc:RC} (hr:st.R r=some rc) (hl:rc.lits=out) (h2:2≤out.length) (hlit:∀ x ∈ out,LitN n x) (hd:out.Pairwise fun a b => vr a ≠ vr b) (hnew:r ∉ st.clauses):NewK F n (st.add r out) (k + 1) (k + 1):=by
 subst hl
 have W:=h.wi.add hr hnew h2 hlit hd fun w o _ hm => by simp at hm
 refine ⟨⟨h.inv.tr,h.inv.wlen,h.inv.stp,h.inv.imp⟩,⟨W.wl,W.nd,W.cl,W.back,W.mem,W.ok,W.hp,W.lim⟩,h.head,h.trail,h.limits,h.empty,h.units,covStep hk hc (fun d hd l hl' => ?_) (.inl ⟨r,List.mem_append_right _ (by simp),rc,hr,fun _ => Iff.rfl⟩),h.sn,?_,by have:=h.un; show st.units.length≤_; omega⟩
 · rcases h.cov d hd l hl' with ⟨q,q1,q2⟩ | q | q
   · exact .inl ⟨q,List.mem_append_left _ q1,q2⟩
   · exact .inr (.inl q)
   · exact .inr (.inr q)
 · have:=h.cn
   show (st.clauses ++ [r]).length≤_
   rw [List.length_append,List.length_singleton]; omega
end Go.Sv
namespace Go.Proofs.Ythfnjogadngfiaa
open Go.Sl Go.Sv
theorem zeros_one {z:Value} (h:z.cells=#[z]) (n:Nat):zeros z n=(List.replicate n z).toArray:=by
 apply Array.ext_getElem?
 intro i
 unfold zeros Builtin.zeroCells
 rw [h]
 simp only [List.getElem?_toArray,List.getElem?_replicate,Array.getElem?_map]
 by_cases h:i < n
 · simp [h,Nat.mod_one]
 · simp [h]
theorem own_repl {τ:PH} {z:Value} (hz:z.cells=#[z]) {e b n:Nat} (h:τ b=some (.cells (zeros z n) e (0,0))):Own τ e 1 (some (ptr b)) n n (List.replicate n z):=by
 rw [zeros_one hz] at h
 refine ⟨by simp,Nat.le_refl _,.inr ⟨b,_,rfl,h,by simp,?_⟩⟩
 simp
def st0 (n:Nat):St:=⟨[],[],List.replicate (2 * n) [],List.replicate n 0,List.replicate n 0,List.replicate n none,[],[],0,none,[],fun _ => none⟩
def low0 (ff:List Value) (n m bw bv bl bh ba bp:Nat):Low where
 ff:=ff
 F:=fun k => match k with
   | 7 => ⟨some (ptr bw),2 * n,2 * n⟩
   | 8 => ⟨some (ptr bv),n,n⟩
   | 9 => ⟨some (ptr bl),n,n⟩
   | 10 => ⟨some (ptr bh),n,n⟩
   | 14 => ⟨some (ptr ba),n,n⟩
   | _ => ⟨none,0,0⟩
 V:=fun k => match k with
   | 7 => List.replicate (2 * n) (.slice none 0 0)
   | 8 => List.replicate n (.int .i64 0)
   | 9 => List.replicate n (.int .i64 0)
   | 10 => List.replicate n (.pointer none)
   | 14 => List.replicate n (.float .f64 0)
   | _ => []
 inp:=m
 es:=#[]
 clock:=0
 head:=0
 bump:=bp
 empty:=none
 W:=List.replicate (2 * n) (⟨none,0,0⟩,[])
 R:=fun _ => none
theorem Sol.init {τ:PH} {s m bw bv bl bh ba bp n:Nat} {v0 v1 v2 v3:Value}
   (hs:Blk τ s 86 (cellsOf (low0 [v0,v1,v2,v3] n m bw bv bl bh ba bp))) (hm:τ m=some (.map #[] 0)) (hw:τ bw=some (.cells (zeros (.slice none 0 0) (2 * n)) 33 (0,0))) (hv:τ bv=some (.cells (zeros (.int .i64 0) n) 3 (0,0))) (hl:τ bl=some (.cells (zeros (.int .i64 0) n) 3 (0,0)))
   (hh:τ bh=some (.cells (zeros (.pointer none) n) 84 (0,0))) (ha:τ ba=some (.cells (zeros (.float .f64 0) n) 83 (0,0))) (hd:[s,m,bw,bv,bl,bh,ba].Nodup) :
   ∃ T,Sol τ T s (low0 [v0,v1,v2,v3] n m bw bv bl bh ba bp)∧Abs (low0 [v0,v1,v2,v3] n m bw bv bl bh ba bp) (st0 n)∧∀ b,b ∉ [s,m,bw,bv,bl,bh,ba]→T b=.other:=by
 simp only [List.nodup_cons,List.mem_cons,not_or,List.not_mem_nil,not_false_eq_true,List.nodup_nil,and_true] at hd
 obtain ⟨⟨d1,d2,d3,d4,d5,d6⟩,⟨d7,d8,d9,d10,d11⟩,⟨d12,d13,d14,d15⟩,⟨d16,d17,d18⟩,⟨d19,d20⟩,d21⟩:=hd
 refine ⟨fun b => if b=s then .fld 0 else if b=m then .fld 5 else if b=bw then .fld 7 else if b=bv then .fld 8 else if b=bl then .fld 9 else if b=bh then .fld 10 else if b=ba then .fld 14 else .other,?_,?_,?_⟩
 · refine ⟨rfl,hs,if_pos rfl,fun k e size hk => ?_,hm,?_,(fun e he => by simp [low0] at he),?_,fun i sl l hi => ?_,(fun r x hr => by cases hr),(fun r x hr => by cases hr),(fun r x hr => by cases hr),(fun r x hr => by cases hr)⟩
   · have nil:∀ {k e size},(low0 [v0,v1,v2,v3] n m bw bv bl bh ba bp).F k=⟨none,0,0⟩→(low0 [v0,v1,v2,v3] n m bw bv bl bh ba bp).V k=[]→OwnT τ (fun b => if b=s then Tag.fld 0 else if b=m then .fld 5 else if b=bw then .fld 7 else if b=bv then .fld 8 else if b=bl then .fld 9 else if b=bh then .fld 10 else if b=ba then .fld 14 else .other) (.fld k) e size ((low0 [v0,v1,v2,v3] n m bw bv bl bh ba bp).F k) ((low0 [v0,v1,v2,v3] n m bw bv bl bh ba bp).V k):=by
       intro k e size h1 h2
       rw [h1,h2]
       exact ⟨own_nil,fun p hp => by cases hp⟩
     unfold fty at hk
     split at hk <;> first | (cases hk; done) | skip
     all_goals cases hk
     · exact nil rfl rfl
     · exact nil rfl rfl
     · refine ⟨own_repl rfl hw,fun p hp => ?_⟩
       cases hp
       simp [Ne.symm d2,Ne.symm d7]
     · refine ⟨own_repl rfl hv,fun p hp => ?_⟩
       cases hp
       simp [Ne.symm d3,Ne.symm d8,Ne.symm d12]
     · refine ⟨own_repl rfl hl,fun p hp => ?_⟩
       cases hp
       simp [Ne.symm d4,Ne.symm d9,Ne.symm d13,Ne.symm d16]
     · refine ⟨own_repl rfl hh,fun p hp => ?_⟩
       cases hp
       simp [Ne.symm d5,Ne.symm d10,Ne.symm d14,Ne.symm d17,Ne.symm d19]
     · exact nil rfl rfl
     · exact nil rfl rfl
     · refine ⟨own_repl rfl ha,fun p hp => ?_⟩
       cases hp
       simp [Ne.symm d6,Ne.symm d11,Ne.symm d15,Ne.symm d18,Ne.symm d20,Ne.symm d21]
     · exact nil rfl rfl
   · show (if m=s then _ else if m=m then Tag.fld 5 else _)=_
     rw [if_neg (Ne.symm d1),if_pos rfl]
   · show List.replicate (2 * n) (Value.slice none 0 0)=(List.replicate (2 * n) ((⟨none,0,0⟩:Sli),([]:List Int))).map _
     rw [List.map_replicate]
   · have hi:(List.replicate (2 * n) ((⟨none,0,0⟩:Sli),([]:List Int)))[i]?=some (sl,l):=hi
     have:=List.mem_of_getElem? hi
     rw [List.mem_replicate] at this
     cases this.2
     exact ⟨own_nil,fun p hp => by cases hp⟩
 · refine ⟨⟨[],rfl,.nil⟩,rfl,?_,?_,?_,?_,rfl,rfl,rfl,⟨List.replicate n 0,?_,?_⟩,rfl,rfl,fun r => rfl⟩
   · show (List.replicate (2 * n) ((⟨none,0,0⟩:Sli),([]:List Int))).map _=List.replicate (2 * n) []
     rw [List.map_replicate]
   · show List.replicate n _=ints (List.replicate n 0)
     unfold ints; rw [List.map_replicate]
   · show List.replicate n _=nats (List.replicate n 0)
     unfold nats; rw [List.map_replicate]; rfl
   · show List.replicate n _=optrs (List.replicate n none)
     unfold optrs; rw [List.map_replicate]; rfl
   · show List.replicate n _=(List.replicate n 0).map _
     rw [List.map_replicate]
   · show _=(List.replicate n (0:Int)).length
     simp
 · intro b hb
   simp only [List.mem_cons,List.not_mem_nil,or_false,not_or] at hb
   obtain ⟨h1,h2,h3,h4,h5,h6,h7⟩:=hb
   simp [h1,h2,h3,h4,h5,h6,h7]
theorem cellsOf_empty {g:Low} (hff:g.ff.length=4) (p:Option Addr):cellsOf { g with empty:=p }=(cellsOf g).set 16 (.pointer p):=by
 obtain ⟨ff,F,V,inp,es,clock,head,bump,empty,W,R⟩:=g
 match ff,hff with
 | [a,b,c,d],_ => rfl
theorem Sol.setEmpty {σ:PH} {T:Nat→Tag} {s:Nat} {g:Low} (h:Sol σ T s g) (p:Option Addr) :
   Sol (σ.setCell ((Addr.mk s 0 none).add 16) (.pointer p)) T s { g with empty:=p }∧Did σ T (σ.setCell ((Addr.mk s 0 none).add 16) (.pointer p)) T:=by
 have hsb:((Addr.mk s 0 none).add 16).block=s:=add_block _ _
 have hst:Step (fun b => b=s) σ (σ.setCell ((Addr.mk s 0 none).add 16) (.pointer p)):=setCell_step.weaken fun b hb' => hb'.trans hsb
 have ne:∀ b t,T b=t→t ≠ .fld 0→¬ b=s:=by
   rintro b t h1 h2 rfl
   exact h2 (h1.symm.trans h.tag)
 refine ⟨⟨h.ff,?_,h.tag,fun j e' size' hj => ?_,hst.same _ _ h.map (ne _ _ h.mtag (by simp)),h.mtag,h.keys,h.wv,fun j sl l hj => (h.wat j sl l hj).keep hst fun b hb => ne b _ hb (by simp),
   fun r x hr => (h.rblk r x hr).keep hst (ne r _ (h.rtag r x hr) (by simp)),h.rtag,fun r x hr => (h.rl r x hr).keep hst fun b hb => ne b _ hb (by simp),fun r x hr => (h.rc r x hr).keep hst fun b hb => ne b _ hb (by simp)⟩,hst.weaken ?_,fun _ _ => rfl⟩
 · rw [cellsOf_empty h.ff]
   exact h.blk.set 16 _
 · have j0:j ≠ 0:=by rintro rfl; cases hj
   exact (h.fld j e' size' hj).keep hst fun b hb => ne b _ hb (by simpa using j0)
 · rintro b rfl
   rw [h.tag]; simp
theorem r51h {σ:PH} {T:Nat→Tag} {s:Nat} {g:Low} (H:Sol σ T s g) {st:St} (A:Abs g st) {i:Int} (hi:mfind i g.es=none) (hn:st.steps.length≤3500000000000) :
   C 51 #[.pointer (some (ptr s)),.int .i64 i] (fun v τ => v=.int .i64 st.steps.length∧∃ T' g',Did σ T τ T'∧Sol τ T' s g'∧g'.ff=g.ff∧Abs g' (st.step (pInput i))∧g'.R=g.R∧∀ m,m ≠ i→mfind m g.es=none→mfind m g'.es=none) σ:=by
 have n4:=H.n4 A
 refine (c51 H i hi (by omega)).mono hb ?_
 rintro _ τ ⟨rfl,T',sl,es',ck',D,hsl,hk,hm,H'⟩
 refine ⟨by rw [n4],T',_,D,H',rfl,?_,rfl,fun m hne h0 => by
   show mfind m es'=none
   rw [hm m,if_neg hne]; exact h0⟩
 obtain ⟨xs,h1,h2⟩:=A.steps
 refine ⟨⟨xs ++ [⟨1,i,⟨none,0,0⟩,0,0,0⟩],?_,h2.snoc ⟨rfl,rfl,rfl,rfl,rfl,.inl ⟨rfl,rfl⟩⟩⟩,A.clauses,A.W,A.value,A.level,A.why,A.trail,A.limits,A.head,A.act,A.empty,A.units,A.R⟩
 show g.V 4 ++ _=_
 rw [h1,List.flatMap_append]; simp
theorem r52h {σ:PH} {T:Nat→Tag} {s:Nat} {g:Low} (H:Sol σ T s g) {st:St} (A:Abs g st) {r:Nat} {x:RC} (hx:st.R r=some x) (h2:2≤x.lits.length) (hl:∀ l ∈ x.lits,Lit l∧l ≠ 0∧(idx l).toNat < st.W.length)
   (hn:st.clauses.length≤5000000000000) (hw:∀ e ∈ st.W,e.length≤5000000000000) :
   C 52 #[.pointer (some (ptr s)),.pointer (some (ptr r))] (fun v τ => v=.tuple #[]∧∃ T' g',Did σ T τ T'∧Sol τ T' s g'∧g'.ff=g.ff∧Abs g' (st.add r x.lits)∧g'.es=g.es) σ:=by
 have n6:=H.n6 A
 obtain ⟨y,hy,e1,_,_⟩:=A.R_of hx
 refine (c52 H hy (by rw [e1]; exact h2) (by rw [e1,A.nW]; exact hl) (by omega) (fun e he => hw _ (by rw [← A.W]; exact List.mem_map_of_mem he))).mono hb ?_
 rintro _ τ ⟨rfl,T',g',sl,D,hn,S7,hW,H'⟩
 refine ⟨rfl,T',g',D,H',S7.ff,?_,S7.es⟩
 have v:=S7.V
 refine ⟨?_,?_,?_,?_,?_,?_,?_,?_,S7.head.trans A.head,?_,S7.empty.trans A.empty,?_,fun r => by rw [S7.R]; exact A.R r⟩
 · rw [v 4 (by decide),S7.R]; exact A.steps
 · rw [v 6 (by decide)]; show g.V 6 ++ _=_; rw [A.clauses]; simp [ptrs,St.add]
 · rw [hW,A.W,e1,n6]; rfl
 · rw [v 8 (by decide)]; exact A.value
 · rw [v 9 (by decide)]; exact A.level
 · rw [v 10 (by decide)]; exact A.why
 · rw [v 11 (by decide)]; exact A.trail
 · rw [v 12 (by decide)]; exact A.limits
 · rw [v 14 (by decide)]; exact A.act
 · rw [v 17 (by decide)]; exact A.units
def LK (F:Fm) (n:Nat) (ff:List Value) (s:Nat) (σ:PH) (k:Nat) (υ:PH):Prop :=
 ∃ T1 g1 st1,Sol υ T1 s g1∧g1.ff=ff∧Abs g1 st1∧σ.sub (oth υ T1)∧NewK F n st1 k k∧∀ i:Int,k≤i→mfind i g1.es=none
theorem l36 {F:Fm} {n:Nat} {ff:List Value} {s:Nat} {σ:PH} (hF:FOk F) (hn:n=F.bools) (hlen:∀ c ∈ F.clauses,c.length≤1000000) {ca:Option Addr} {cn cc:Nat} (hL:Lists σ ca cn F.clauses) {Q:Value→PH→Prop}
   (hQ:∀ τ T st,σ.sub (oth τ T)→Rep τ T s ff st→New F n st→Q (.pointer (some (ptr s))) τ) {υ:PH} (h0:LK F n ff s σ 0 υ) :
   S36_1 C Q (ptr s) ca cn cc (cn:Int) 0 υ:=by
 unfold S36_1
 have hcn:=hL.1
 have hnb:=hF.bools
 have hcl:=hF.cn
 refine iloopS_for (G:=Unit) (fun k _ => (ptr s,ca,cn,cc,(cn:Int),(k:Int))) (fun k _ υ => LK F n ff s σ k υ) cn ?_ (g:=()) h0
 clear h0 υ
 rintro k _ υ hk ⟨T1,g1,st1,H1,hff1,A1,hsub,N1,hes⟩ R hR
 unfold S36_2
 dsimp only
 have hsub':=hsub.trans (oth_sub υ T1)
 refine br_dec.2 ⟨fun hlt => ?_,fun hge => ?_⟩
 · have hkn:k < cn:=by omega
   obtain ⟨c,hc⟩:∃ c,F.clauses[k]?=some c:=⟨_,List.getElem?_eq_getElem (by omega)⟩
   have hcm:=List.mem_of_getElem? hc
   obtain ⟨p,x,m,kk,hp,hcell,hI,hmk⟩:=hL.2 k c hc
   have hlit:=hF.cl c hcm
   rw [← hn] at hlit
   have wk:IntKind.wrap .i64 ((k:Int) + 1)=((k + 1:Nat):Int):=by rw [w64 (by omega) (by omega)]; omega
   refine ⟨p,hp,by omega,by omega,_,by rw [Int.toNat_natCast,Nat.mul_one]; exact hsub'.cell hcell,_,_,_,rfl,?_⟩
   refine (c50 (hI.sub hsub') (fun y hy => litN (hlit y hy) (by omega)) (hlen c hcm)).mono hb fun v τ ⟨hs,sl,hv⟩ => ?_
   cases hnm:norm c with
   | none =>
     rw [hnm] at hv
     dsimp only at hv
     subst hv
     refine ⟨τ,PH.sub.refl _,_,_,_,_,rfl,br_iff.2 ⟨fun _ => ?_,fun h => (by cases h)⟩⟩
     rw [wk]
     obtain ⟨T2,H2,D2,_⟩:=H1.grow hs
     exact hR () _ hkn ⟨T2,g1,st1,H2,hff1,A1,hsub.trans D2.oth,N1.skip hc hnm,fun i hi => hes i (by omega)⟩
   | some out =>
     rw [hnm] at hv
     dsimp only at hv
     obtain ⟨rfl,hO,hnew⟩:=hv
     refine ⟨τ,PH.sub.refl _,_,_,_,_,rfl,br_iff.2 ⟨fun h => (by cases h),fun _ => ?_⟩⟩
     obtain ⟨T2,H2,D2,hT2⟩:=H1.grow hs
     have E2:Ext υ τ T2 sl out:=⟨hO,fun p hp => ⟨hT2 _ (hnew p hp),hnew p hp⟩⟩
     have hsn:=N1.sn
     refine (r51h H2 A1 (i:=(k:Int)) (hes k (by omega)) (by omega)).mono hb ?_
     rintro _ τ3 ⟨rfl,T3,g3,D3,H3,hff3,A3,hR3,hes3⟩
     refine ⟨τ3,PH.sub.refl _,_,rfl,fun b71 h71 => ?_⟩
     have E3:=E2.did D3
     obtain ⟨T4,H4,D4,hT4⟩:=H3.fresh h71 (.cells #[.slice sl.a sl.n sl.c,.int .i64 st1.steps.length,.slice none 0 0] 102)
     have E4:=E3.did D4
     have D24:=(D2.trans D3).trans D4
     have hb71u:υ b71=none:=(D2.trans D3).none h71
     have hB:Blk (τ3.set b71 (.cells #[.slice sl.a sl.n sl.c,.int .i64 st1.steps.length,.slice none 0 0] 102)) b71 102 [sl.v,.int .i64 st1.steps.length,(⟨none,0,0⟩:Sli).v]:=set_self
     have hnb71:∀ p,sl.a=some p→p.block ≠ b71:=by
       rintro p hp rfl
       exact E3.own.known hp h71
     obtain ⟨hrn,T5,H5,hT5⟩:=H4.newR hB E4.own own_nil (sc:=⟨none,0,0⟩) (cyc:=[]) hT4 (fun p hp => ⟨(E4.tag p hp).1,hnb71 p hp⟩) (fun p hp => by cases hp) (fun p q _ hq => by cases hq)
     have hr1:st1.R b71=none:=by
       have:=A3.R b71
       rw [hrn] at this
       exact this.symm
     have D5:Did υ T1 (τ3.set b71 (.cells #[.slice sl.a sl.n sl.c,.int .i64 st1.steps.length,.slice none 0 0] 102)) T5:=by
       refine ⟨D24.step,fun b hb => ?_⟩
       rw [hT5 b,D24.tags b hb]
       right
       refine ⟨?_,fun p hp => ?_,fun p hp => by cases hp⟩
       · rintro rfl; exact hb hb71u
       · rintro rfl; exact hb (E4.tag p hp).2
     have A5:=A3.newR (r:=b71) (y:=⟨sl,out,st1.steps.length,⟨none,0,0⟩,[]⟩) hrn
     obtain ⟨N5,hol,hod⟩:=N1.base hc hnm hlit hr1
     have hrc:((st1.step (pInput k)).setR b71 ⟨out,st1.steps.length,[]⟩).R b71=some ⟨out,st1.steps.length,[]⟩:=if_pos rfl
     have hon:=own_len E4.own
     have hes5:∀ i:Int,((k + 1:Nat):Int)≤i→mfind i g3.es=none:=fun i hi => hes3 i (by omega) (hes i (by omega))
     replace A5:Abs (g3.setR b71 ⟨sl,out,st1.steps.length,⟨none,0,0⟩,[]⟩) ((st1.step (pInput k)).setR b71 ⟨out,st1.steps.length,[]⟩):=A5
     replace hB:True:=trivial
     generalize hω:τ3.set b71 (.cells #[.slice sl.a sl.n sl.c,.int .i64 st1.steps.length,.slice none 0 0] 102)=ω at *
     refine br_iff.2 ⟨fun h0 => ?_,fun h0 => br_iff.2 ⟨fun h1 => ?_,fun h1 => ?_⟩⟩
     · have h0:sl.n=0:=by simpa using h0
       have hout:out=[]:=List.length_eq_zero_iff.1 (by omega)
       subst hout
       rw [wk]
       obtain ⟨H6,D6⟩:=H5.setEmpty (some (ptr b71))
       refine ⟨_,rfl,⟨_,H5.blk.get (cellsOf_16 H5.ff)⟩,H5.blk.froz 16,hR () _ hkn ⟨T5,_,St.setEmpty ((st1.step (pInput k)).setR b71 ⟨[],st1.steps.length,[]⟩) b71,H6,hff3.trans hff1,?_,(hsub.trans D5.oth).trans D6.oth,N5.toEmpty hc hnm hrc (by dsimp only; omega) rfl,hes5⟩⟩
       exact ⟨A5.steps,A5.clauses,A5.W,A5.value,A5.level,A5.why,A5.trail,A5.limits,A5.head,A5.act,rfl,A5.units,A5.R⟩
     · have h1:sl.n=1:=by simp at h1; omega
       obtain ⟨y,hout⟩:∃ y,out=[y]:=List.length_eq_one_iff.1 (by omega)
       subst hout
       rw [wk]
       have n17:=H5.n17 A5
       have hun:=N1.un
       have hun5:((st1.step (pInput k)).setR b71 ⟨[y],st1.steps.length,[]⟩).units=st1.units:=rfl
       rw [hun5] at n17
       refine ⟨_,rfl,_,H5.field (k:=17) rfl,_,_,_,rfl,fun b79 h79 => ?_⟩
       obtain ⟨T6,H6,D6,_⟩:=H5.fresh h79 (.cells #[.pointer (some ⟨b71,0,none⟩)] 84)
       refine H6.appendF (k:=17) rfl (by decide) t84.1 t84.2.1 t84.2.2 rfl (by decide) (news:=[.pointer (some ⟨b71,0,none⟩)]) ?_ rfl ?_ (by omega) ?_
       · exact rowAt_of (b:=b79) (arr:=#[.pointer (some ⟨b71,0,none⟩)]) (e:=84) (f:=(0,0)) (by unfold PH.set; rw [if_pos rfl]) _ 0 0 (fun j v hv => by simpa using hv)
       · intro v hv; simp at hv; subst hv; trivial
       · rintro a' c' τ7 q1 q2 ⟨T7,H7,D7⟩
         refine ⟨_,_,_,rfl,_,rfl,q1,q2,hR () _ hkn ⟨T7,_,St.unit ((st1.step (pInput k)).setR b71 ⟨[y],st1.steps.length,[]⟩) b71,H7,hff3.trans hff1,?_,((hsub.trans D5.oth).trans D6.oth).trans D7.oth,N5.toUnit hc hnm hrc rfl,hes5⟩⟩
         refine ⟨A5.steps,A5.clauses,A5.W,A5.value,A5.level,A5.why,A5.trail,A5.limits,A5.head,A5.act,A5.empty,?_,A5.R⟩
         show g3.V 17 ++ _=ptrs (st1.units ++ [b71])
         have:=A5.units
         replace this:g3.V 17=ptrs st1.units:=this
         rw [this]; simp [ptrs]
     · have h0:sl.n ≠ 0:=by
         intro h; rw [h] at h0; simp at h0
       have h1:sl.n ≠ 1:=by
         intro h; rw [h] at h1; simp at h1
       have h2:2≤out.length:=by omega
       have hW:=N5.wi.wl
       have hcn5:=N5.cn
       have hnc:b71 ∉ ((st1.step (pInput k)).setR b71 ⟨out,st1.steps.length,[]⟩).clauses:=by
         intro hm
         obtain ⟨rc,q1,_⟩:=N1.wi.cl b71 hm
         rw [hr1] at q1; cases q1
       refine (r52h H5 A5 (r:=b71) hrc h2 (fun l hl => ⟨litN (hol l hl) (by omega),(hol l hl).1,by rw [hW]; exact idx_lt' (hol l hl)⟩) (by omega) (fun e he => by have:=N5.wi.small e he; omega)).mono hb ?_
       rintro _ τ7 ⟨rfl,T7,g7,D7,H7,hff7,A7,hes7⟩
       rw [wk]
       refine ⟨_,PH.sub.refl _,rfl,hR () _ hkn ⟨T7,g7,_,H7,hff7.trans (hff3.trans hff1),A7,(hsub.trans D5.oth).trans D7.oth,N5.toClause hc hnm hrc rfl h2 hol hod hnc,fun i hi => by rw [hes7]; exact hes5 i hi⟩⟩
 · have hkn:k=cn:=by omega
   subst hkn
   rw [← hcn] at N1
   exact hQ υ T1 st1 hsub ⟨g1,H1,hff1,A1⟩ N1.done
theorem ne_new {ω:PH} {a b:Nat} {o:Obj} (h:ω a=some o) (hb:ω b=none):b ≠ a:=by
 rintro rfl; rw [h] at hb; cases hb
theorem NewK.zero (F:Fm) (n:Nat):NewK F n (st0 n) 0 0:=NewK.start rfl rfl rfl rfl rfl rfl rfl rfl rfl rfl rfl fun _ => rfl
theorem r36 {F:Fm} {n:Nat} {ff:List Value} {σ:PH} (hF:FOk F) (hn:n=F.bools) (hlen:∀ c ∈ F.clauses,c.length≤1000000) {aa ca:Option Addr} {an ac cn cc:Nat} (hff:ff=[.int .i64 F.ints,.int .i64 F.bools,.slice aa an ac,.slice ca cn cc]) (hL:Lists σ ca cn F.clauses) {Q:Value→PH→Prop}
   (hQ:∀ τ T s st,σ.sub (oth τ T)→Rep τ T s ff st→New F n st→Q (.pointer (some (ptr s))) τ) :
   C 36 #[.agg #[.int .i64 F.ints,.int .i64 F.bools,.slice aa an ac,.slice ca cn cc]] Q σ:=by
 subst hff
 refine go (E36_0 _ _ _ _ _ _ _ _ _ _ _) ?_
 unfold S36_0
 have hnb:=hF.bools
 have w2:IntKind.wrap .i64 ((2:Int) * (F.bools:Int))=((2 * F.bools:Nat):Int):=by rw [w64 (by omega) (by omega)]; omega
 have e0:∀ b:Nat,(Addr.mk b 0 none).add 0=⟨b,0,none⟩:=fun b => rfl
 intro b9 h9
 have s9:=PH.sub_set (o:=.cells #[.int .i64 F.ints,.int .i64 F.bools,.slice aa an ac,.slice ca cn cc] 29) h9
 have B9:Blk (σ.set b9 (.cells #[.int .i64 F.ints,.int .i64 F.bools,.slice aa an ac,.slice ca cn cc] 29)) b9 29 [.int .i64 F.ints,.int .i64 F.bools,.slice aa an ac,.slice ca cn cc]:=set_self
 generalize σ.set b9 (.cells #[.int .i64 F.ints,.int .i64 F.bools,.slice aa an ac,.slice ca cn cc] 29)=ω9 at *
 have g0:=B9.get (i:=0) rfl
 rw [e0] at g0
 refine ⟨_,g0,_,B9.get (i:=1) rfl,_,B9.get (i:=2) rfl,_,B9.get (i:=3) rfl,_,_,_,_,_,_,_,_,rfl,fun b22 h22 => ?_⟩
 have s22:=PH.sub_set (o:=.map #[] 0) h22
 have k22:(ω9.set b22 (.map #[] 0)) b22=some (.map #[] 0):=set_self
 generalize ω9.set b22 (.map #[] 0)=ω22 at *
 have B9a:Blk ω22 b9 29 [.int .i64 F.ints,.int .i64 F.bools,.slice aa an ac,.slice ca cn cc]:=s22 _ _ B9
 refine ⟨_,B9a.get (i:=1) rfl,_,rfl,?_⟩
 rw [w2]
 simp only [Int.toNat_natCast]
 refine ⟨by omega,by omega,by omega,by omega,fun b25 h25 => ?_⟩
 have s25:=PH.sub_set (o:=.cells (zeros (.slice none 0 0) (2 * F.bools)) 33) h25
 have k25:(ω22.set b25 (.cells (zeros (.slice none 0 0) (2 * F.bools)) 33)) b25=some (.cells (zeros (.slice none 0 0) (2 * F.bools)) 33 (0,0)):=set_self
 generalize ω22.set b25 (.cells (zeros (.slice none 0 0) (2 * F.bools)) 33)=ω25 at *
 have B9b:Blk ω25 b9 29 [.int .i64 F.ints,.int .i64 F.bools,.slice aa an ac,.slice ca cn cc]:=s25 _ _ B9a
 refine ⟨_,B9b.get (i:=1) rfl,_,rfl,by omega,by omega,by omega,by omega,fun b28 h28 => ?_⟩
 simp only [Int.toNat_natCast] at h28 ⊢
 have s28:=PH.sub_set (o:=.cells (zeros (.int .i64 0) F.bools) 3) h28
 have k28:(ω25.set b28 (.cells (zeros (.int .i64 0) F.bools) 3)) b28=some (.cells (zeros (.int .i64 0) F.bools) 3 (0,0)):=set_self
 generalize ω25.set b28 (.cells (zeros (.int .i64 0) F.bools) 3)=ω28 at *
 have B9c:Blk ω28 b9 29 [.int .i64 F.ints,.int .i64 F.bools,.slice aa an ac,.slice ca cn cc]:=s28 _ _ B9b
 refine ⟨_,B9c.get (i:=1) rfl,_,rfl,by omega,by omega,by omega,by omega,fun b31 h31 => ?_⟩
 simp only [Int.toNat_natCast] at h31 ⊢
 have s31:=PH.sub_set (o:=.cells (zeros (.int .i64 0) F.bools) 3) h31
 have k31:(ω28.set b31 (.cells (zeros (.int .i64 0) F.bools) 3)) b31=some (.cells (zeros (.int .i64 0) F.bools) 3 (0,0)):=set_self
 generalize ω28.set b31 (.cells (zeros (.int .i64 0) F.bools) 3)=ω31 at *
 have B9d:Blk ω31 b9 29 [.int .i64 F.ints,.int .i64 F.bools,.slice aa an ac,.slice ca cn cc]:=s31 _ _ B9c
 refine ⟨_,B9d.get (i:=1) rfl,_,rfl,by omega,by omega,by omega,by omega,fun b34 h34 => ?_⟩
 simp only [Int.toNat_natCast] at h34 ⊢
 have s34:=PH.sub_set (o:=.cells (zeros (.pointer none) F.bools) 84) h34
 have k34:(ω31.set b34 (.cells (zeros (.pointer none) F.bools) 84)) b34=some (.cells (zeros (.pointer none) F.bools) 84 (0,0)):=set_self
 generalize ω31.set b34 (.cells (zeros (.pointer none) F.bools) 84)=ω34 at *
 have B9e:Blk ω34 b9 29 [.int .i64 F.ints,.int .i64 F.bools,.slice aa an ac,.slice ca cn cc]:=s34 _ _ B9d
 refine ⟨_,B9e.get (i:=1) rfl,_,rfl,by omega,by omega,by omega,by omega,fun b37 h37 b38 => ?_⟩
 simp only [Int.toNat_natCast] at h37 ⊢
 intro h38
 have s37:=PH.sub_set (o:=.cells (zeros (.float .f64 0) F.bools) 83) h37
 have k37:(ω34.set b37 (.cells (zeros (.float .f64 0) F.bools) 83)) b37=some (.cells (zeros (.float .f64 0) F.bools) 83 (0,0)):=set_self
 generalize ω34.set b37 (.cells (zeros (.float .f64 0) F.bools) 83)=ω37 at *
 have B9f:Blk ω37 b9 29 [.int .i64 F.ints,.int .i64 F.bools,.slice aa an ac,.slice ca cn cc]:=s37 _ _ B9e
 have s38:=PH.sub_set (o:=.cells #[.int .i64 F.ints,.int .i64 F.bools,.slice aa an ac,.slice ca cn cc,.slice none 0 0,.map (some b22),.slice none 0 0,.slice (some ⟨b25,0,none⟩) (2 * F.bools) (2 * F.bools),.slice (some ⟨b28,0,none⟩) F.bools F.bools,.slice (some ⟨b31,0,none⟩) F.bools F.bools,.slice (some ⟨b34,0,none⟩) F.bools F.bools,.slice none 0 0,.slice none 0 0,.int .i64 0,.slice (some ⟨b37,0,none⟩) F.bools F.bools,.float .f64 4607182418800017408,.pointer none,.slice none 0 0] 86) h38
 have k38:Blk (ω37.set b38 (.cells #[.int .i64 F.ints,.int .i64 F.bools,.slice aa an ac,.slice ca cn cc,.slice none 0 0,.map (some b22),.slice none 0 0,.slice (some ⟨b25,0,none⟩) (2 * F.bools) (2 * F.bools),.slice (some ⟨b28,0,none⟩) F.bools F.bools,.slice (some ⟨b31,0,none⟩) F.bools F.bools,.slice (some ⟨b34,0,none⟩) F.bools F.bools,.slice none 0 0,.slice none 0 0,.int .i64 0,.slice (some ⟨b37,0,none⟩) F.bools F.bools,.float .f64 4607182418800017408,.pointer none,.slice none 0 0] 86)) b38 86 (cellsOf (low0 [.int .i64 F.ints,.int .i64 F.bools,.slice aa an ac,.slice ca cn cc] F.bools b22 b25 b28 b31 b34 b37 4607182418800017408)):=set_self
 refine ⟨_,(s38.cell (B9f.get (i:=3) rfl)),_,_,_,rfl,?_⟩
 generalize ω37.set b38 (.cells #[.int .i64 F.ints,.int .i64 F.bools,.slice aa an ac,.slice ca cn cc,.slice none 0 0,.map (some b22),.slice none 0 0,.slice (some ⟨b25,0,none⟩) (2 * F.bools) (2 * F.bools),.slice (some ⟨b28,0,none⟩) F.bools F.bools,.slice (some ⟨b31,0,none⟩) F.bools F.bools,.slice (some ⟨b34,0,none⟩) F.bools F.bools,.slice none 0 0,.slice none 0 0,.int .i64 0,.slice (some ⟨b37,0,none⟩) F.bools F.bools,.float .f64 4607182418800017408,.pointer none,.slice none 0 0] 86)=ω38 at *
 have q22_25:=s25 _ _ k22; have q22_28:=s28 _ _ q22_25; have q22_31:=s31 _ _ q22_28; have q22_34:=s34 _ _ q22_31; have q22_37:=s37 _ _ q22_34
 have q25_28:=s28 _ _ k25; have q25_31:=s31 _ _ q25_28; have q25_34:=s34 _ _ q25_31; have q25_37:=s37 _ _ q25_34
 have q28_31:=s31 _ _ k28; have q28_34:=s34 _ _ q28_31; have q28_37:=s37 _ _ q28_34
 have q31_34:=s34 _ _ k31; have q31_37:=s37 _ _ q31_34
 have q34_37:=s37 _ _ k34
 have hd:[b38,b22,b25,b28,b31,b34,b37].Nodup:=by
   simp only [List.nodup_cons,List.mem_cons,not_or,List.not_mem_nil,not_false_eq_true,List.nodup_nil,and_true]
   exact ⟨⟨ne_new q22_37 h38,ne_new q25_37 h38,ne_new q28_37 h38,ne_new q31_37 h38,ne_new q34_37 h38,ne_new k37 h38⟩,
     ⟨(ne_new k22 h25).symm,(ne_new q22_25 h28).symm,(ne_new q22_28 h31).symm,(ne_new q22_31 h34).symm,(ne_new q22_34 h37).symm⟩,
     ⟨(ne_new k25 h28).symm,(ne_new q25_28 h31).symm,(ne_new q25_31 h34).symm,(ne_new q25_34 h37).symm⟩,
     ⟨(ne_new k28 h31).symm,(ne_new q28_31 h34).symm,(ne_new q28_34 h37).symm⟩,
     ⟨(ne_new k31 h34).symm,(ne_new q31_34 h37).symm⟩,(ne_new k34 h37).symm⟩
 have sub9:=s9
 have sub22:=sub9.trans s22; have sub25:=sub22.trans s25; have sub28:=sub25.trans s28; have sub31:=sub28.trans s31; have sub34:=sub31.trans s34; have sub37:=sub34.trans s37
 have n22:=new_of s9 h22; have n25:=new_of sub22 h25; have n28:=new_of sub25 h28; have n31:=new_of sub28 h31; have n34:=new_of sub31 h34; have n37:=new_of sub34 h37; have n38:=new_of sub37 h38
 obtain ⟨T,H,A,hT⟩:=Sol.init k38 (s38 _ _ q22_37) (s38 _ _ q25_37) (s38 _ _ q28_37) (s38 _ _ q31_37) (s38 _ _ q34_37) (s38 _ _ k37) hd
 refine l36 hF hn hlen hL (fun τ T' st h1 h2 h3 => hQ τ T' b38 st h1 h2 h3) ⟨T,_,st0 n,H,rfl,hn ▸ A,fun b o hb => ?_,NewK.zero F n,fun i _ => rfl⟩
 have:T b=.other:=hT b (by
   simp only [List.mem_cons,List.not_mem_nil,or_false,not_or]
   refine ⟨?_,?_,?_,?_,?_,?_,?_⟩ <;> rintro rfl
   · rw [n38] at hb; cases hb
   · rw [n22] at hb; cases hb
   · rw [n25] at hb; cases hb
   · rw [n28] at hb; cases hb
   · rw [n31] at hb; cases hb
   · rw [n34] at hb; cases hb
   · rw [n37] at hb; cases hb)
 exact (oth_of this).trans (s38 _ _ (sub37 _ _ hb))
end Go.Proofs.Ythfnjogadngfiaa
namespace Go.Sv
theorem chain_le {x:Nat→Int}:∀ {l:List Dif} {a b:Int},chain a b l→(∀ d ∈ l,x (dX d) - x (dY d)≤d.2.2)→x a.toNat - x b.toNat≤sumC l
 | [],a,b,h,_ => by
   have:a=b:=h
   subst this
   simp [sumC]
 | d :: l,a,b,h,hd => by
   obtain ⟨h1,h2⟩:=h
   have:=chain_le h2 fun e he => hd e (List.mem_cons_of_mem _ he)
   have:=hd d List.mem_cons_self
   unfold dX dY at this
   unfold sumC at *
   rw [List.map_cons,List.sum_cons]
   rw [h1] at this
   omega
theorem ring_false {x:Nat→Int} {l:List Dif} (h:ring l) (hd:∀ d ∈ l,x (dX d) - x (dY d)≤d.2.2):False:=by
 obtain ⟨a,h1,h2⟩:=h
 have:=chain_le h1 hd
 omega
theorem Tr.lit_in {n:Nat} {value:List Int} {level:List Nat} {trail:List Int} {limits:List Nat} (h:Tr n value level trail limits) {i:Nat} (hi:i < n) (h0:value[i]? ≠ some 0):∃ v,value[i]?=some v∧(v=1 ∨ v=-1)∧v * ((i:Int) + 1) ∈ trail:=by
 have hv:=h.val i hi
 refine ⟨_,hv,?_,?_⟩
 · unfold sg at hv ⊢
   split
   · exact .inl rfl
   · split
     · exact .inr rfl
     · rename_i h1 h2
       rw [if_neg h1,if_neg h2] at hv
       exact absurd hv h0
 · unfold sg at hv ⊢
   split
   · rename_i h1; rw [Int.one_mul]; exact h1
   · split
     · rename_i h2; rw [Int.neg_mul,Int.one_mul]; exact h2
     · rename_i h1 h2
       rw [if_neg h1,if_neg h2] at hv
       exact absurd hv h0
end Go.Sv
namespace Go.Proofs.Ythfnjogadngfiaa
open Go.Sl Go.Sv
theorem quiet58 {ω:PH} {i1 i2:Int} {aa:Option Addr} {an ac:Nat} {ca:Option Addr} {cn cc:Nat} {F:Fm} (hA:Atoms ω aa an F.atoms) (hC:∀ d ∈ F.atoms,-1048576≤d.2.2∧d.2.2≤1048576) {x:Int} (hl:Lit x) :
   ∃ bs,quiet C 58 #[.agg #[.int .i64 i1,.int .i64 i2,.slice aa an ac,.slice ca cn cc],.int .i64 x] (bndV (bound F x)) bs ω:=by
 obtain ⟨bs,h1,h2⟩:∃ bs:List Nat,(∀ b ∈ bs,ω b ≠ none)∧Atoms (PH.only bs ω) aa an F.atoms:=by
   cases hat:F.atoms with
   | nil => exact ⟨[],by simp,by rw [hat] at hA; exact ⟨hA.1,fun i d hd => by simp at hd⟩⟩
   | cons d0 t =>
     rw [hat] at hA
     obtain ⟨p,hp,c0,_,_⟩:=hA.2 0 d0 rfl
     refine ⟨[p.block],fun b hb => ?_,hA.1,fun i d hd => ?_⟩
     · rw [List.mem_singleton] at hb; subst hb
       intro e
       unfold PH.cell? at c0
       rw [add_block,e] at c0; cases c0
     · obtain ⟨p',hp',q0,q1,q2⟩:=hA.2 i d hd
       rw [hp] at hp'; cases hp'
       exact ⟨p,hp,cell_only q0 (by rw [add_block]; simp),cell_only q1 (by rw [add_block,add_block]; simp),cell_only q2 (by rw [add_block,add_block]; simp)⟩
 exact ⟨bs,h1,c58 h2 hC hl fun τ hs => ⟨rfl,hs⟩⟩
def boolsV (l:List Bool):List Value:=l.map .bool
structure ML (σ υ:PH) (b2 b6 b7 n:Nat) (bl:List Bool) (sl:Sli) (l:List Dif):Prop where
 sub:σ.sub υ
 k2:Blk υ b2 35 [.slice none 0 0,.slice none 0 0]
 k6:Blk υ b6 4 (boolsV bl)
 k7:Blk υ b7 35 [.slice (some (ptr b6)) n n,.slice none 0 0]
 n2:σ b2=none
 n6:σ b6=none
 n7:σ b7=none
 d26:b2 ≠ b6
 d27:b2 ≠ b7
 d67:b6 ≠ b7
 ol:Own υ 50 3 sl.a sl.n sl.c (difV l)
 nl:∀ p,sl.a=some p→σ p.block=none∧p.block ≠ b2∧p.block ≠ b6∧p.block ≠ b7
theorem ML.grow {σ υ τ:PH} {b2 b6 b7 n:Nat} {bl:List Bool} {sl:Sli} {l:List Dif} (h:ML σ υ b2 b6 b7 n bl sl l) (hs:υ.sub τ):ML σ τ b2 b6 b7 n bl sl l :=
 ⟨h.sub.trans hs,hs _ _ h.k2,hs _ _ h.k6,hs _ _ h.k7,h.n2,h.n6,h.n7,h.d26,h.d27,h.d67,h.ol.keep (M:=fun _ => False) hs.step fun _ _ h => h,h.nl⟩
theorem ML.set {σ υ:PH} {b2 b6 b7 n:Nat} {bl:List Bool} {sl:Sli} {l:List Dif} (h:ML σ υ b2 b6 b7 n bl sl l) (k:Nat) (q:Bool):ML σ (υ.setCell ((ptr b6).add k) (.bool q)) b2 b6 b7 n (bl.set k q) sl l:=by
 have st:Step (·=b6) υ (υ.setCell ((ptr b6).add k) (.bool q)):=setCell_step.weaken fun b hb => hb.trans (add_block _ _)
 refine ⟨sub_step_new h.sub st (by rintro b rfl; exact h.n6),h.k2.keep st h.d26,?_,h.k7.keep st (Ne.symm h.d67),h.n2,h.n6,h.n7,h.d26,h.d27,h.d67,h.ol.keep st fun p hp => (h.nl p hp).2.2.1,h.nl⟩
 have:=h.k6.set k (.bool q)
 unfold boolsV at this ⊢
 rwa [List.map_set]
theorem ML.push {σ υ:PH} {b2 b6 b7 n:Nat} {bl:List Bool} {sl:Sli} {l:List Dif} (h:ML σ υ b2 b6 b7 n bl sl l) (d:Dif) (hl:l.length≤1000000) {b:Nat} (hb:υ b=none) {Q:Value→PH→Prop} (hQ:∀ sl' τ,ML σ τ b2 b6 b7 n bl sl' (l ++ [d])→Q sl'.v τ) :
   iappend prog 50 (.slice sl.a sl.n sl.c) (.slice (some ⟨b,0,none⟩) 1 1) Q (PH.set υ b (.cells #[.int .i64 d.1,.int .i64 d.2.1,.int .i64 d.2.2] 50)):=by
 have l1:=h.ol.len
 rw [difV_len] at l1
 refine pushRow t50.1 t50.2.1 t50.2.2 rfl (by decide) h.ol hb (news:=[.int .i64 d.1,.int .i64 d.2.1,.int .i64 d.2.2]) rfl ?_ (by omega) ?_
 · intro v hv
   simp at hv
   rcases hv with rfl | rfl | rfl <;> trivial
 · intro a c τ hO hst hnew
   have hnl:∀ q,(∃ p,sl.a=some p∧q=p.block)→σ q=none∧q ≠ b2∧q ≠ b6∧q ≠ b7:=by
     rintro q ⟨p,h1,rfl⟩; exact h.nl p h1
   refine hQ ⟨a,sl.n + 1,c⟩ τ ⟨sub_step_new h.sub hst fun q hq => (hnl q hq).1,h.k2.keep hst fun hq => (hnl _ hq).2.1 rfl,h.k6.keep hst fun hq => (hnl _ hq).2.2.1 rfl,h.k7.keep hst fun hq => (hnl _ hq).2.2.2 rfl,h.n2,h.n6,h.n7,h.d26,h.d27,h.d67,by simpa [difV,dcells] using hO,fun p hp => ?_⟩
   rcases hnew p hp with ⟨p',h1,h2⟩ | h1
   · rw [h2]; exact h.nl p' h1
   · exact ⟨new_of h.sub h1,(fun e => by rw [e,h.k2] at h1; cases h1),(fun e => by rw [e,h.k6] at h1; cases h1),(fun e => by rw [e,h.k7] at h1; cases h1)⟩
theorem r38 {F:Fm} {n s:Nat} {σ:PH} {T:Nat→Tag} {st:St} {ff:List Value} (hF:FOk F) (hn:n=F.bools) (hRep:Rep σ T s ff st) (hf:Frm (oth σ T) ff F) (hI:Inv F n st) (hv:∀ i,i < n→st.value[i]? ≠ some 0)
   {x0:Nat→Int} (hx0:∀ y ∈ st.trail,∀ d,bound F y=some d→x0 (dX d) - x0 (dY d)≤d.2.2) {Q:Value→PH→Prop}
   (hQ:∀ τ b X (x:Nat→Int),σ.sub τ→σ b=none→σ X=none→Blk τ b 4 (boolsV (tab n fun i => decide (0 < st.value.getD i 0)))→Blk τ X 3 (ints (tab F.ints x))→(∀ y ∈ st.trail,∀ d,bound F y=some d→x (dX d) - x (dY d)≤d.2.2)→(∀ v,v < F.ints→-1000000000000000≤x v∧x v≤0)→Q (.agg #[.slice (some (ptr b)) n n,.slice (some (ptr X)) F.ints F.ints]) τ) :
   C 38 #[.pointer (some (ptr s))] Q σ:=by
 subst hn
 obtain ⟨aa,an,ac,ca,cn,cc,rfl,hA,_,_,_⟩:=hf
 have hAσ:=hA.sub (oth_sub σ T)
 refine go (E38_0 _ _ _ _) ?_
 unfold S38_0
 obtain ⟨c0,c1,c2,c3⟩:=hRep.frm
 obtain ⟨va,vc,c8,hval⟩:=hRep.val
 have hnb:=hF.bools
 have hT:=hI.tr
 have hvl:=hT.vlen
 have e0:∀ b:Nat,(Addr.mk b 0 none).add 0=⟨b,0,none⟩:=fun b => rfl
 intro b2 h2
 have s2:=PH.sub_set (o:=.cells #[.slice none 0 0,.slice none 0 0] 35) h2
 have k2:Blk (σ.set b2 (.cells #[.slice none 0 0,.slice none 0 0] 35)) b2 35 [.slice none 0 0,.slice none 0 0]:=set_self
 generalize σ.set b2 (.cells #[.slice none 0 0,.slice none 0 0] 35)=ω2 at *
 refine ⟨_,rfl,_,s2.cell c1,_,rfl,by omega,by omega,by omega,by omega,fun b6 h6 => ?_⟩
 simp only [Int.toNat_natCast]
 have s6:=PH.sub_set (o:=.cells (zeros (.bool false) F.bools) 4) h6
 have k6:Blk (ω2.set b6 (.cells (zeros (.bool false) F.bools) 4)) b6 4 (boolsV (List.replicate F.bools false)):=by
   have:zeros (.bool false) F.bools=(boolsV (List.replicate F.bools false)).toArray:=by
     rw [zeros_one rfl,boolsV,List.map_replicate]
   rw [this]; exact set_self
 generalize ω2.set b6 (.cells (zeros (.bool false) F.bools) 4)=ω6 at *
 intro b7 h7
 simp only [newSet,newSet0,newCell,newCell0,newFroz,newFroz0,List.setIfInBounds_toArray,List.set_cons_zero,List.set_cons_succ,List.getElem?_toArray,List.getElem?_cons_zero,List.getElem?_cons_succ,Option.some.injEq,exists_eq',true_and,Value.slice.injEq,exists_eq_left']
 have s7:=PH.sub_set (o:=.cells #[.slice (some ⟨b6,0,none⟩) F.bools F.bools,.slice none 0 0] 35) h7
 have k7:Blk (ω6.set b7 (.cells #[.slice (some ⟨b6,0,none⟩) F.bools F.bools,.slice none 0 0] 35)) b7 35 [.slice (some (ptr b6)) F.bools F.bools,.slice none 0 0]:=set_self
 refine ⟨_,_,_,⟨rfl,rfl,rfl⟩,?_⟩
 generalize ω6.set b7 (.cells #[.slice (some ⟨b6,0,none⟩) F.bools F.bools,.slice none 0 0] 35)=ω7 at *
 have M0:ML σ ω7 b2 b6 b7 F.bools (List.replicate F.bools false) ⟨none,0,0⟩ [] :=
   ⟨(s2.trans s6).trans s7,s7 _ _ (s6 _ _ k2),s7 _ _ k6,k7,h2,new_of s2 h6,new_of (s2.trans s6) h7,(ne_new k2 h6).symm,(ne_new (s6 _ _ k2) h7).symm,(ne_new k6 h7).symm,own_nil,fun p hp => by cases hp⟩
 unfold S38_1
 clear k2 k6 k7 h6 h7 s2 s6 s7
 refine iloopS_for (G:=Sli) (fun k sl => (some (ptr s),ptr b2,ptr b7,sl.a,sl.n,sl.c,(F.bools:Int),(k:Int))) (fun k sl υ => ∃ bl l,ML σ υ b2 b6 b7 F.bools bl sl l∧(∀ i,i < F.bools→bl[i]?=some (if i < k then decide (0 < st.value.getD i 0) else false))∧bl.length=F.bools∧(∀ d ∈ l,∃ y ∈ st.trail,bound F y=some d)∧(∀ (i:Nat),i < k→∀ v,st.value[i]?=some v→∀ d,bound F (v * ((i:Int) + 1))=some d→d ∈ l)∧l.length≤k) F.bools ?_
   (g:=⟨none,0,0⟩) ⟨_,[],M0,fun i hi => by simp [hi],by simp,by simp,fun i hi => by omega,by simp⟩
 rintro k sl υ hk ⟨bl,l,M,hbl,hbn,hl1,hl2,hln⟩ R hR
 unfold S38_2
 dsimp only
 have g7:=M.k7.get (i:=0) rfl
 rw [e0] at g7
 refine br_dec.2 ⟨fun hlt => ?_,fun hge => ?_⟩
 · have hkn:k < F.bools:=by omega
   obtain ⟨v,hvk,hv1,hvt⟩:=hT.lit_in hkn (hv k hkn)
   obtain ⟨pv,rfl,cv⟩:=hval k v hvk
   have hgd:st.value.getD k 0=v:=by rw [List.getD_eq_getElem?_getD,hvk]; rfl
   have M1:=M.set k (decide (v > 0))
   have wk:IntKind.wrap .i64 ((k:Int) + 1)=(k:Int) + 1:=w64 (by omega) (by omega)
   have wl:IntKind.wrap .i64 (v * ((k:Int) + 1))=v * ((k:Int) + 1):=by rcases hv1 with rfl | rfl <;> rw [w64 (by omega) (by omega)]
   have hll:Lit (v * ((k:Int) + 1)):=litN (hT.lit _ hvt) (by omega)
   obtain ⟨bs,hq⟩:=quiet58 (i1:=(F.ints:Int)) (i2:=(F.bools:Int)) (ac:=ac) (ca:=ca) (cn:=cn) (cc:=cc) (hAσ.sub M1.sub) (fun d hd => (hF.at' d hd).2.2.2.2.2) hll
   obtain ⟨q0,hq0⟩:∃ q0,bl[k]?=some q0:=⟨_,hbl k hkn⟩
   have c6:υ.cell? ((ptr b6).add k)=some (.bool q0):=M.k6.get (i:=k) (by simp [boolsV,hq0])
   simp only [Int.toNat_natCast,Nat.mul_one]
   have hbl':∀ i,i < F.bools→(bl.set k (decide (v > 0)))[i]?=some (if i < k + 1 then decide (0 < st.value.getD i 0) else false):=by
     intro i hi
     rw [List.getElem?_set]
     by_cases e:k=i
     · subst e
       rw [if_pos rfl,if_pos (by omega),if_pos (by omega),hgd]
     · rw [if_neg e,hbl i hi]
       by_cases e2:i < k
       · rw [if_pos e2,if_pos (by omega)]
       · rw [if_neg e2,if_neg (by omega)]
   have wk':IntKind.wrap .i64 ((k:Int) + 1)=((k + 1:Nat):Int):=by rw [wk]; omega
   have hbd:∀ (i:Nat) w,i < k + 1→st.value[i]?=some w→i=k→w=v:=by
     rintro i w _ h1 rfl; rw [hvk] at h1; exact (Option.some.inj h1).symm
   cases hb:bound F (v * ((k:Int) + 1)) with
   | none =>
     rw [hb] at hq
     refine ⟨_,g7,_,_,_,rfl,_,rfl,_,M.sub.cell c8,_,_,_,rfl,pv,rfl,by omega,by omega,_,M.sub.cell cv,v,rfl,_,rfl,by omega,by omega,⟨_,c6⟩,M.k6.froz k,0,0,0,false,bs,_,rfl,_,M1.sub.cell c0,_,M1.sub.cell c1,_,M1.sub.cell c2,_,M1.sub.cell c3,_,_,_,_,_,_,_,_,rfl,_,rfl,_,M1.sub.cell c8,_,_,_,rfl,pv,rfl,by omega,by omega,_,M1.sub.cell cv,v,rfl,?_,fun b70 h70 => ?_⟩
     · rw [wk,wl]; exact hq
     simp only [newSet,newSet0,newCell,newCell0,newFroz,newFroz0,List.setIfInBounds_toArray,List.set_cons_zero,List.set_cons_succ,List.getElem?_toArray,List.getElem?_cons_zero,List.getElem?_cons_succ,Option.some.injEq,exists_eq',true_and,Value.int.injEq,exists_eq_left']
     refine br_iff.2 ⟨fun h => (by cases h),fun _ => ?_⟩
     rw [wk']
     refine hR sl _ hkn ⟨_,l,M1.grow (PH.sub_set h70),hbl',by simp [hbn],hl1,fun i hi w hw d hd => ?_,by omega⟩
     by_cases e:i=k
     · subst e
       rw [hbd i w (by omega) hw rfl,hb] at hd; cases hd
     · exact hl2 i (by omega) w hw d hd
   | some d =>
     rw [hb] at hq
     refine ⟨_,g7,_,_,_,rfl,_,rfl,_,M.sub.cell c8,_,_,_,rfl,pv,rfl,by omega,by omega,_,M.sub.cell cv,v,rfl,_,rfl,by omega,by omega,⟨_,c6⟩,M.k6.froz k,d.1,d.2.1,d.2.2,true,bs,_,rfl,_,M1.sub.cell c0,_,M1.sub.cell c1,_,M1.sub.cell c2,_,M1.sub.cell c3,_,_,_,_,_,_,_,_,rfl,_,rfl,_,M1.sub.cell c8,_,_,_,rfl,pv,rfl,by omega,by omega,_,M1.sub.cell cv,v,rfl,?_,fun b70 h70 => ?_⟩
     · rw [wk,wl]; exact hq
     simp only [newSet,newSet0,newCell,newCell0,newFroz,newFroz0,List.setIfInBounds_toArray,List.set_cons_zero,List.set_cons_succ,List.getElem?_toArray,List.getElem?_cons_zero,List.getElem?_cons_succ,Option.some.injEq,exists_eq',true_and,Value.int.injEq,exists_eq_left']
     refine br_iff.2 ⟨fun _ => ⟨_,_,_,rfl,fun b80 h80 => ?_⟩,fun h => (by cases h)⟩
     refine (M1.grow (PH.sub_set h70)).push d (by omega) h80 fun sl' τ M2 => ⟨_,_,_,rfl,?_⟩
     rw [wk']
     refine hR sl' _ hkn ⟨_,l ++ [d],M2,hbl',by simp [hbn],fun e he => ?_,fun i hi w hw e he => ?_,by simp; omega⟩
     · rcases List.mem_append.1 he with he | he
       · exact hl1 e he
       · rw [List.mem_singleton] at he; subst he; exact ⟨_,hvt,hb⟩
     · by_cases ei:i=k
       · subst ei
         rw [hbd i w (by omega) hw rfl,hb] at he; cases he; simp
       · exact List.mem_append_left _ (hl2 i (by omega) w hw e he)
 · have hkn:k=F.bools:=by omega
   subst hkn
   have hlok:∀ (j:Nat) d,l[j]?=some d→DOk F.ints d∧dX d ≠ dY d:=by
     intro j d hd
     obtain ⟨y,_,hy⟩:=hl1 d (List.mem_of_getElem? hd)
     exact hF.bound hy
   have hAt:=own_atoms M.ol
   have hln':=hAt.1
   have hN:=hF.ints
   refine ⟨_,rfl,_,M.sub.cell c0,_,rfl,?_⟩
   refine c59 hAt (fun j d hd => (hlok j d hd).1) (by omega) (by omega) (fun τ X x hs hX0 hX hx hxb => ?_) fun τ slc c hD => ?_
   · have M2:=M.grow hs
     have X2:X ≠ b2:=ne_new M.k2 hX0
     have X7:X ≠ b7:=ne_new M.k7 hX0
     have st7:Step (·=b7) τ (τ.setCell ((ptr b7).add 1) (.slice (some (ptr X)) F.ints F.ints)):=setCell_step.weaken fun b hb => hb.trans (add_block _ _)
     have k7':=M2.k7.set 1 (.slice (some (ptr X)) F.ints F.ints)
     have k2':=M2.k2.keep st7 M2.d27
     have k6':=M2.k6.keep st7 M2.d67
     have kX':=hX.keep st7 X7
     have sub1:=sub_step_new M2.sub st7 (by rintro b rfl; exact M2.n7)
     have u7:=M2.k7.get (i:=1) rfl
     have f7:=M2.k7.froz 1
     have fin:∀ τ1:PH,σ.sub τ1→Blk τ1 b2 35 [.slice none 0 0,.slice none 0 0]→Blk τ1 b6 4 (boolsV bl)→Blk τ1 X 3 (ints (tab F.ints x))→Blk τ1 b7 35 [.slice (some (ptr b6)) F.bools F.bools,.slice (some (ptr X)) F.ints F.ints] →
         ∃ v100,τ1.cell? (ptr b7)=some v100∧∃ v101,τ1.cell? ((ptr b7).add 1)=some v101∧∃ (a102:Option Addr) (n103:Nat) (c104:Nat) (a105:Option Addr) (n106:Nat) (c107:Nat),Value.agg #[v100,v101]=(.agg #[(.slice a102 n103 c104),(.slice a105 n106 c107)])∧(∃ u108,τ1.cell? (ptr b2)=some u108)∧τ1.froz (ptr b2)=some false∧(∃ u109,(τ1.setCell (ptr b2) (.slice a102 n103 c104)).cell? ((ptr b2).add 1)=some u109)∧(τ1.setCell (ptr b2) (.slice a102 n103 c104)).froz ((ptr b2).add 1)=some false ∧
           ∃ v110,((τ1.setCell (ptr b2) (.slice a102 n103 c104)).setCell ((ptr b2).add 1) (.slice a105 n106 c107)).cell? (ptr b2)=some v110∧∃ v111,((τ1.setCell (ptr b2) (.slice a102 n103 c104)).setCell ((ptr b2).add 1) (.slice a105 n106 c107)).cell? ((ptr b2).add 1)=some v111∧Q (.agg #[v110,v111]) ((τ1.setCell (ptr b2) (.slice a102 n103 c104)).setCell ((ptr b2).add 1) (.slice a105 n106 c107)):=by
       intro τ1 sub1 k2' k6' kX' k7'
       have h7a:=k7'.get (i:=0) rfl
       have h7b:=k7'.get (i:=1) rfl
       have h2a:=k2'.get (i:=0) rfl
       have f2a:=k2'.froz 0
       rw [e0] at h7a h2a f2a
       have st2:Step (·=b2) τ1 (τ1.setCell (ptr b2) (.slice (some (ptr b6)) F.bools F.bools)):=setCell_step.weaken fun b hb => hb
       have k2'':=k2'.set 0 (.slice (some (ptr b6)) F.bools F.bools)
       rw [e0] at k2''
       have st3:Step (·=b2) (τ1.setCell (ptr b2) (.slice (some (ptr b6)) F.bools F.bools)) ((τ1.setCell (ptr b2) (.slice (some (ptr b6)) F.bools F.bools)).setCell ((ptr b2).add 1) (.slice (some (ptr X)) F.ints F.ints)):=setCell_step.weaken fun b hb => hb.trans (add_block _ _)
       have k2x:=k2''.set 1 (.slice (some (ptr X)) F.ints F.ints)
       have r2a:=k2x.get (i:=0) rfl
       rw [e0] at r2a
       refine ⟨_,h7a,_,h7b,_,_,_,_,_,_,rfl,⟨_,h2a⟩,f2a,⟨_,k2''.get (i:=1) rfl⟩,k2''.froz 1,_,r2a,_,k2x.get (i:=1) rfl,?_⟩
       have st23:=st2.trans st3
       refine hQ _ b6 X x (sub_step_new sub1 st23 (by rintro b rfl; exact M2.n2)) M2.n6 (new_of M.sub hX0) ?_ (kX'.keep st23 X2) (fun y hy d hd => ?_) hxb
       · have:tab F.bools (fun i => decide (0 < st.value.getD i 0))=bl:=by
           apply List.ext_getElem?
           intro i
           by_cases hi:i < F.bools
           · rw [tab_get hi,hbl i hi,if_pos hi]
           · rw [List.getElem?_eq_none (by rw [tab_len]; omega),List.getElem?_eq_none (by omega)]
         rw [this]
         exact k6'.keep st23 (Ne.symm M2.d26)
       · have hyl:=hT.lit y hy
         have hvy:=hyl.vr_lt
         obtain ⟨w,w1,w2,w3⟩:=hT.lit_in hvy (hv _ hvy)
         have:w * (((vr y:Nat):Int) + 1)=y:=by
           have e:w * (((vr y:Nat):Int) + 1)=y ∨ w * (((vr y:Nat):Int) + 1)=-y:=by
             obtain ⟨g1,g2⟩:=hyl
             unfold vr
             rcases w2 with rfl | rfl <;> omega
           rcases e with e | e
           · exact e
           · rw [e] at w3; exact absurd w3 (fun h => hT.anti hy h)
         exact hx d (hl2 (vr y) hvy w w1 d (by rw [this]; exact hd))
     refine ⟨τ,PH.sub.refl _,_,_,_,_,_,_,_,rfl,⟨_,u7⟩,f7,?_⟩
     exact fin _ sub1 k2' k6' kX' k7'
   · refine (ring_false hD.ring (x:=x0) fun d hd => ?_).elim
     obtain ⟨j,hj,rfl⟩:=List.mem_map.1 hd
     have:=hD.rng j hj
     have hjl:j.toNat < l.length:=by omega
     have hm:l.getD j.toNat (0,0,0) ∈ l:=by
       rw [List.getD_eq_getElem?_getD,List.getElem?_eq_getElem hjl]; exact List.getElem_mem _
     obtain ⟨y,hy1,hy2⟩:=hl1 _ hm
     exact hx0 y hy1 _ hy2
structure FOkR (i1 i2:Int) (atoms:List Dif) (clauses:List (List Int)):Prop where
 ints:0≤i1∧i1≤32
 bools:0≤i2∧i2≤1024
 cn:clauses.length≤32768
 an:(atoms.length:Int)≤i2
 at':∀ d ∈ atoms,0≤d.1∧d.1 < i1∧0≤d.2.1∧d.2.1 < i1∧d.1 ≠ d.2.1∧-1048576≤d.2.2∧d.2.2≤1048576
 cl:∀ c ∈ clauses,∀ x ∈ c,x ≠ 0∧-i2≤x∧x≤i2
theorem fok_raw {F:Fm} (h:FOk F):FOkR F.ints F.bools F.atoms F.clauses:=by
 have h1:=h.ints
 have h2:=h.bools
 have h3:=h.atoms
 exact ⟨by omega,by omega,h.cn,by omega,h.at',fun c hc x hx => by obtain ⟨q1,q2⟩:=h.cl c hc x hx; exact ⟨q1,by omega,by omega⟩⟩
theorem mem_of_all {α:Type} {l:List α} {P:α→Prop} (h:∀ i x,i < l.length→l[i]?=some x→P x):∀ x ∈ l,P x:=by
 intro x hx
 obtain ⟨i,hi⟩:=List.mem_iff_getElem?.1 hx
 exact h i x (List.getElem?_eq_some_iff.1 hi).1 hi
theorem c35 {σ:PH} {i1 i2:Int} {aa:Option Addr} {an ac:Nat} {ca:Option Addr} {cn cc:Nat} {atoms:List Dif} {clauses:List (List Int)} (hA:Atoms σ aa an atoms) (hL:Lists σ ca cn clauses) (hlen:∀ c ∈ clauses,c.length≤1000000) {Q:Value→PH→Prop}
   (hok:FOkR i1 i2 atoms clauses→∀ τ,σ.sub τ→Q (.int .i64 0) τ) (hno:¬ FOkR i1 i2 atoms clauses→∀ τ e,σ.sub τ→(e=1 ∨ e=2)→Q (.int .i64 e) τ) :
   C 35 #[.agg #[.int .i64 i1,.int .i64 i2,.slice aa an ac,.slice ca cn cc]] Q σ:=by
 refine go (E35_0 _ _ _ _ _ _ _ _ _ _ _) ?_
 unfold S35_0
 have e0:∀ b:Nat,(Addr.mk b 0 none).add 0=⟨b,0,none⟩:=fun b => rfl
 have han:=hA.1
 have hcn:=hL.1
 intro b9 h9
 have s9:=PH.sub_set (o:=.cells #[.int .i64 i1,.int .i64 i2,.slice aa an ac,.slice ca cn cc] 29) h9
 have B9:Blk (σ.set b9 (.cells #[.int .i64 i1,.int .i64 i2,.slice aa an ac,.slice ca cn cc] 29)) b9 29 [.int .i64 i1,.int .i64 i2,.slice aa an ac,.slice ca cn cc]:=set_self
 generalize σ.set b9 (.cells #[.int .i64 i1,.int .i64 i2,.slice aa an ac,.slice ca cn cc] 29)=ω9 at *
 have g0:=B9.get (i:=0) rfl
 rw [e0] at g0
 refine ⟨_,g0,_,rfl,br_dec.2 ⟨fun h => hno (fun f => by have:=f.ints; omega) _ _ s9 (.inr rfl),fun h1 => ?_⟩⟩
 refine ⟨_,B9.get (i:=1) rfl,_,rfl,br_dec.2 ⟨fun h => hno (fun f => by have:=f.bools; omega) _ _ s9 (.inr rfl),fun h2 => ?_⟩⟩
 refine ⟨_,B9.get (i:=3) rfl,_,_,_,rfl,br_dec.2 ⟨fun h => hno (fun f => by have:=f.cn; omega) _ _ s9 (.inr rfl),fun h3 => ?_⟩⟩
 refine ⟨_,g0,_,rfl,br_dec.2 ⟨fun h => hno (fun f => by have:=f.ints; omega) _ _ s9 (.inl rfl),fun h4 => ?_⟩⟩
 refine ⟨_,B9.get (i:=1) rfl,_,rfl,br_dec.2 ⟨fun h => hno (fun f => by have:=f.bools; omega) _ _ s9 (.inl rfl),fun h5 => ?_⟩⟩
 refine ⟨_,B9.get (i:=2) rfl,_,_,_,rfl,_,B9.get (i:=1) rfl,_,rfl,br_dec.2 ⟨fun h => hno (fun f => by have:=f.an; omega) _ _ s9 (.inl rfl),fun h6 => ?_⟩⟩
 refine ⟨_,B9.get (i:=2) rfl,_,_,_,rfl,?_⟩
 unfold S35_1
 refine iloopS_for (G:=Unit) (fun k _ => (ptr b9,aa,an,ac,(an:Int),(k:Int))) (fun k _ υ => ω9.sub υ∧∀ j d,j < k→atoms[j]?=some d→0≤d.1∧d.1 < i1∧0≤d.2.1∧d.2.1 < i1∧d.1 ≠ d.2.1∧-1048576≤d.2.2∧d.2.2≤1048576) an ?_ (g:=()) ⟨PH.sub.refl _,fun j d h => by omega⟩
 rintro k _ υ hk ⟨hs,hall⟩ R hR
 unfold S35_2
 dsimp only
 have hsu:=s9.trans hs
 refine br_dec.2 ⟨fun hlt => ?_,fun hge => ?_⟩
 · have hkn:k < an:=by omega
   obtain ⟨d,hd⟩:∃ d,atoms[k]?=some d:=⟨_,List.getElem?_eq_getElem (by omega)⟩
   have hdm:=List.mem_of_getElem? hd
   obtain ⟨p,hp,a0,a1,a2⟩:=(hA.sub hsu).2 k d hd
   refine ⟨p,hp,by omega,by omega,_,by rw [Int.toNat_natCast]; exact a0,_,by rw [Int.toNat_natCast]; exact a1,_,by rw [Int.toNat_natCast]; exact a2,_,_,_,rfl,fun b hb => ?_⟩
   have sb:=PH.sub_set (o:=.cells #[.int .i64 d.1,.int .i64 d.2.1,.int .i64 d.2.2] 50) hb
   simp only [newSet,newSet0,newCell,newCell0,newFroz,newFroz0,List.setIfInBounds_toArray,List.set_cons_zero,List.set_cons_succ,List.getElem?_toArray,List.getElem?_cons_zero,List.getElem?_cons_succ,Option.some.injEq,exists_eq',true_and,Value.int.injEq,exists_eq_left']
   generalize υ.set b (.cells #[.int .i64 d.1,.int .i64 d.2.1,.int .i64 d.2.2] 50)=ω at *
   have sω:=hsu.trans sb
   have g0ω:=(hs.trans sb).cell g0
   have wk:IntKind.wrap .i64 ((k:Int) + 1)=((k + 1:Nat):Int):=by rw [w64 (by omega) (by omega)]; omega
   have no:¬ (0≤d.1∧d.1 < i1∧0≤d.2.1∧d.2.1 < i1∧d.1 ≠ d.2.1∧-1048576≤d.2.2∧d.2.2≤1048576)→Q (.int .i64 1) ω:=fun hn => hno (fun f => hn (f.at' d hdm)) ω 1 sω (.inl rfl)
   refine br_dec.2 ⟨fun h => no (by omega),fun q1 => ⟨_,g0ω,_,rfl,br_dec.2 ⟨fun h => no (by omega),fun q2 => br_dec.2 ⟨fun h => no (by omega),fun q3 => ⟨_,g0ω,_,rfl,br_dec.2 ⟨fun h => no (by omega),fun q4 => br_iff.2 ⟨fun h => no ?_,fun q5 => br_dec.2 ⟨fun h => no (by omega),fun q6 => br_dec.2 ⟨fun h => no (by omega),fun q7 => ?_⟩⟩⟩⟩⟩⟩⟩⟩⟩
   · have:d.1=d.2.1:=by simpa using h
     omega
   · have q5:d.1 ≠ d.2.1:=by simpa using q5
     rw [wk]
     refine hR () _ hkn ⟨hs.trans sb,fun j e hj he => ?_⟩
     by_cases ej:j=k
     · subst ej
       rw [hd] at he; cases he
       omega
     · exact hall j e (by omega) he
 · have hkn:k=an:=by omega
   subst hkn
   have hat:∀ d ∈ atoms,0≤d.1∧d.1 < i1∧0≤d.2.1∧d.2.1 < i1∧d.1 ≠ d.2.1∧-1048576≤d.2.2∧d.2.2≤1048576:=mem_of_all fun i d hi hd => hall i d (by omega) hd
   refine ⟨_,hs.cell (B9.get (i:=3) rfl),_,_,_,rfl,?_⟩
   unfold S35_3
   refine iloopS_for (G:=Unit) (fun k _ => (ptr b9,ca,cn,cc,(cn:Int),(k:Int))) (fun k _ τ => υ=τ∧∀ j c,j < k→clauses[j]?=some c→∀ x ∈ c,x ≠ 0∧-i2≤x∧x≤i2) cn ?_ (g:=()) ⟨rfl,fun j d h => by omega⟩
   rintro k2 _ _ hk2 ⟨rfl,hall2⟩ R2 hR2
   unfold S35_4
   dsimp only
   refine br_dec.2 ⟨fun hlt => ?_,fun hge => ?_⟩
   · have hkn2:k2 < cn:=by omega
     obtain ⟨c,hc⟩:∃ c,clauses[k2]?=some c:=⟨_,List.getElem?_eq_getElem (by omega)⟩
     have hcm:=List.mem_of_getElem? hc
     obtain ⟨p,x,m,kk,hp,hcell,hI,hmk⟩:=(hL.sub hsu).2 k2 c hc
     have hmc:=hI.1
     have hcl:=hlen c hcm
     have wk2:IntKind.wrap .i64 ((k2:Int) + 1)=((k2 + 1:Nat):Int):=by rw [w64 (by omega) (by omega)]; omega
     refine ⟨p,hp,by omega,by omega,_,by rw [Int.toNat_natCast,Nat.mul_one]; exact hcell,_,_,_,rfl,?_⟩
     unfold S35_5
     refine iloopS_for (G:=Unit) (fun k _ => (ptr b9,ca,cn,cc,(cn:Int),(k2:Int),x,m,kk,(m:Int),(k:Int))) (fun k _ τ => υ=τ∧∀ j y,j < k→c[j]?=some y→y ≠ 0∧-i2≤y∧y≤i2) m ?_ (g:=()) ⟨rfl,fun j d h => by omega⟩
     rintro k3 _ _ hk3 ⟨rfl,hall3⟩ R3 hR3
     unfold S35_6
     dsimp only
     refine br_dec.2 ⟨fun hlt3 => ?_,fun hge3 => ?_⟩
     · have hkn3:k3 < m:=by omega
       obtain ⟨y,hy⟩:∃ y,c[k3]?=some y:=⟨_,List.getElem?_eq_getElem (by omega)⟩
       have hym:=List.mem_of_getElem? hy
       obtain ⟨p3,hp3,hc3⟩:=hI.2.at (i:=k3) (v:=.int .i64 y) (by simp [hy])
       have wk3:IntKind.wrap .i64 ((k3:Int) + 1)=((k3 + 1:Nat):Int):=by rw [w64 (by omega) (by omega)]; omega
       have wi:IntKind.wrap .i64 (0 - i2)=-i2:=by rw [w64 (by omega) (by omega)]; omega
       have g1:=hs.cell (B9.get (i:=1) rfl)
       have no:¬ (y ≠ 0∧-i2≤y∧y≤i2)→Q (.int .i64 1) υ:=fun hn => hno (fun f => hn (f.cl c hcm y hym)) υ 1 hsu (.inl rfl)
       refine ⟨p3,hp3,by omega,by omega,_,by rw [Int.toNat_natCast,Nat.mul_one]; exact hc3,y,rfl,br_iff.2 ⟨fun h => no ?_,fun q1 => ⟨_,g1,_,rfl,br_dec.2 ⟨fun h => no (by omega),fun q2 => ⟨_,g1,_,rfl,?_⟩⟩⟩⟩⟩
       · have:y=0:=by simpa using h
         omega
       · rw [wi]
         refine br_dec.2 ⟨fun h => no (by omega),fun q3 => ?_⟩
         have q1:y ≠ 0:=by simpa using q1
         rw [wk3]
         refine hR3 () _ hkn3 ⟨rfl,fun j z hj hz => ?_⟩
         by_cases ej:j=k3
         · subst ej
           rw [hy] at hz; cases hz
           exact ⟨q1,by omega,by omega⟩
         · exact hall3 j z (by omega) hz
     · have hkn3:k3=m:=by omega
       subst hkn3
       rw [wk2]
       refine hR2 () _ hkn2 ⟨rfl,fun j c' hj hc' => ?_⟩
       by_cases ej:j=k2
       · subst ej
         rw [hc] at hc'; cases hc'
         exact mem_of_all fun i y hi hy => hall3 i y (by omega) hy
       · exact hall2 j c' (by omega) hc'
   · exact hok ⟨by omega,by omega,by omega,by omega,hat,mem_of_all fun i c hi hc => hall2 i c (by omega) hc⟩ υ hsu
end Go.Proofs.Ythfnjogadngfiaa
