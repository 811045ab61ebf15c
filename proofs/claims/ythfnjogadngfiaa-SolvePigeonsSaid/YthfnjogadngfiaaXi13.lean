/- A part of the proof: see the last text, YthfnjogadngfiaaXi14. -/
import Derived.Test.YthfnjogadngfiaaXi12
set_option maxRecDepth 100000
set_option linter.unusedVariables false
set_option linter.unusedSimpArgs false
namespace Go.Sv
def litT (bl:List Bool) (y:Int):Prop:=if 0 < y then bl.getD (y - 1).toNat false=true else bl.getD (-y - 1).toNat false=false
structure SatM (F:Fm) (bl:List Bool) (x:Nat→Int):Prop where
 len:bl.length=F.bools
 cl:∀ c ∈ F.clauses,∃ y ∈ c,litT bl y
 at':∀ (i:Nat) d,F.atoms[i]?=some d→(bl.getD i false=true ↔ x (dX d) - x (dY d)≤d.2.2)
 rng:∀ v,v < F.ints→-1000000000000000≤x v∧x v≤0
theorem Tr.or {n:Nat} {value:List Int} {level:List Nat} {trail:List Int} {limits:List Nat} (h:Tr n value level trail limits) (hv:∀ i,i < n→value[i]? ≠ some 0) {y:Int} (hy:LitN n y):y ∈ trail ∨ -y ∈ trail:=by
 obtain ⟨w,w1,w2,w3⟩:=h.lit_in hy.vr_lt (hv _ hy.vr_lt)
 have e:w * (((vr y:Nat):Int) + 1)=y ∨ w * (((vr y:Nat):Int) + 1)=-y:=by
   obtain ⟨g1,g2⟩:=hy
   unfold vr
   rcases w2 with rfl | rfl <;> omega
 rcases e with e | e
 · rw [e] at w3; exact .inl w3
 · rw [e] at w3; exact .inr w3
theorem sat_clauses {F:Fm} {n:Nat} {st:St} (hF:FOk F) (hn:n=F.bools) (hI:Inv F n st) (hW:WI n st st.W st.trail.length) (hC:Cov F st) (hv:∀ i,i < n→st.value[i]? ≠ some 0):∀ c ∈ F.clauses,∃ y ∈ c,y ∈ st.trail:=by
 intro c hc
 have hl:=hF.cl c hc
 rw [← hn] at hl
 have hnb:=hF.bools
 cases hnm:norm c with
 | none =>
   have:¬ Clean c:=fun h => by obtain ⟨o,ho⟩:=norm_ok h; rw [hnm] at ho; cases ho
   unfold Clean at this
   have:∃ x ∈ c,-x ∈ c:=by
     apply Classical.byContradiction
     intro hne
     exact this fun x hx => ⟨(hl x hx).1,by obtain ⟨_,h2⟩:=hl x hx; unfold minInt; omega,fun h => hne ⟨x,hx,h⟩⟩
   obtain ⟨x,h1,h2⟩:=this
   rcases hI.tr.or hv (hl x h1) with h | h
   · exact ⟨x,h1,h⟩
   · exact ⟨-x,h2,h⟩
 | some l =>
   obtain ⟨_,hm,_⟩:=norm_some hnm
   rcases hC c hc l hnm with ⟨r,q1,rc,q2,q3⟩ | ⟨x,q1,q2,_⟩
   · obtain ⟨rc',q4,q5⟩:=hW.cl r q1
     rw [q2] at q4; cases q4
     obtain ⟨a,ha⟩:∃ a,rc.lits[0]?=some a:=⟨_,List.getElem?_eq_getElem (by omega)⟩
     obtain ⟨b,hb⟩:∃ b,rc.lits[1]?=some b:=⟨_,List.getElem?_eq_getElem (by omega)⟩
     have ha':=List.mem_of_getElem? ha
     have hac:=(hm a).1 ((q3 a).1 ha')
     rcases hI.tr.or hv (hl a hac) with h | h
     · exact ⟨a,hac,h⟩
     · obtain ⟨h1,_⟩:=hW.ok r q1 rc q2 a b (.inl ⟨ha,hb⟩) (by rw [List.take_length]; exact h)
       exact ⟨b,(hm b).1 ((q3 b).1 (List.mem_of_getElem? hb)),h1⟩
   · subst q1
     exact ⟨x,(hm x).1 (by simp),q2⟩
theorem litT_of {n:Nat} {value:List Int} {level:List Nat} {trail:List Int} {limits:List Nat} (h:Tr n value level trail limits) {bl:List Bool} (hb:∀ i,i < n→bl[i]?=some (decide (0 < value.getD i 0))) {y:Int} (hy:y ∈ trail):litT bl y:=by
 have hl:=h.lit y hy
 have hv:=h.val (vr y) hl.vr_lt
 have hbv:=hb (vr y) hl.vr_lt
 rw [List.getD_eq_getElem?_getD,hv] at hbv
 obtain ⟨g1,g2⟩:=hl
 unfold Go.Sv.litT
 split
 · rename_i hp
   have e:(y - 1).toNat=vr y:=by unfold vr; omega
   rw [e,List.getD_eq_getElem?_getD,hbv]
   have:((vr y:Nat):Int) + 1=y:=by unfold vr; omega
   simp [sg,this,hy]
 · rename_i hp
   have e:(-y - 1).toNat=vr y:=by unfold vr; omega
   rw [e,List.getD_eq_getElem?_getD,hbv]
   have e2:((vr y:Nat):Int) + 1=-y:=by unfold vr; omega
   have hn:-y ∉ trail:=fun hm => h.anti hy hm
   have e3:-(((vr y:Nat):Int) + 1)=y:=by omega
   simp [sg,e2,hn,hy]
theorem sat_model {F:Fm} {n:Nat} {st:St} (hF:FOk F) (hn:n=F.bools) (hI:Inv F n st) (hW:WI n st st.W st.trail.length) (hC:Cov F st) (hv:∀ i,i < n→st.value[i]? ≠ some 0) {bl:List Bool} (hbl:bl.length=n) (hb:∀ i,i < n→bl[i]?=some (decide (0 < st.value.getD i 0))) {x:Nat→Int} (hx:∀ y ∈ st.trail,∀ d,bound F y=some d→x (dX d) - x (dY d)≤d.2.2) (hxb:∀ v,v < F.ints→-1000000000000000≤x v∧x v≤0):SatM F bl x:=by
 refine ⟨by omega,fun c hc => ?_,fun i d hd => ?_,hxb⟩
 · obtain ⟨y,h1,h2⟩:=sat_clauses hF hn hI hW hC hv c hc
   exact ⟨y,h1,litT_of hI.tr hb h2⟩
 · have hi:=(List.getElem?_eq_some_iff.1 hd).1
   have hal:=hF.atoms
   have hin:i < n:=by omega
   obtain ⟨w,w1,w2,w3⟩:=hI.tr.lit_in hin (hv i hin)
   have hbi:bl.getD i false=decide (0 < w):=by rw [List.getD_eq_getElem?_getD,hb i hin,List.getD_eq_getElem?_getD,w1]; rfl
   rw [hbi]
   rcases w2 with rfl | rfl
   · rw [Int.one_mul] at w3
     have:=hx _ w3 d (bound_pos hd)
     simp [this]
   · rw [Int.neg_mul,Int.one_mul] at w3
     have:=hx _ w3 _ (bound_neg (a:=d.1) (b:=d.2.1) (c:=d.2.2) hd)
     have e1:dX (d.2.1,d.1,-d.2.2 - 1)=dY d:=rfl
     have e2:dY (d.2.1,d.1,-d.2.2 - 1)=dX d:=rfl
     rw [e1,e2] at this
     simp only [show ¬ ((0:Int) < -1) from by decide,decide_false,Bool.false_eq_true,false_iff]
     dsimp only at this
     omega
end Go.Sv
namespace Go.Proofs.Ythfnjogadngfiaa
open Go.Sl Go.Sv
def StepsM (τ:PH) (a:Option Addr) (n:Nat) (ps:List PStep):Prop :=
 ps.length=n∧∀ (i:Nat) p,ps[i]?=some p→∃ q x m c,a=some q∧τ.cell? (q.add (i * 6))=some (.int .i64 p.kind)∧τ.cell? ((q.add (i * 6)).add 1)=some (.int .i64 p.index)∧τ.cell? ((q.add (i * 6)).add 2)=some (.slice x m c)∧Ints τ x m p.lits∧m≤c ∧
   τ.cell? ((q.add (i * 6)).add 3)=some (.int .i64 p.p)∧τ.cell? ((q.add (i * 6)).add 4)=some (.int .i64 p.q)∧τ.cell? ((q.add (i * 6)).add 5)=some (.int .i64 p.v)
theorem StepsM.sub {σ τ:PH} (hs:σ.sub τ) {a:Option Addr} {n:Nat} {ps:List PStep} (h:StepsM σ a n ps):StepsM τ a n ps:=by
 refine ⟨h.1,fun i p hp => ?_⟩
 obtain ⟨q,x,m,c,h1,h2,h3,h4,h5,h6,h7,h8,h9⟩:=h.2 i p hp
 exact ⟨q,x,m,c,h1,hs.cell h2,hs.cell h3,hs.cell h4,h5.sub hs,h6,hs.cell h7,hs.cell h8,hs.cell h9⟩
theorem Sol.stepsM {σ:PH} {T:Nat→Tag} {s:Nat} {g:Low} (H:Sol σ T s g) {st:St} (A:Abs g st):(g.F 4).n≤(g.F 4).c∧StepsM σ (g.F 4).a (g.F 4).n st.steps:=by
 have hO:=H.fld 4 95 6 rfl
 refine ⟨hO.1.le,⟨(H.n4 A).symm,fun i p hp => ?_⟩⟩
 obtain ⟨g',x,H',hff',A',hx,hn4,q,hq,c0,c1,c2,c3,c4,c5⟩:=copyStep ⟨g,H,rfl,A⟩ hp
 have f1:=H.field (k:=4) rfl
 have f2:=H'.field (k:=4) rfl
 rw [f1] at f2
 simp only [Option.some.injEq,Value.slice.injEq] at f2
 obtain ⟨e1,_,_⟩:=f2
 rw [e1]
 obtain ⟨k1,k2,k3,k4,k5,k6⟩:=hx
 rw [k1] at c0; rw [k2] at c1; rw [k3] at c3; rw [k4] at c4; rw [k5] at c5
 rcases k6 with ⟨l1,l2⟩ | ⟨r,y,l1,l2,l3⟩
 · rw [l1] at c2
   exact ⟨q,none,0,0,hq,c0,c1,c2,by rw [l2]; exact own_ints own_nil,Nat.le_refl _,c3,c4,c5⟩
 · have hc:=(H'.rc r y l1).1
   rw [l3] at hc
   rw [l2] at c2
   exact ⟨q,y.c.a,y.c.n,y.c.c,hq,c0,c1,c2,own_ints hc,hc.le,c3,c4,c5⟩
theorem c17 {F:Fm} {σ:PH} (hF:FOk F) (h40:F.bools≤40) (hlen:∀ c ∈ F.clauses,c.length≤1000000) {aa ca:Option Addr} {an ac cn cc:Nat} (hA:Atoms σ aa an F.atoms) (hL:Lists σ ca cn F.clauses) (ha:an≤ac) (hcc:cn≤cc) {Q:Value→PH→Prop}
   (hsat:∀ τ b X bl x,σ.sub τ→Blk τ b 4 (boolsV bl)→Blk τ X 3 (ints (tab F.ints x))→SatM F bl x→Q (.tuple #[.agg #[.slice (some (ptr b)) F.bools F.bools,.slice (some (ptr X)) F.ints F.ints],.slice none 0 0,.bool true]) τ)
   (hunsat:∀ τ a n c ps cs,σ.sub τ→StepsM τ a n ps→n≤c→stepsOf F ps=some cs→cs.getLast?=some []→n≤3500000000000→Q (.tuple #[.agg #[.slice none 0 0,.slice none 0 0],.slice a n c,.bool false]) τ) :
   C 17 #[.agg #[.int .i64 F.ints,.int .i64 F.bools,.slice aa an ac,.slice ca cn cc]] Q σ:=by
 refine go (E17_0 _ _ _ _ _ _ _ _ _ _ _) ?_
 unfold S17_0
 have e0:∀ b:Nat,(Addr.mk b 0 none).add 0=⟨b,0,none⟩:=fun b => rfl
 intro b9 h9
 have s9:=PH.sub_set (o:=.cells #[.int .i64 F.ints,.int .i64 F.bools,.slice aa an ac,.slice ca cn cc] 29) h9
 have B9:Blk (σ.set b9 (.cells #[.int .i64 F.ints,.int .i64 F.bools,.slice aa an ac,.slice ca cn cc] 29)) b9 29 [.int .i64 F.ints,.int .i64 F.bools,.slice aa an ac,.slice ca cn cc]:=set_self
 generalize σ.set b9 (.cells #[.int .i64 F.ints,.int .i64 F.bools,.slice aa an ac,.slice ca cn cc] 29)=ω9 at *
 intro b10 h10
 have s10:=PH.sub_set (o:=.cells #[.slice none 0 0,.slice none 0 0] 35) h10
 have B10:Blk (ω9.set b10 (.cells #[.slice none 0 0,.slice none 0 0] 35)) b10 35 [.slice none 0 0,.slice none 0 0]:=set_self
 have B9a:=s10 _ _ B9
 have nb10:σ b10=none:=new_of s9 h10
 have sω:=s9.trans s10
 generalize ω9.set b10 (.cells #[.slice none 0 0,.slice none 0 0] 35)=ω at *
 clear B9 s9 s10 h10
 have B9:Blk ω b9 29 [.int .i64 F.ints,.int .i64 F.bools,.slice aa an ac,.slice ca cn cc]:=B9a
 have g0:=B9.get (i:=0) rfl
 rw [e0] at g0
 refine ⟨_,g0,_,B9.get (i:=1) rfl,_,B9.get (i:=2) rfl,_,B9.get (i:=3) rfl,_,_,_,_,_,_,_,_,rfl,?_⟩
 refine c35 (hA.sub sω) (hL.sub sω) hlen (fun _ υ hs => ?_) fun hno => absurd (fok_raw hF) hno
 have B9u:Blk υ b9 29 [.int .i64 F.ints,.int .i64 F.bools,.slice aa an ac,.slice ca cn cc]:=hs _ _ B9
 have B10u:Blk υ b10 35 [.slice none 0 0,.slice none 0 0]:=hs _ _ B10
 have g0u:=B9u.get (i:=0) rfl
 rw [e0] at g0u
 refine ⟨υ,PH.sub.refl _,0,rfl,br_iff.2 ⟨fun h => (by cases h),fun _ => ?_⟩⟩
 refine ⟨_,g0u,_,B9u.get (i:=1) rfl,_,B9u.get (i:=2) rfl,_,B9u.get (i:=3) rfl,_,_,_,_,_,_,_,_,rfl,?_⟩
 have sσυ:=sω.trans hs
 refine r36 hF rfl hlen rfl (hL.sub sσυ) fun τ T s st h1 R1 N1 => ⟨τ,PH.sub.refl _,_,rfl,?_⟩
 have hf:Frm (oth τ T) [.int .i64 F.ints,.int .i64 F.bools,.slice aa an ac,.slice ca cn cc] F:=⟨aa,an,ac,ca,cn,cc,rfl,(hA.sub sσυ).sub h1,(hL.sub sσυ).sub h1,ha,hcc⟩
 refine r37 hF rfl h40 R1 hf N1 (fun τ2 T2 st2 x D2 R2 I2 W2 C2 hv hx => ?_) fun τ2 T2 st2 cs D2 R2 hcs hlast hsn => ?_
 · have B10t:Blk τ2 b10 35 [.slice none 0 0,.slice none 0 0]:=oth_sub _ _ _ _ (D2.oth _ _ (h1 _ _ B10u))
   have sub2:σ.sub τ2:=((sσυ.trans h1).trans D2.oth).trans (oth_sub _ _)
   refine ⟨τ2,PH.sub.refl _,_,rfl,br_iff.2 ⟨fun _ => ?_,fun h => (by cases h)⟩⟩
   refine r38 hF rfl R2 (hf.sub D2.oth) I2 hv hx fun τ3 b X x' hs3 hb0 hX0 kb kX hx' hxb' => ?_
   have B10v:Blk τ3 b10 35 [.slice none 0 0,.slice none 0 0]:=hs3 _ _ B10t
   have sub3:=sub2.trans hs3
   have c0:=B10v.get (i:=0) rfl
   have f0:=B10v.froz 0
   rw [e0] at c0 f0
   have k1:=B10v.set 0 (.slice (some (ptr b)) F.bools F.bools)
   rw [e0] at k1
   have k2:=k1.set 1 (.slice (some (ptr X)) F.ints F.ints)
   have r0:=k2.get (i:=0) rfl
   rw [e0] at r0
   have st1:Step (·=b10) τ3 (τ3.setCell (ptr b10) (.slice (some (ptr b)) F.bools F.bools)):=setCell_step.weaken fun b hb => hb
   have st2':Step (·=b10) (τ3.setCell (ptr b10) (.slice (some (ptr b)) F.bools F.bools)) ((τ3.setCell (ptr b10) (.slice (some (ptr b)) F.bools F.bools)).setCell ((ptr b10).add 1) (.slice (some (ptr X)) F.ints F.ints)):=setCell_step.weaken fun b hb => hb.trans (add_block _ _)
   have stt:=st1.trans st2'
   have nbb:b ≠ b10:=ne_new B10t hb0
   have nbX:X ≠ b10:=ne_new B10t hX0
   refine ⟨τ3,PH.sub.refl _,_,_,_,_,_,_,rfl,⟨_,c0⟩,f0,⟨_,k1.get (i:=1) rfl⟩,k1.froz 1,_,r0,_,k2.get (i:=1) rfl,?_⟩
   refine hsat _ b X _ x' (sub_step_new sub3 stt (by rintro q rfl; exact nb10)) (kb.keep stt nbb) (kX.keep stt nbX) ?_
   exact sat_model hF rfl I2 W2 C2 hv tab_len (fun i hi => tab_get hi) hx' hxb'
 · have B10t:Blk τ2 b10 35 [.slice none 0 0,.slice none 0 0]:=oth_sub _ _ _ _ (D2.oth _ _ (h1 _ _ B10u))
   have to:T2 b10=.other:=by
     have h:=D2.oth _ _ (h1 _ _ B10u)
     unfold oth at h
     split at h
     · assumption
     · cases h
   have sub2:σ.sub τ2:=((sσυ.trans h1).trans D2.oth).trans (oth_sub _ _)
   obtain ⟨g,H,hff,A⟩:=R2
   have hsb:s ≠ b10:=by
     rintro rfl
     have:=H.tag
     rw [to] at this; cases this
   have c0:=B10t.get (i:=0) rfl
   have f0:=B10t.froz 0
   rw [e0] at c0 f0
   have k1:=B10t.set 0 (.slice none 0 0)
   rw [e0] at k1
   have k2:=k1.set 1 (.slice none 0 0)
   have r0:=k2.get (i:=0) rfl
   rw [e0] at r0
   have st1:Step (·=b10) τ2 (τ2.setCell (ptr b10) (.slice none 0 0)):=setCell_step.weaken fun b hb => hb
   have st2':Step (·=b10) (τ2.setCell (ptr b10) (.slice none 0 0)) ((τ2.setCell (ptr b10) (.slice none 0 0)).setCell ((ptr b10).add 1) (.slice none 0 0)):=setCell_step.weaken fun b hb => hb.trans (add_block _ _)
   have stt:=st1.trans st2'
   have H3:=H.keep stt fun b hb e => hb (by rw [e]; exact to)
   obtain ⟨hnc,hSM⟩:=H3.stepsM A
   have hn4:=H.n4 A
   refine ⟨τ2,PH.sub.refl _,_,rfl,br_iff.2 ⟨fun h => (by cases h),fun _ => ?_⟩⟩
   refine ⟨_,rfl,_,H.field (k:=4) rfl,_,_,_,rfl,fun h => hsb (by have:=h.1; rw [add_block] at this; exact this.symm),fun h => hsb (by have:=h.1; rw [add_block,add_block] at this; exact this.symm),⟨_,c0⟩,f0,⟨_,k1.get (i:=1) rfl⟩,k1.froz 1,_,r0,_,k2.get (i:=1) rfl,?_⟩
   exact hunsat _ _ _ _ _ cs (sub_step_new sub2 stt (by rintro q rfl; exact nb10)) hSM hnc hcs hlast (by omega)
theorem c44 {x:Int} (hl:Lit x) (σ:PH):C 44 #[.int .i64 x] (fun v τ => v=.int .i64 (x.natAbs:Nat)∧τ=σ) σ:=by
 refine go (E44_0 _ _ _ _) ?_
 unfold S44_0
 obtain ⟨h1,h2⟩:=hl
 refine br_dec.2 ⟨fun hn => ⟨?_,rfl⟩,fun hn => ⟨?_,rfl⟩⟩
 · rw [w64 (by omega) (by omega)]
   congr 1; omega
 · congr 1; omega
theorem c33 {σ:PH} {i1 i2:Int} {aa:Option Addr} {an ac:Nat} {ca:Option Addr} {cn cc:Nat} {F:Fm} (hA:Atoms σ aa an F.atoms) (hC:∀ d ∈ F.atoms,-1048576≤d.2.2∧d.2.2≤1048576) (han:an≤1000000) {x:Int} (hl:Lit x) {Q:Value→PH→Prop} (hQ:∀ τ,σ.sub τ→Q (bndV (bound F x)) τ) :
   C 33 #[.agg #[.int .i64 i1,.int .i64 i2,.slice aa an ac,.slice ca cn cc],.int .i64 x] Q σ:=by
 refine go (E33_0 _ _ _ _ _ _ _ _ _ _ _ _) ?_
 unfold S33_0
 intro b10 h10 b11 h11
 have e0:∀ b:Nat,(Addr.mk b 0 none).add 0=⟨b,0,none⟩:=fun b => rfl
 have s1:=PH.sub_set (o:=.cells #[.int .i64 i1,.int .i64 i2,.slice aa an ac,.slice ca cn cc] 29) h10
 have s2:=PH.sub_set (o:=.cells #[.int .i64 0,.int .i64 0,.int .i64 0] 50) h11
 obtain ⟨hb1,hb2⟩:=hl
 have hal:=hA.1
 have B10:Blk ((σ.set b10 (.cells #[.int .i64 i1,.int .i64 i2,.slice aa an ac,.slice ca cn cc] 29)).set b11 (.cells #[.int .i64 0,.int .i64 0,.int .i64 0] 50)) b10 29 [.int .i64 i1,.int .i64 i2,.slice aa an ac,.slice ca cn cc]:=s2 _ _ set_self
 have B11:Blk ((σ.set b10 (.cells #[.int .i64 i1,.int .i64 i2,.slice aa an ac,.slice ca cn cc] 29)).set b11 (.cells #[.int .i64 0,.int .i64 0,.int .i64 0] 50)) b11 50 [.int .i64 0,.int .i64 0,.int .i64 0]:=set_self
 have n11:σ b11=none:=new_of s1 h11
 have sub:=s1.trans s2
 generalize ((σ.set b10 (.cells #[.int .i64 i1,.int .i64 i2,.slice aa an ac,.slice ca cn cc] 29)).set b11 (.cells #[.int .i64 0,.int .i64 0,.int .i64 0] 50))=ω at *
 have st:∀ (ω:PH) i v,Step (·=b11) ω (ω.setCell ((ptr b11).add i) v):=fun ω i v => setCell_step.weaken fun b hb => hb.trans (add_block _ _)
 have fin:∀ (ω':PH),ω.sub ω'→∀ (v0 v1 v2:Int) (q:Bool),Q (.tuple #[.agg #[.int .i64 v0,.int .i64 v1,.int .i64 v2],.bool q]) (((ω'.setCell (ptr b11) (.int .i64 v0)).setCell ((ptr b11).add 1) (.int .i64 v1)).setCell ((ptr b11).add 2) (.int .i64 v2)) →
     (∃ u,ω'.cell? (ptr b11)=some u)∧ω'.froz (ptr b11)=some false∧(∃ u,(ω'.setCell (ptr b11) (.int .i64 v0)).cell? ((ptr b11).add 1)=some u)∧(ω'.setCell (ptr b11) (.int .i64 v0)).froz ((ptr b11).add 1)=some false ∧
     (∃ u,((ω'.setCell (ptr b11) (.int .i64 v0)).setCell ((ptr b11).add 1) (.int .i64 v1)).cell? ((ptr b11).add 2)=some u)∧((ω'.setCell (ptr b11) (.int .i64 v0)).setCell ((ptr b11).add 1) (.int .i64 v1)).froz ((ptr b11).add 2)=some false ∧
     ∃ w0,(((ω'.setCell (ptr b11) (.int .i64 v0)).setCell ((ptr b11).add 1) (.int .i64 v1)).setCell ((ptr b11).add 2) (.int .i64 v2)).cell? (ptr b11)=some w0∧∃ w1,(((ω'.setCell (ptr b11) (.int .i64 v0)).setCell ((ptr b11).add 1) (.int .i64 v1)).setCell ((ptr b11).add 2) (.int .i64 v2)).cell? ((ptr b11).add 1)=some w1 ∧
     ∃ w2,(((ω'.setCell (ptr b11) (.int .i64 v0)).setCell ((ptr b11).add 1) (.int .i64 v1)).setCell ((ptr b11).add 2) (.int .i64 v2)).cell? ((ptr b11).add 2)=some w2∧Q (.tuple #[.agg #[w0,w1,w2],.bool q]) (((ω'.setCell (ptr b11) (.int .i64 v0)).setCell ((ptr b11).add 1) (.int .i64 v1)).setCell ((ptr b11).add 2) (.int .i64 v2)):=by
   intro ω' hs v0 v1 v2 q hq
   have B:=hs _ _ B11
   have k0:Blk (ω'.setCell (ptr b11) (.int .i64 v0)) b11 50 [.int .i64 v0,.int .i64 0,.int .i64 0]:=(show Blk ω' b11 50 _ from B).set 0 (.int .i64 v0)
   have k1:Blk ((ω'.setCell (ptr b11) (.int .i64 v0)).setCell ((ptr b11).add 1) (.int .i64 v1)) b11 50 [.int .i64 v0,.int .i64 v1,.int .i64 0]:=k0.set 1 (.int .i64 v1)
   have k2:Blk (((ω'.setCell (ptr b11) (.int .i64 v0)).setCell ((ptr b11).add 1) (.int .i64 v1)).setCell ((ptr b11).add 2) (.int .i64 v2)) b11 50 [.int .i64 v0,.int .i64 v1,.int .i64 v2]:=k1.set 2 (.int .i64 v2)
   have g0:=(show Blk ω' b11 50 _ from B).get (i:=0) rfl
   have f0:=(show Blk ω' b11 50 _ from B).froz 0
   have r0:=k2.get (i:=0) rfl
   rw [e0] at g0 f0 r0
   exact ⟨⟨_,g0⟩,f0,⟨_,k0.get (i:=1) rfl⟩,k0.froz 1,⟨_,k1.get (i:=2) rfl⟩,k1.froz 2,_,r0,_,k2.get (i:=1) rfl,_,k2.get (i:=2) rfl,hq⟩
 have fsub:∀ (ω':PH),ω.sub ω'→∀ (v0 v1 v2:Int),σ.sub (((ω'.setCell (ptr b11) (.int .i64 v0)).setCell ((ptr b11).add 1) (.int .i64 v1)).setCell ((ptr b11).add 2) (.int .i64 v2)):=fun ω' hs v0 v1 v2 =>
   sub_step_new (sub_step_new (sub_step_new (sub.trans hs) (st ω' 0 _) (by rintro b rfl; exact n11)) (st _ 1 _) (by rintro b rfl; exact n11)) (st _ 2 _) (by rintro b rfl; exact n11)
 have ans:∀ (ω':PH),ω.sub ω'→∀ (v0 v1 v2:Int) (q:Bool),bndV (bound F x)=.tuple #[.agg #[.int .i64 v0,.int .i64 v1,.int .i64 v2],.bool q]→Q (.tuple #[.agg #[.int .i64 v0,.int .i64 v1,.int .i64 v2],.bool q]) (((ω'.setCell (ptr b11) (.int .i64 v0)).setCell ((ptr b11).add 1) (.int .i64 v1)).setCell ((ptr b11).add 2) (.int .i64 v2)):=by
   intro ω' hs v0 v1 v2 q e
   rw [← e]
   exact hQ _ (fsub ω' hs v0 v1 v2)
 have c2:=B10.get (i:=2) rfl
 refine br_iff.2 ⟨fun h0 => ?_,fun h0 => ?_⟩
 · have hx:x=0:=by simpa using h0
   refine fin ω (.refl _) 0 0 0 false (ans ω (.refl _) 0 0 0 false ?_)
   unfold bound; rw [if_pos hx]; rfl
 · have hx:x ≠ 0:=by simpa using h0
   have wn:IntKind.wrap .i64 (0 - (an:Int))=-(an:Int):=by rw [w64 (by omega) (by omega)]; omega
   have none':F.atoms.length≤vr x→bndV (bound F x)=.tuple #[.agg #[.int .i64 0,.int .i64 0,.int .i64 0],.bool false]:=by
     intro h
     unfold bound
     rw [if_neg hx,List.getElem?_eq_none h]; rfl
   refine ⟨_,c2,_,_,_,rfl,br_dec.2 ⟨fun hgt => fin ω (.refl _) 0 0 0 false (ans ω (.refl _) 0 0 0 false (none' (by unfold vr; omega))),fun hle => ?_⟩⟩
   refine ⟨_,c2,_,_,_,rfl,?_⟩
   rw [wn]
   refine br_dec.2 ⟨fun hlt => fin ω (.refl _) 0 0 0 false (ans ω (.refl _) 0 0 0 false (none' (by unfold vr; omega))),fun hge => ?_⟩
   have hv:vr x < F.atoms.length:=by unfold vr; omega
   obtain ⟨d,hd⟩:∃ d,F.atoms[vr x]?=some d:=⟨_,List.getElem?_eq_getElem hv⟩
   have hCm:=hC d (List.mem_of_getElem? hd)
   obtain ⟨p,hp,a0,a1,a2⟩:=(hA.sub sub).2 _ d hd
   refine br_dec.2 ⟨fun hpos => ?_,fun hneg => ?_⟩
   · have w1:IntKind.wrap .i64 (x - 1)=((vr x:Nat):Int):=by unfold vr; rw [w64 (by omega) (by omega)]; omega
     refine ⟨_,c2,_,_,_,rfl,p,hp,?_⟩
     rw [w1]
     simp only [Int.toNat_natCast]
     refine ⟨by omega,by omega,_,a0,_,a1,_,a2,_,_,_,rfl,fin ω (.refl _) d.1 d.2.1 d.2.2 true (ans ω (.refl _) _ _ _ _ ?_)⟩
     unfold bound
     rw [if_neg hx,hd]
     dsimp only
     rw [if_pos (by omega)]; rfl
   · have w1:IntKind.wrap .i64 (IntKind.wrap .i64 (0 - x) - 1)=((vr x:Nat):Int):=by unfold vr; rw [w64 (n:=0 - x) (by omega) (by omega),w64 (by omega) (by omega)]; omega
     refine ⟨_,c2,_,_,_,rfl,p,hp,?_⟩
     rw [w1]
     simp only [Int.toNat_natCast]
     refine ⟨by omega,by omega,_,a0,_,a1,_,a2,_,_,_,rfl,fun b66 h66 => ?_⟩
     simp only [newSet,newSet0,newCell,newCell0,newFroz,newFroz0,List.setIfInBounds_toArray,List.set_cons_zero,List.set_cons_succ,List.getElem?_toArray,List.getElem?_cons_zero,List.getElem?_cons_succ,Option.some.injEq,exists_eq',true_and,Value.int.injEq,exists_eq_left']
     have w2:IntKind.wrap .i64 (IntKind.wrap .i64 (0 - d.2.2) - 1)=-d.2.2 - 1:=by rw [w64 (n:=0 - d.2.2) (by omega) (by omega),w64 (by omega) (by omega)]; omega
     rw [w2]
     refine fin _ (PH.sub_set h66) d.2.1 d.1 (-d.2.2 - 1) true (ans _ (PH.sub_set h66) _ _ _ _ ?_)
     unfold bound
     rw [if_neg hx,hd]
     dsimp only
     rw [if_neg (by omega)]; rfl
end Go.Proofs.Ythfnjogadngfiaa
namespace Go.Sv
theorem ins_at {x:Int}:∀ {o:List Int} {i:Nat},i≤o.length→(∀ (j:Nat) y,j < i→o[j]?=some y→y.natAbs < x.natAbs)→(∀ y,o[i]?=some y→¬ y.natAbs < x.natAbs) →
   ins x o=(match o[i]? with | some y => if y=x then some o else if y=-x then none else some (o.take i ++ x :: o.drop i) | none => some (o.take i ++ [x]))
 | [],0,_,_,_ => rfl
 | y :: ys,0,_,_,h2 => by
   have:=h2 y rfl
   unfold ins
   rw [if_neg this]
   rfl
 | y :: ys,i + 1,h0,h1,h2 => by
   have hy:=h1 0 y (by omega) rfl
   have ih:=ins_at (x:=x) (o:=ys) (i:=i) (by simpa using h0) (fun j z hj hz => h1 (j + 1) z (by omega) (by simpa using hz)) (fun z hz => h2 z (by simpa using hz))
   unfold ins
   rw [if_pos hy,ih]
   have e:(y :: ys)[i + 1]?=ys[i]?:=by simp
   rw [e]
   cases hz:ys[i]? with
   | none => simp
   | some z =>
     dsimp only
     by_cases q1:z=x
     · rw [if_pos q1,if_pos q1]; rfl
     · rw [if_neg q1,if_neg q1]
       by_cases q2:z=-x
       · rw [if_pos q2,if_pos q2]; rfl
       · rw [if_neg q2,if_neg q2]; simp
end Go.Sv
namespace Go.Proofs.Ythfnjogadngfiaa
open Go.Sl Go.Sv
theorem append_fresh {σ:PH} {a xb:Option Addr} {n c m mc:Nat} {l0 l1:List Int} (hr0:readsRow σ a (ints l0)) (hl0:l0.length=n) (hr1:readsRow σ xb (ints l1)) (hl1:l1.length=m) (hc:c < n + m) (hbig:n + m≤10000000000000) {Q:Value→PH→Prop}
   (hQ:∀ b c' τ,σ b=none→σ.sub τ→Own τ 3 1 (some ⟨b,0,none⟩) (n + m) c' (ints (l0 ++ l1))→Q (.slice (some ⟨b,0,none⟩) (n + m) c') τ) :
   iappend prog 3 (.slice a n c) (.slice xb m mc) Q σ:=by
 unfold iappend
 obtain ⟨h1,h2,h3⟩:=t3
 simp only [h1,h2,h3]
 refine ⟨ints l0,ints l1,by simp [ints,hl0],by simp [ints,hl1],hr0,hr1,fun hle => by omega,fun hlt => ⟨by decide,?_,fun c' b hc' hbn => ?_⟩⟩
 · exact Nat.le_trans (Nat.mul_le_mul_right _ (nextcap_le hlt)) (by omega)
 · refine hQ b c' _ hbn (PH.sub_set hbn) ⟨by simp [ints,hl0,hl1],hc',.inr ⟨b,_,rfl,set_self,?_,?_⟩⟩
   · simp only [Array.size_append,List.size_toArray,zeros,Builtin.zeroCells,Array.size_map,Array.size_range]
     simp [ints,hl0,hl1,Value.cells]
     omega
   · simp only [Array.toList_append]
     rw [List.take_append_of_le_length (by simp [ints,hl0,hl1])]
     simp [ints,hl0,hl1,List.take_of_length_le]
theorem take_reads {σ:PH} {e:TypeId} {a:Option Addr} {n c:Nat} {vs:List Value} (o:Own σ e 1 a n c vs) (m:Nat):readsRow σ a (vs.take m):=by
 refine row_reads ?_
 rcases Own.row' o with h | ⟨p,h1,h2⟩
 · left; rw [h]; simp
 · right
   refine ⟨p,h1,fun i v hv => h2 i v ?_⟩
   rw [List.getElem?_take] at hv
   split at hv
   · exact hv
   · cases hv
theorem c62 {σ:PH} {a:Option Addr} {n c:Nat} {l:List Int} (hl:Ints σ a n l) (hlit:∀ x ∈ l,Lit x) (hn:l.length≤1000000) {Q:Value→PH→Prop}
   (hok:∀ τ (sl:Sli) out,σ.sub τ→norm l=some out→Own τ 3 1 sl.a sl.n sl.c (ints out)→(∀ p,sl.a=some p→σ p.block=none)→Q (.tuple #[sl.v,.bool true]) τ)
   (hno:∀ τ,σ.sub τ→norm l=none→Q (.tuple #[.slice none 0 0,.bool false]) τ) :
   C 62 #[.slice a n c] Q σ:=by
 refine go (E62_0 _ _ _ _ _ _) ?_
 unfold S62_0 S62_1
 have hln:=hl.1
 refine iloopS_for (G:=Sli) (fun k sl => (sl.a,sl.n,sl.c,a,n,c,(n:Int),(k:Int))) (fun k sl υ => ∃ o,σ.sub υ∧Own υ 3 1 sl.a sl.n sl.c (ints o)∧(∀ p,sl.a=some p→σ p.block=none)∧normFrom o (l.drop k)=norm l∧o.length≤k∧∀ y ∈ o,Lit y) n ?_
   (g:=⟨none,0,0⟩) ⟨[],.refl _,own_nil,(fun p hp => by cases hp),rfl,by simp,by simp⟩
 rintro k sl υ hk ⟨o,hs,hO,hnew,hnf,hol,hoL⟩ R1 hR1
 unfold S62_2
 dsimp only at hO hnew ⊢
 have hon:=own_len hO
 refine br_dec.2 ⟨fun hlt => ?_,fun hge => ?_⟩
 · have hkn:k < n:=by omega
   obtain ⟨x,hx⟩:∃ x,l[k]?=some x:=⟨_,List.getElem?_eq_getElem (by omega)⟩
   have hxL:=hlit x (List.mem_of_getElem? hx)
   obtain ⟨hx1,hx2⟩:=hxL
   obtain ⟨p,hp,hc⟩:=(hl.sub hs).2.at (i:=k) (v:=.int .i64 x) (by simp [hx])
   have hdk:l.drop k=x :: l.drop (k + 1):=by
     rw [List.drop_eq_getElem_cons (by omega)]
     congr 1
     exact (List.getElem?_eq_some_iff.1 hx).2
   have wk:IntKind.wrap .i64 ((k:Int) + 1)=((k + 1:Nat):Int):=by rw [w64 (by omega) (by omega)]; omega
   have wx:IntKind.wrap .i64 (0 - x)=-x:=by rw [w64 (by omega) (by omega)]; omega
   rw [hdk] at hnf
   refine ⟨p,hp,by omega,by omega,_,by rw [Int.toNat_natCast,Nat.mul_one]; exact hc,x,rfl,br_iff.2 ⟨fun h0 => ?_,fun h0 => ?_⟩⟩
   · have hx0:x=0:=by simpa using h0
     refine hno υ hs ?_
     rw [← hnf]
     unfold normFrom
     rw [if_pos (.inl hx0)]
   · have hx0:x ≠ 0:=by simpa using h0
     rw [wx]
     refine br_iff.2 ⟨fun h1 => ?_,fun _ => ?_⟩
     · have:x=-x:=by simpa using h1
       omega
     have hnf':(match ins x o with | none => none | some o' => normFrom o' (l.drop (k + 1)))=norm l:=by
       rw [← hnf]
       conv => rhs; unfold normFrom
       rw [if_neg (by unfold minInt; omega)]
       cases ins x o <;> rfl
     unfold S62_3
     refine iloopS_for (G:=Unit) (fun i _ => (sl.a,sl.n,sl.c,x,(i:Int),a,n,c,(n:Int),(k:Int))) (fun i _ τ => υ=τ∧∀ (j:Nat) y,j < i→o[j]?=some y→y.natAbs < x.natAbs) sl.n ?_ (g:=()) ⟨rfl,fun j y h => by omega⟩
     rintro i _ _ hi ⟨rfl,hlow⟩ R3 hR3
     unfold S62_4
     dsimp only
     have app:(∀ y,o[i]?=some y→¬ y.natAbs < x.natAbs)→(∀ y,o[i]?=some y→y ≠ x∧y ≠ -x)→∀ b:Nat,υ b=none→(0:Int)≤(i:Int)∧(i:Int)≤((sl.n:Nat):Int)∧iappend prog 3 (.slice (some ⟨b,0,none⟩) 1 1) (.slice (cutAt sl.a sl.c (Int.toNat (i:Int)) 1) (sl.n - Int.toNat (i:Int)) (sl.c - Int.toNat (i:Int))) (fun v τ => ∃ (a1:Option Addr) (n1:Nat) (c1:Nat),v=(.slice a1 n1 c1)∧(0:Int)≤(i:Int)∧(i:Int)≤((sl.c:Nat):Int)∧(0:Int)≤(i:Int)∧(i:Int)≤(i:Int) ∧
         iappend prog 3 (.slice sl.a (Int.toNat (i:Int)) (Int.toNat (i:Int))) (.slice a1 n1 c1) (fun v τ => ∃ (a2:Option Addr) (n2:Nat) (c2:Nat),v=(.slice a2 n2 c2)∧R1 (a2,n2,c2,a,n,c,(n:Int),(IntKind.wrap .i64 ((k:Int) + (1:Int)))) τ) τ) (PH.set υ b (.cells #[(.int .i64 x)] 3)):=by
       intro hnl hneq b hbn
       have hle:=hO.le
       refine ⟨by omega,by omega,?_⟩
       rw [Int.toNat_natCast]
       have sb:=PH.sub_set (o:=.cells #[.int .i64 x] 3) hbn
       have Ob:Own (υ.set b (.cells #[.int .i64 x] 3)) 3 1 (some ⟨b,0,none⟩) 1 1 (ints [x]):=⟨by simp [ints],Nat.le_refl _,.inr ⟨b,_,rfl,set_self,by simp,by simp [ints]⟩⟩
       have hO':=hO.keep (M:=fun _ => False) sb.step fun _ _ h => h
       have hcr:=cut_reads hO' (m:=i) (by omega)
       refine Own.append t3.1 t3.2.1 t3.2.2 rfl (by decide) Ob (news:=ints (o.drop i)) (m:=sl.n - i) ?_ (by simp [ints]; omega) (by intro v hv; obtain ⟨y,_,rfl⟩:=List.mem_map.1 hv; trivial) (by omega) fun a1 c1 τ hO1 hst hnew1 => ?_
       · unfold ints at hcr ⊢
         rwa [← List.map_drop] at hcr
       · refine ⟨_,_,_,rfl,by omega,by omega,by omega,by omega,?_⟩
         have hbs:σ b=none:=new_of hs hbn
         have hO2:Own τ 3 1 sl.a sl.n sl.c (ints o):=hO'.keep hst (by
           rintro q hq ⟨q',h1,h2⟩
           cases h1
           exact hO.known hq (by rw [h2]; exact hbn))
         have sτ:σ.sub τ:=sub_step_new (hs.trans sb) hst (by rintro q ⟨q',h1,rfl⟩; cases h1; exact hbs)
         have hr0:=take_reads hO2 i
         refine append_fresh (l0:=o.take i) (l1:=x :: o.drop i) ?_ (by simp; omega) ?_ (by simp; omega) (by omega) (by omega) fun b2 c2 τ2 hb2 hs2 hO3 => ⟨_,_,_,rfl,?_⟩
         · unfold ints at hr0 ⊢
           rwa [← List.map_take] at hr0
         · have:=hO1.reads
           simpa [ints] using this
         · rw [wk]
           have hins:ins x o=some (o.take i ++ x :: o.drop i):=by
             rw [ins_at (by omega) hlow hnl]
             cases hoi:o[i]? with
             | none =>
               have:o.length≤i:=by
                 rcases Nat.lt_or_ge i o.length with h | h
                 · rw [List.getElem?_eq_getElem h] at hoi; cases hoi
                 · exact h
               rw [List.drop_eq_nil_of_le this]
             | some y =>
               obtain ⟨g1,g2⟩:=hneq y hoi
               dsimp only
               rw [if_neg g1,if_neg g2]
           refine hR1 ⟨some ⟨b2,0,none⟩,_,c2⟩ _ hkn ⟨o.take i ++ x :: o.drop i,sτ.trans hs2,hO3,fun q hq => by cases hq; exact new_of sτ hb2,?_,by simp; omega,fun y hy => ?_⟩
           · rw [hins] at hnf'
             exact hnf'
           · rcases List.mem_append.1 hy with hy | hy
             · exact hoL y (List.mem_of_mem_take hy)
             · rcases List.mem_cons.1 hy with rfl | hy
               · exact ⟨hx1,hx2⟩
               · exact hoL y (List.mem_of_mem_drop hy)
     refine br_dec.2 ⟨fun hilt => ?_,fun hige => ?_⟩
     · have hil:i < o.length:=by omega
       obtain ⟨y,hy⟩:∃ y,o[i]?=some y:=⟨_,List.getElem?_eq_getElem hil⟩
       have hyL:=hoL y (List.mem_of_getElem? hy)
       obtain ⟨q,hq,hcq⟩:=hO.get (i:=i) (v:=.int .i64 y) (by simp [ints,hy])
       have wi:IntKind.wrap .i64 ((i:Int) + 1)=((i + 1:Nat):Int):=by rw [w64 (by omega) (by omega)]; omega
       have hcq':υ.cell? (q.add (Int.toNat (i:Int) * 1))=some (.int .i64 y):=by rw [Int.toNat_natCast,Nat.mul_one]; exact hcq
       refine ⟨q,hq,by omega,by omega,_,hcq',y,rfl,(c44 hyL _).mono hb ?_⟩
       rintro _ τ ⟨rfl,eτ⟩
       obtain rfl:=eτ.symm
       refine ⟨_,.refl _,_,rfl,(c44 ⟨hx1,hx2⟩ _).mono hb ?_⟩
       rintro _ τ ⟨rfl,eτ⟩
       obtain rfl:=eτ.symm
       refine ⟨_,.refl _,_,rfl,br_dec.2 ⟨fun hab => ?_,fun hab => ?_⟩⟩
       · rw [wi]
         refine hR3 () _ (by omega) ⟨rfl,fun j z hj hz => ?_⟩
         by_cases e:j=i
         · subst e
           rw [hy] at hz; cases hz; omega
         · exact hlow j z (by omega) hz
       · have hnl:∀ z,o[i]?=some z→¬ z.natAbs < x.natAbs:=by
           intro z hz; rw [hy] at hz; cases hz; omega
         refine br_dec.2 ⟨fun _ => ⟨q,hq,by omega,by omega,_,hcq',y,rfl,br_iff.2 ⟨fun he => ?_,fun he => ?_⟩⟩,fun h => absurd hilt h⟩
         · have he:y=x:=by simpa using he
           rw [wk]
           refine hR1 sl _ hkn ⟨o,hs,hO,hnew,?_,by omega,hoL⟩
           rw [ins_at (by omega) hlow hnl,hy] at hnf'
           dsimp only at hnf'
           rw [if_pos he] at hnf'
           exact hnf'
         · have he:y ≠ x:=by simpa using he
           refine br_dec.2 ⟨fun _ => ⟨q,hq,by omega,by omega,_,hcq',y,rfl,?_⟩,fun h => absurd hilt h⟩
           rw [wx]
           refine br_iff.2 ⟨fun he2 => ?_,fun he2 => ?_⟩
           · have he2:y=-x:=by simpa using he2
             refine hno υ hs ?_
             rw [ins_at (by omega) hlow hnl,hy] at hnf'
             dsimp only at hnf'
             rw [if_neg he,if_pos he2] at hnf'
             exact hnf'.symm
           · have he2:y ≠ -x:=by simpa using he2
             exact app hnl fun z hz => by rw [hy] at hz; cases hz; exact ⟨he,he2⟩
     · have hil:o[i]?=none:=List.getElem?_eq_none (by omega)
       refine br_dec.2 ⟨fun h => absurd h hige,fun _ => br_dec.2 ⟨fun h => absurd h hige,fun _ => ?_⟩⟩
       exact app (fun z hz => by rw [hil] at hz; cases hz) (fun z hz => by rw [hil] at hz; cases hz)
 · have hkn:k=n:=by omega
   subst hkn
   rw [List.drop_eq_nil_of_le (by omega)] at hnf
   exact hok υ sl o hs hnf.symm hO hnew
end Go.Proofs.Ythfnjogadngfiaa
namespace Go.Sv
theorem chain_next:∀ {l:List Dif} {a b:Int},chain a b l→(∀ d,l[0]?=some d→d.1=a)∧(∀ (i:Nat) d e,l[i]?=some d→l[i + 1]?=some e→d.2.1=e.1)∧(∀ d,l[l.length - 1]?=some d→d.2.1=b)
 | [],a,b,h => ⟨by simp,by simp,by simp⟩
 | x :: t,a,b,h => by
   obtain ⟨h1,h2⟩:=h
   obtain ⟨g1,g2,g3⟩:=chain_next h2
   refine ⟨fun d hd => by simp at hd; subst hd; exact h1,fun i d e hd he => ?_,fun d hd => ?_⟩
   · cases i with
     | zero => simp at hd; subst hd; exact (g1 e (by simpa using he)).symm
     | succ i => exact g2 i d e (by simpa using hd) (by simpa using he)
   · cases t with
     | nil => simp at hd; subst hd; exact h2
     | cons y t' =>
       refine g3 d ?_
       simpa using hd
theorem ring_next {l:List Dif} (h:ring l):∀ (i:Nat) d e,l[i]?=some d→l[(i + 1) % l.length]?=some e→d.2.1=e.1:=by
 obtain ⟨a,hc,hs⟩:=h
 obtain ⟨h1,h2,h3⟩:=chain_next hc
 intro i d e hd he
 have hi:=(List.getElem?_eq_some_iff.1 hd).1
 by_cases hl:i + 1 < l.length
 · rw [Nat.mod_eq_of_lt hl] at he
   exact h2 i d e hd he
 · have e1:i + 1=l.length:=by omega
   rw [e1,Nat.mod_self] at he
   rw [h1 e he]
   exact h3 d (by rw [show l.length - 1=i from by omega]; exact hd)
theorem sumC_take {l:List Dif} {K:Int} (hK:0≤K) (h:∀ d ∈ l,-K≤d.2.2∧d.2.2≤K) (k:Nat):-(k * K)≤sumC (l.take k)∧sumC (l.take k)≤k * K:=by
 induction k with
 | zero => simp [sumC]
 | succ k ih =>
   cases hd:l[k]? with
   | none =>
     have:l.take (k + 1)=l.take k:=by rw [List.take_add_one,hd]; simp
     rw [this]
     have:((k + 1:Nat):Int) * K=k * K + K:=by rw [Int.natCast_add,Int.add_mul]; simp
     omega
   | some d =>
     have:=h d (List.mem_of_getElem? hd)
     have e:sumC (l.take (k + 1))=sumC (l.take k) + d.2.2:=by
       rw [List.take_add_one,hd]
       unfold sumC
       simp
     rw [e]
     have:((k + 1:Nat):Int) * K=k * K + K:=by rw [Int.natCast_add,Int.add_mul]; simp
     omega
end Go.Sv
namespace Go.Proofs.Ythfnjogadngfiaa
open Go.Sl Go.Sv
def upto (n:Nat):List Int:=(List.range n).map fun (i:Nat) => (i:Int)
theorem upto_len {n:Nat}:(upto n).length=n:=by simp [upto]
theorem upto_get {n i:Nat} (h:i < n):(upto n)[i]?=some (i:Int):=by simp [upto,h]
theorem upto_succ (n:Nat):upto (n + 1)=upto n ++ [(n:Int)]:=by unfold upto; rw [List.range_succ,List.map_append]; rfl
theorem c87 {σ:PH} {la:Option Addr} {ln lc:Nat} {l:List Dif} (hA:Atoms σ la ln l) {a:Option Addr} {n c:Nat} (hI:Ints σ a n (upto n)) (hn:l.length=n) (hl:n≤1000000) (hK:∀ d ∈ l,-1048577≤d.2.2∧d.2.2≤1048577) (hr:ring l) {Q:Value→PH→Prop} (hQ:Q (.bool true) σ) :
   C 87 #[.slice la ln lc,.slice a n c] Q σ:=by
 refine go (E87_0 _ _ _ _ _ _ _ _ _) ?_
 unfold S87_0 S87_1
 have hln:=hA.1
 have hne:=ring_ne hr
 have hn0:0 < n:=by
   cases l with
   | nil => exact absurd rfl hne
   | cons x t => simp at hn; omega
 refine iloopS_for (G:=Unit) (fun k _ => (la,ln,lc,a,n,c,sumC (l.take k),a,n,c,(n:Int),(k:Int))) (fun k _ υ => σ=υ) n ?_ (g:=()) rfl
 rintro k _ _ hk rfl R hR
 unfold S87_2
 dsimp only
 refine br_dec.2 ⟨fun hlt => ?_,fun hge => ?_⟩
 · have hkn:k < n:=by omega
   obtain ⟨d,hd⟩:∃ d,l[k]?=some d:=⟨_,List.getElem?_eq_getElem (by omega)⟩
   have hnx:(k + 1) % n < n:=Nat.mod_lt _ hn0
   obtain ⟨e,he⟩:∃ e,l[(k + 1) % n]?=some e:=⟨_,List.getElem?_eq_getElem (by omega)⟩
   obtain ⟨p,hp,hc⟩:=hI.2.at (i:=k) (v:=.int .i64 (k:Int)) (by simp [upto_get hkn])
   obtain ⟨p',hp',hc'⟩:=hI.2.at (i:=(k + 1) % n) (v:=.int .i64 (((k + 1) % n:Nat):Int)) (by simp [upto_get hnx])
   rw [hp] at hp'; cases hp'
   obtain ⟨q,hq,d0,d1,d2⟩:=hA.2 k d hd
   obtain ⟨q',hq',e0,e1,e2⟩:=hA.2 _ e he
   rw [hq] at hq'; cases hq'
   have wk:IntKind.wrap .i64 ((k:Int) + 1)=((k + 1:Nat):Int):=by rw [w64 (by omega) (by omega)]; omega
   have tm:Int.tmod ((k + 1:Nat):Int) (n:Int)=(((k + 1) % n:Nat):Int):=by
     rw [Int.tmod_eq_emod_of_nonneg (by omega)]
     exact (Int.natCast_emod _ _).symm
   have hde:d.2.1=e.1:=ring_next hr k d e hd (by rw [hn]; exact he)
   have hdK:=hK d (List.mem_of_getElem? hd)
   have hsum:=sumC_take (l:=l) (K:=1048577) (by omega) hK k
   have hst:sumC (l.take (k + 1))=sumC (l.take k) + d.2.2:=by
     rw [List.take_add_one,hd]; unfold sumC; simp
   have wsum:IntKind.wrap .i64 (sumC (l.take k) + d.2.2)=sumC (l.take (k + 1)):=by rw [hst,w64 (by omega) (by omega)]
   refine ⟨p,hp,by omega,by omega,_,by rw [Int.toNat_natCast,Nat.mul_one]; exact hc,_,rfl,br_dec.2 ⟨fun h => by omega,fun _ => br_dec.2 ⟨fun h => by omega,fun _ => ?_⟩⟩⟩
   rw [wk,tm]
   refine ⟨by omega,rfl,p,hp,by omega,by omega,_,by rw [Int.toNat_natCast,Nat.mul_one]; exact hc',_,rfl,br_dec.2 ⟨fun h => by omega,fun _ => br_dec.2 ⟨fun h => by omega,fun _ => ?_⟩⟩⟩
   simp only [Int.toNat_natCast]
   refine ⟨q,hq,by omega,by omega,_,d1,_,rfl,q,hq,by omega,by omega,_,e0,_,rfl,br_iff.2 ⟨fun h => ?_,fun _ => ⟨q,hq,by omega,by omega,_,d2,_,rfl,?_⟩⟩⟩
   · have h:d.2.1 ≠ e.1:=by simpa using h
     exact absurd hde h
   · rw [wsum]
     exact hR () _ hkn rfl
 · have hkn:k=n:=by omega
   subst hkn
   refine br_dec.2 ⟨fun _ => ?_,fun h => absurd (by omega) h⟩
   have:sumC (l.take k) < 0:=by
     rw [List.take_of_length_le (by omega)]
     obtain ⟨_,_,h⟩:=hr
     exact h
   rw [decide_eq_true this]
   exact hQ
structure Tri (σ υ:PH) (sl:Sli) (l:List Dif) (sc:Sli) (js:List Int) (sn:Sli) (ns:List Int):Prop where
 col:Col σ υ sl l sc js
 on:Own υ 3 1 sn.a sn.n sn.c (ints ns)
 nn:∀ p,sn.a=some p→σ p.block=none
 d1:∀ p q,sl.a=some p→sn.a=some q→p.block ≠ q.block
 d2:∀ p q,sc.a=some p→sn.a=some q→p.block ≠ q.block
theorem Tri.grow {σ υ τ:PH} {sl:Sli} {l:List Dif} {sc:Sli} {js:List Int} {sn:Sli} {ns:List Int} (h:Tri σ υ sl l sc js sn ns) (hs:υ.sub τ):Tri σ τ sl l sc js sn ns :=
 ⟨h.col.grow hs,h.on.keep (M:=fun _ => False) hs.step fun _ _ h => h,h.nn,h.d1,h.d2⟩
open Classical in
theorem Tri.push {σ υ:PH} {sl:Sli} {l:List Dif} {sc:Sli} {js:List Int} {sn:Sli} {ns:List Int} (h:Tri σ υ sl l sc js sn ns) (d:Dif) (j x:Int) (hn1:l.length≤1000000) (hn2:js.length≤1000000) (hn3:ns.length≤1000000) {b:Nat} (hb:υ b=none) {R:Sli→Sli→Sli→PH→Prop}
   (hR:∀ sl' sc' sn' τ,Tri σ τ sl' (l ++ [d]) sc' (js ++ [j]) sn' (ns ++ [x])→R sl' sc' sn' τ) :
   iappend prog 50 (.slice sl.a sl.n sl.c) (.slice (some ⟨b,0,none⟩) 1 1) (fun v τ => ∃ (a:Option Addr) (n c:Nat),v=(.slice a n c)∧∀ b2:Nat,τ b2=none→iappend prog 3 (.slice sc.a sc.n sc.c) (.slice (some ⟨b2,0,none⟩) 1 1) (fun v τ => ∃ (a':Option Addr) (n' c':Nat),v=(.slice a' n' c') ∧
     ∀ b3:Nat,τ b3=none→iappend prog 3 (.slice sn.a sn.n sn.c) (.slice (some ⟨b3,0,none⟩) 1 1) (fun v τ => ∃ (a3:Option Addr) (n3 c3:Nat),v=(.slice a3 n3 c3)∧R ⟨a,n,c⟩ ⟨a',n',c'⟩ ⟨a3,n3,c3⟩ τ) (PH.set τ b3 (.cells #[(.int .i64 x)] 3))) (PH.set τ b2 (.cells #[(.int .i64 j)] 3))) (PH.set υ b (.cells #[.int .i64 d.1,.int .i64 d.2.1,.int .i64 d.2.2] 50)):=by
 obtain ⟨σ',hσ'⟩:∃ σ':PH,σ'=fun b => if ∃ q,sn.a=some q∧b=q.block then υ b else σ b:=⟨_,rfl⟩
 have in':∀ q,sn.a=some q→σ' q.block=υ q.block:=fun q hq => by rw [hσ']; exact if_pos ⟨q,hq,rfl⟩
 have out':∀ b,(∀ q,sn.a=some q→b ≠ q.block)→σ' b=σ b:=fun b hb => by rw [hσ']; exact if_neg (by rintro ⟨q,h1,h2⟩; exact hb q h1 h2)
 have sub0:σ.sub σ':=by
   intro b o hbo
   rw [out' b (by rintro q hq rfl; rw [h.nn q hq] at hbo; cases hbo)]
   exact hbo
 have sub1:σ'.sub υ:=by
   intro b o hbo
   by_cases hq:∃ q,sn.a=some q∧b=q.block
   · obtain ⟨q,h1,rfl⟩:=hq
     rw [in' q h1] at hbo; exact hbo
   · rw [out' b (fun q h1 h2 => hq ⟨q,h1,h2⟩)] at hbo
     exact h.col.sub b o hbo
 have col':Col σ' υ sl l sc js:=⟨sub1,h.col.ol,h.col.oi,fun p hp => by rw [out' _ (fun q hq => h.d1 p q hp hq)]; exact h.col.nl p hp,fun p hp => by rw [out' _ (fun q hq => h.d2 p q hp hq)]; exact h.col.ni p hp,h.col.ne⟩
 refine col'.push d j hn1 hn2 hb (R:=fun sl' sc' τ => ∀ b3:Nat,τ b3=none→iappend prog 3 (.slice sn.a sn.n sn.c) (.slice (some ⟨b3,0,none⟩) 1 1) (fun v τ => ∃ (a3:Option Addr) (n3 c3:Nat),v=(.slice a3 n3 c3)∧R sl' sc' ⟨a3,n3,c3⟩ τ) (PH.set τ b3 (.cells #[(.int .i64 x)] 3))) fun sl' sc' τ hC b3 hb3 => ?_
 have on':Own τ 3 1 sn.a sn.n sn.c (ints ns):=by
   refine ⟨h.on.len,h.on.le,?_⟩
   rcases h.on.row with h1 | ⟨b0,arr,h1,h2,h3⟩
   · exact .inl h1
   · exact .inr ⟨b0,arr,h1,hC.sub _ _ (by rw [in' _ h1]; exact h2),h3⟩
 have hnl:∀ p q,sl'.a=some p→sn.a=some q→p.block ≠ q.block:=by
   intro p q hp hq e
   have:=hC.nl p hp
   rw [e,in' q hq] at this
   exact h.on.known hq this
 have hnc:∀ p q,sc'.a=some p→sn.a=some q→p.block ≠ q.block:=by
   intro p q hp hq e
   have:=hC.ni p hp
   rw [e,in' q hq] at this
   exact h.on.known hq this
 have old:∀ {b:Nat},σ' b=none→σ b=none:=fun hb => new_of sub0 hb
 have l3:=own_len h.on
 refine pushRow t3.1 t3.2.1 t3.2.2 rfl (by decide) on' hb3 (news:=[.int .i64 x]) rfl ?_ (by omega) ?_
 · intro v hv; simp at hv; subst hv; trivial
 · intro a3 c3 τ3 hO3 hst hnew3
   have sστ:σ.sub τ:=sub0.trans hC.sub
   refine ⟨_,_,_,rfl,hR _ _ ⟨a3,sn.n + 1,c3⟩ _ ⟨⟨sub_step_new sστ hst (by rintro q ⟨p,h1,rfl⟩; exact h.nn p h1),hC.ol.keep hst (by rintro p hp ⟨q,h1,h2⟩; exact hnl p q hp h1 h2),hC.oi.keep hst (by rintro p hp ⟨q,h1,h2⟩; exact hnc p q hp h1 h2),fun p hp => old (hC.nl p hp),fun p hp => old (hC.ni p hp),hC.ne⟩,by simpa [ints] using hO3,fun p hp => ?_,fun p q hp hq => ?_,fun p q hp hq => ?_⟩⟩
   · rcases hnew3 p hp with ⟨p',h1,h2⟩ | h1
     · rw [h2]; exact h.nn p' h1
     · exact new_of sστ h1
   · rcases hnew3 q hq with ⟨q',h1,h2⟩ | h1
     · rw [h2]; exact hnl p q' hp h1
     · exact fun e => hC.ol.known hp (e ▸ h1)
   · rcases hnew3 q hq with ⟨q',h1,h2⟩ | h1
     · rw [h2]; exact hnc p q' hp h1
     · exact fun e => hC.oi.known hp (e ▸ h1)
theorem bounds_get {F:Fm}:∀ {lits:List Int} {l:List Dif},bounds F lits=some l→∀ (i:Nat) x,lits[i]?=some x→∃ d,bound F x=some d∧l[i]?=some d
 | [],l,h,i,x,hx => by simp at hx
 | y :: t,l,h,i,x,hx => by
   unfold bounds at h
   split at h
   · cases h
   · rename_i d hd
     split at h
     · cases h
     · rename_i l' hl'
       cases h
       cases i with
       | zero => simp at hx; subst hx; exact ⟨d,hd,rfl⟩
       | succ i => exact bounds_get hl' i x (by simpa using hx)
theorem bound_C {F:Fm} (hC:∀ d ∈ F.atoms,-1048576≤d.2.2∧d.2.2≤1048576) {x:Int} {d:Dif} (h:bound F x=some d):-1048577≤d.2.2∧d.2.2≤1048577:=by
 unfold bound at h
 split at h
 · cases h
 · split at h
   · cases h
   · rename_i a b c hat
     have:=hC _ (List.mem_of_getElem? hat)
     dsimp only at this
     split at h <;> cases h <;> dsimp only <;> omega
theorem c65 {σ:PH} {i1 i2:Int} {aa:Option Addr} {an ac:Nat} {ca:Option Addr} {cn cc:Nat} {F:Fm} (hA:Atoms σ aa an F.atoms) (hC:∀ d ∈ F.atoms,-1048576≤d.2.2∧d.2.2≤1048576) (han:an≤1000000) {a:Option Addr} {n c:Nat} {lits:List Int} (hI:Ints σ a n lits) (hL:∀ x ∈ lits,Lit x) {out:List Int} (hcy:cyclic F lits=some out) {Q:Value→PH→Prop}
   (hQ:∀ τ (sl:Sli),σ.sub τ→Own τ 3 1 sl.a sl.n sl.c (ints out)→(∀ p,sl.a=some p→σ p.block=none)→Q (.tuple #[sl.v,.bool true]) τ) :
   C 65 #[.agg #[.int .i64 i1,.int .i64 i2,.slice aa an ac,.slice ca cn cc],.slice a n c] Q σ:=by
 refine go (E65_0 _ _ _ _ _ _ _ _ _ _ _ _ _ _) ?_
 unfold S65_0
 have e0:∀ b:Nat,(Addr.mk b 0 none).add 0=⟨b,0,none⟩:=fun b => rfl
 have hln:=hI.1
 unfold cyclic at hcy
 split at hcy
 · cases hcy
 rename_i l hb
 have hrl:ring l∧lits.length≤1000:=by
   apply Classical.byContradiction
   intro h
   rw [if_neg h] at hcy; cases hcy
 rw [if_pos hrl] at hcy
 obtain ⟨hring,hlen⟩:=hrl
 have hll:=bounds_len hb
 intro b12 h12
 have s12:=PH.sub_set (o:=.cells #[.int .i64 i1,.int .i64 i2,.slice aa an ac,.slice ca cn cc] 29) h12
 have B12:Blk (σ.set b12 (.cells #[.int .i64 i1,.int .i64 i2,.slice aa an ac,.slice ca cn cc] 29)) b12 29 [.int .i64 i1,.int .i64 i2,.slice aa an ac,.slice ca cn cc]:=set_self
 generalize σ.set b12 (.cells #[.int .i64 i1,.int .i64 i2,.slice aa an ac,.slice ca cn cc] 29)=ω at *
 unfold S65_1
 refine iloopS_for (G:=Sli × Sli × Sli) (fun k g => (ptr b12,g.1.a,g.1.n,g.1.c,g.2.1.a,g.2.1.n,g.2.1.c,g.2.2.a,g.2.2.n,g.2.2.c,a,n,c,(n:Int),(k:Int)))
   (fun k g υ => Tri ω υ g.1 (l.take k) g.2.1 (upto k) g.2.2 ((lits.take k).map (- ·))) n ?_ (g:=(⟨none,0,0⟩,⟨none,0,0⟩,⟨none,0,0⟩))
   ⟨⟨.refl _,own_nil,own_nil,(fun _ h => by cases h),(fun _ h => by cases h),fun _ _ h => by cases h⟩,own_nil,(fun _ h => by cases h),(fun _ _ h => by cases h),fun _ _ h => by cases h⟩
 rintro k ⟨sl,sc,sn⟩ υ hk Tr R hR
 unfold S65_2
 dsimp only at Tr hR ⊢
 have hs:=Tr.col.sub
 have hσ:=s12.trans hs
 refine br_dec.2 ⟨fun hlt => ?_,fun hge => ?_⟩
 · have hkn:k < n:=by omega
   obtain ⟨x,hx⟩:∃ x,lits[k]?=some x:=⟨_,List.getElem?_eq_getElem (by omega)⟩
   obtain ⟨d,hbd,hd⟩:=bounds_get hb k x hx
   have hxL:=hL x (List.mem_of_getElem? hx)
   obtain ⟨p,hp,hc⟩:=(hI.sub hσ).2.at (i:=k) (v:=.int .i64 x) (by simp [hx])
   have wk:IntKind.wrap .i64 ((k:Int) + 1)=((k + 1:Nat):Int):=by rw [w64 (by omega) (by omega)]; omega
   have wx:IntKind.wrap .i64 (0 - x)=-x:=by unfold Lit at hxL; rw [w64 (by omega) (by omega)]; omega
   have Bu:Blk υ b12 29 _:=hs _ _ B12
   have g0:=Bu.get (i:=0) rfl
   rw [e0] at g0
   refine ⟨p,hp,by omega,by omega,_,by rw [Int.toNat_natCast,Nat.mul_one]; exact hc,x,rfl,_,g0,_,Bu.get (i:=1) rfl,_,Bu.get (i:=2) rfl,_,Bu.get (i:=3) rfl,_,_,_,_,_,_,_,_,rfl,?_⟩
   refine c33 (hA.sub hσ) hC han hxL fun τ hsτ => ⟨τ,.refl _,?_⟩
   rw [hbd]
   refine ⟨d.1,d.2.1,d.2.2,true,rfl,fun b65 h65 => ?_⟩
   simp only [newSet,newSet0,newCell,newCell0,newFroz,newFroz0,List.setIfInBounds_toArray,List.set_cons_zero,List.set_cons_succ,List.getElem?_toArray,List.getElem?_cons_zero,List.getElem?_cons_succ,Option.some.injEq,exists_eq',true_and,Value.int.injEq,exists_eq_left']
   refine br_iff.2 ⟨fun h => (by cases h),fun _ => ⟨_,_,_,rfl,fun b75 h75 => ?_⟩⟩
   have T2:=(Tr.grow hsτ).grow (PH.sub_set (o:=.cells #[.int .i64 d.1,.int .i64 d.2.1,.int .i64 d.2.2] 50) h65)
   have:=T2.push d (k:Int) (-x) (by rw [List.length_take]; omega) (by rw [upto_len]; omega) (by rw [List.length_map,List.length_take]; omega) h75 (R:=fun sl' sc' sn' τ => R (ptr b12,sl'.a,sl'.n,sl'.c,sc'.a,sc'.n,sc'.c,sn'.a,sn'.n,sn'.c,a,n,c,(n:Int),IntKind.wrap .i64 ((k:Int) + 1)) τ) fun sl' sc' sn' τ' hT => by
     rw [wk]
     refine hR (sl',sc',sn') _ hkn ?_
     show Tri ω τ' sl' (l.take (k + 1)) sc' (upto (k + 1)) sn' ((lits.take (k + 1)).map (- ·))
     rw [List.take_add_one,hd,upto_succ,List.take_add_one,hx,List.map_append]
     exact hT
   rw [wx]
   exact this
 · have hkn:k=n:=by omega
   subst hkn
   have hlt:l.take k=l:=List.take_of_length_le (by omega)
   have hlt2:lits.take k=lits:=List.take_of_length_le (by omega)
   rw [hlt,hlt2] at Tr
   have hK:∀ d ∈ l,-1048577≤d.2.2∧d.2.2≤1048577:=by
     intro d hd
     obtain ⟨y,_,hy⟩:=bounds_mem hb d hd
     exact bound_C hC hy
   have hon:=own_len Tr.col.oi
   rw [upto_len] at hon
   have hIu:=own_ints Tr.col.oi
   have hAt:=own_atoms Tr.col.ol
   rw [hon] at hIu
   rw [hon]
   refine c87 hAt hIu (by omega) (by omega) hK hring ⟨υ,.refl _,true,rfl,br_iff.2 ⟨fun h => (by cases h),fun _ => ?_⟩⟩
   refine c62 (own_ints Tr.on) (fun y hy => ?_) (by rw [List.length_map]; omega) (fun τ sl' out' hs' ho hO hnew => ?_) fun τ _ hno => ?_
   · obtain ⟨z,hz,rfl⟩:=List.mem_map.1 hy
     have:=hL z hz
     unfold Lit at this ⊢
     omega
   · rw [hcy] at ho; cases ho
     exact ⟨τ,.refl _,_,_,_,_,rfl,hQ τ sl' (hσ.trans hs') hO fun p hp => new_of hσ (hnew p hp)⟩
   · rw [hcy] at hno; cases hno
theorem growNew {σ υ:PH} {sl:Sli} {o:List Int} (hs:σ.sub υ) (hO:Own υ 3 1 sl.a sl.n sl.c (ints o)) (hnew:∀ p,sl.a=some p→σ p.block=none) (x:Int) (hn:o.length≤1000000) {b:Nat} (hb:υ b=none) {R:Option Addr→Nat→Nat→PH→Prop}
   (hR:∀ (sl':Sli) τ,σ.sub τ→Own τ 3 1 sl'.a sl'.n sl'.c (ints (o ++ [x]))→(∀ p,sl'.a=some p→σ p.block=none)→R sl'.a sl'.n sl'.c τ) :
   iappend prog 3 (.slice sl.a sl.n sl.c) (.slice (some ⟨b,0,none⟩) 1 1) (fun v τ => ∃ (a:Option Addr) (n c:Nat),v=(.slice a n c)∧R a n c τ) (PH.set υ b (.cells #[(.int .i64 x)] 3)):=by
 have hon:=own_len hO
 refine pushRow t3.1 t3.2.1 t3.2.2 rfl (by decide) hO hb (news:=[.int .i64 x]) rfl ?_ (by omega) ?_
 · intro v hv; simp at hv; subst hv; trivial
 · intro a c τ hO' hst hnew'
   refine ⟨_,_,_,rfl,hR ⟨a,sl.n + 1,c⟩ τ (sub_step_new hs hst (by rintro q ⟨p,h1,rfl⟩; exact hnew p h1)) (by simpa [ints] using hO') fun p hp => ?_⟩
   rcases hnew' p hp with ⟨p',h1,h2⟩ | h1
   · rw [h2]; exact hnew p' h1
   · exact new_of hs h1
theorem c48 {σ:PH} {a1 a2:Option Addr} {n1 c1 n2 c2:Nat} {p q:List Int} (h1:Ints σ a1 n1 p) (h2:Ints σ a2 n2 q) (hp:∀ x ∈ p,Lit x) (hq:∀ x ∈ q,Lit x) (hl1:p.length≤100000) (hl2:q.length≤100000) {v:Int} {out:List Int} (hr:resolvent p q v=some out) {Q:Value→PH→Prop}
   (hQ:∀ τ (sl:Sli),σ.sub τ→Own τ 3 1 sl.a sl.n sl.c (ints out)→(∀ p,sl.a=some p→σ p.block=none)→Q (.tuple #[sl.v,.bool true]) τ) :
   C 48 #[.slice a1 n1 c1,.slice a2 n2 c2,.int .i64 v] Q σ:=by
 refine go (E48_0 _ _ _ _ _ _ _ _ _ _) ?_
 unfold S48_0
 have hln1:=h1.1
 have hln2:=h2.1
 unfold resolvent at hr
 have hc:0≤v∧v < 1024∧v + 1 ∈ p∧-(v + 1) ∈ q:=by
   apply Classical.byContradiction
   intro h
   rw [if_neg h] at hr; cases hr
 rw [if_pos hc] at hr
 obtain ⟨v0,v1,hm1,hm2⟩:=hc
 have wv:IntKind.wrap .i64 (v + 1)=v + 1:=w64 (by omega) (by omega)
 have wn:IntKind.wrap .i64 (0 - (v + 1))=-(v + 1):=by rw [w64 (by omega) (by omega)]; omega
 refine br_dec.2 ⟨fun h => by omega,fun _ => br_dec.2 ⟨fun h => by omega,fun _ => ?_⟩⟩
 rw [wv,wn]
 refine (c66 (by unfold Len; omega) h1).mono hb ?_
 rintro _ τ ⟨rfl,eτ⟩
 obtain rfl:=eτ.symm
 refine ⟨_,.refl _,_,rfl,br_iff.2 ⟨fun h => ?_,fun _ => ?_⟩⟩
 · simp [hm1] at h
 refine (c66 (by unfold Len; omega) h2).mono hb ?_
 rintro _ τ ⟨rfl,eτ⟩
 obtain rfl:=eτ.symm
 refine ⟨_,.refl _,_,rfl,br_iff.2 ⟨fun h => ?_,fun _ => ?_⟩⟩
 · simp [hm2] at h
 unfold S48_1
 refine iloopS_for (G:=Sli) (fun k sl => (a2,n2,c2,v,sl.a,sl.n,sl.c,a1,n1,c1,(n1:Int),(k:Int))) (fun k sl υ => σ.sub υ∧Own υ 3 1 sl.a sl.n sl.c (ints ((p.take k).filter (· != v + 1)))∧∀ q,sl.a=some q→σ q.block=none) n1 ?_ (g:=⟨none,0,0⟩) ⟨.refl _,own_nil,fun q hq => by cases hq⟩
 rintro k sl υ hk ⟨hs,hO,hnew⟩ R hR
 unfold S48_2
 dsimp only at hO hnew ⊢
 have hfl:((p.take k).filter (· != v + 1)).length≤k:=Nat.le_trans (List.length_filter_le _ _) (by rw [List.length_take]; omega)
 refine br_dec.2 ⟨fun hlt => ?_,fun hge => ?_⟩
 · have hkn:k < n1:=by omega
   obtain ⟨x,hx⟩:∃ x,p[k]?=some x:=⟨_,List.getElem?_eq_getElem (by omega)⟩
   obtain ⟨pa,hpa,hcx⟩:=(h1.sub hs).2.at (i:=k) (v:=.int .i64 x) (by simp [hx])
   have wk:IntKind.wrap .i64 ((k:Int) + 1)=((k + 1:Nat):Int):=by rw [w64 (by omega) (by omega)]; omega
   have htk:(p.take (k + 1)).filter (· != v + 1)=(p.take k).filter (· != v + 1) ++ (if x=v + 1 then [] else [x]):=by
     rw [List.take_add_one,hx,List.filter_append]
     by_cases e:x=v + 1
     · simp [e]
     · simp [e]
   rw [wv]
   refine ⟨pa,hpa,by omega,by omega,_,by rw [Int.toNat_natCast,Nat.mul_one]; exact hcx,x,rfl,br_iff.2 ⟨fun hne b hbn => ?_,fun he => ?_⟩⟩
   · have hne:x ≠ v + 1:=by simpa using hne
     rw [if_neg hne] at htk
     rw [wk]
     exact growNew hs hO hnew x (by omega) hbn (R:=fun a n c τ => R (a2,n2,c2,v,a,n,c,a1,n1,c1,(n1:Int),((k + 1:Nat):Int)) τ) fun sl' τ h3 h4 h5 => hR sl' τ hkn ⟨h3,by rw [htk]; exact h4,h5⟩
   · have he:x=v + 1:=by simpa using he
     rw [if_pos he,List.append_nil] at htk
     rw [wk]
     exact hR sl υ hkn ⟨hs,by rw [htk]; exact hO,hnew⟩
 · have hkn:k=n1:=by omega
   subst hkn
   rw [List.take_of_length_le (by omega)] at hO hfl
   unfold S48_3
   refine iloopS_for (G:=Sli) (fun k2 sl => (v,sl.a,sl.n,sl.c,a2,n2,c2,(n2:Int),(k2:Int))) (fun k2 sl υ => σ.sub υ∧Own υ 3 1 sl.a sl.n sl.c (ints (p.filter (· != v + 1) ++ (q.take k2).filter (· != -(v + 1))))∧∀ q,sl.a=some q→σ q.block=none) n2 ?_ (g:=sl) ⟨hs,by simpa using hO,hnew⟩
   clear hs hO hnew hR R υ sl
   rintro k2 sl υ hk2 ⟨hs,hO,hnew⟩ R hR
   unfold S48_4
   dsimp only at hO hnew ⊢
   have hfl2:((q.take k2).filter (· != -(v + 1))).length≤k2:=Nat.le_trans (List.length_filter_le _ _) (by rw [List.length_take]; omega)
   refine br_dec.2 ⟨fun hlt => ?_,fun hge => ?_⟩
   · have hkn:k2 < n2:=by omega
     obtain ⟨x,hx⟩:∃ x,q[k2]?=some x:=⟨_,List.getElem?_eq_getElem (by omega)⟩
     obtain ⟨pa,hpa,hcx⟩:=(h2.sub hs).2.at (i:=k2) (v:=.int .i64 x) (by simp [hx])
     have wk:IntKind.wrap .i64 ((k2:Int) + 1)=((k2 + 1:Nat):Int):=by rw [w64 (by omega) (by omega)]; omega
     have htk:p.filter (· != v + 1) ++ (q.take (k2 + 1)).filter (· != -(v + 1))=(p.filter (· != v + 1) ++ (q.take k2).filter (· != -(v + 1))) ++ (if x=-(v + 1) then [] else [x]):=by
       rw [List.take_add_one,hx,List.filter_append]
       by_cases e:x=-(v + 1)
       · simp [e]
       · simp [e]
     rw [wv,wn]
     refine ⟨pa,hpa,by omega,by omega,_,by rw [Int.toNat_natCast,Nat.mul_one]; exact hcx,x,rfl,br_iff.2 ⟨fun hne b hbn => ?_,fun he => ?_⟩⟩
     · have hne:x ≠ -(v + 1):=by simpa using hne
       rw [if_neg hne] at htk
       rw [wk]
       exact growNew hs hO hnew x (by rw [List.length_append]; omega) hbn (R:=fun a n c τ => R (v,a,n,c,a2,n2,c2,(n2:Int),((k2 + 1:Nat):Int)) τ) fun sl' τ h3 h4 h5 => hR sl' τ hkn ⟨h3,by rw [htk]; exact h4,h5⟩
     · have he:x=-(v + 1):=by simpa using he
       rw [if_pos he,List.append_nil] at htk
       rw [wk]
       exact hR sl υ hkn ⟨hs,by rw [htk]; exact hO,hnew⟩
   · have hkn:k2=n2:=by omega
     subst hkn
     rw [List.take_of_length_le (by omega)] at hO hfl2
     refine c62 (own_ints hO) (fun y hy => ?_) (by rw [List.length_append]; omega) (fun τ sl' out' hs' ho hO' hnew' => ?_) fun τ _ hno => ?_
     · rcases List.mem_append.1 hy with hy | hy
       · exact hp y (List.mem_filter.1 hy).1
       · exact hq y (List.mem_filter.1 hy).1
     · rw [hr] at ho; cases ho
       exact ⟨τ,.refl _,_,_,_,_,rfl,hQ τ sl' (hs.trans hs') hO' fun p hp => new_of hs (hnew' p hp)⟩
     · rw [hr] at hno; cases hno
end Go.Proofs.Ythfnjogadngfiaa
namespace Go.Sv
theorem stepsFrom_pre {F:Fm}:∀ {l:List PStep} {acc cs:List (List Int)},stepsFrom F acc l=some cs→cs.take acc.length=acc∧cs.length=acc.length + l.length∧∀ (i:Nat) s,l[i]?=some s→∃ c,cs[acc.length + i]?=some c∧stepClause F (cs.take (acc.length + i)) s=some c
 | [],acc,cs,h => by
   simp only [stepsFrom,Option.some.injEq] at h
   subst h
   simp
 | s :: l,acc,cs,h => by
   unfold stepsFrom at h
   split at h
   · cases h
   · rename_i c hc
     obtain ⟨h1,h2,h3⟩:=stepsFrom_pre h
     have e1:(acc ++ [c]).length=acc.length + 1:=by simp
     rw [e1] at h1 h2 h3
     have ht:cs.take acc.length=acc:=by
       have:=congrArg (List.take acc.length) h1
       rw [List.take_take] at this
       simpa using this
     refine ⟨ht,by simp; omega,fun i t hi => ?_⟩
     cases i with
     | zero =>
       simp at hi; subst hi
       refine ⟨c,?_,by rw [Nat.add_zero,ht]; exact hc⟩
       have:(cs.take (acc.length + 1))[acc.length]?=some c:=by rw [h1]; simp
       rw [List.getElem?_take] at this
       simpa using this
     | succ i =>
       obtain ⟨d,q1,q2⟩:=h3 i t (by simpa using hi)
       refine ⟨d,by rw [show acc.length + (i + 1)=acc.length + 1 + i from by omega]; exact q1,by rw [show acc.length + (i + 1)=acc.length + 1 + i from by omega]; exact q2⟩
theorem stepsOf_pre {F:Fm} {l:List PStep} {cs:List (List Int)} (h:stepsOf F l=some cs):cs.length=l.length∧∀ (i:Nat) s,l[i]?=some s→∃ c,cs[i]?=some c∧stepClause F (cs.take i) s=some c:=by
 obtain ⟨_,h2,h3⟩:=stepsFrom_pre h
 refine ⟨by simpa using h2,fun i s hs => ?_⟩
 obtain ⟨c,q1,q2⟩:=h3 i s hs
 exact ⟨c,by simpa using q1,by simpa using q2⟩
theorem bound_litN {F:Fm} (hF:FOk F) {x:Int} {d:Dif} (h:bound F x=some d):LitN F.bools x:=by
 unfold bound at h
 split at h
 · cases h
 · rename_i h0
   split at h
   · cases h
   · rename_i a b c hat
     have:=(List.getElem?_eq_some_iff.1 hat).1
     have:=hF.atoms
     refine ⟨h0,?_⟩
     unfold vr at *
     omega
theorem bounds_litN {F:Fm} (hF:FOk F):∀ {lits:List Int} {l:List Dif},bounds F lits=some l→∀ x ∈ lits,LitN F.bools x
 | [],_,_,x,hx => by simp at hx
 | y :: t,l,h,x,hx => by
   unfold bounds at h
   split at h
   · cases h
   · rename_i d hd
     split at h
     · cases h
     · rename_i l' hl'
       rcases List.mem_cons.1 hx with rfl | hx
       · exact bound_litN hF hd
       · exact bounds_litN hF hl' x hx
theorem cyclic_litN {F:Fm} (hF:FOk F) {lits out:List Int} (h:cyclic F lits=some out):(∀ x ∈ lits,LitN F.bools x)∧norm (lits.map (- ·))=some out:=by
 unfold cyclic at h
 split at h
 · cases h
 · rename_i l hb
   split at h
   · exact ⟨bounds_litN hF hb,h⟩
   · cases h
theorem resolvent_some {p q out:List Int} {v:Int} (h:resolvent p q v=some out):norm (p.filter (· != v + 1) ++ q.filter (· != -(v + 1)))=some out:=by
 unfold resolvent at h
 split at h
 · exact h
 · cases h
theorem steps_lit {F:Fm} (hF:FOk F) {l:List PStep} {cs:List (List Int)} (h:stepsOf F l=some cs):∀ (i:Nat) c,cs[i]?=some c→SortedA c∧∀ x ∈ c,LitN F.bools x:=by
 obtain ⟨hlen,hat⟩:=stepsOf_pre h
 intro i
 induction i using Nat.strongRecOn with
 | ind i ih =>
   intro c hc
   have hi:=(List.getElem?_eq_some_iff.1 hc).1
   obtain ⟨s,hs⟩:∃ s,l[i]?=some s:=⟨_,List.getElem?_eq_getElem (by omega)⟩
   obtain ⟨c',q1,q2⟩:=hat i s hs
   rw [hc] at q1; cases q1
   have fin:∀ {d:List Int},norm d=some c→(∀ x ∈ d,LitN F.bools x)→SortedA c∧∀ x ∈ c,LitN F.bools x:=fun hd hl => by
     obtain ⟨h1,h2,_⟩:=norm_some hd
     exact ⟨h1,fun x hx => hl x ((h2 x).1 hx)⟩
   unfold stepClause at q2
   split at q2
   · split at q2
     · split at q2
       · rename_i d hd
         exact fin q2 (hF.cl d (List.mem_of_getElem? hd))
       · cases q2
     · cases q2
   · split at q2
     · obtain ⟨h1,h2⟩:=cyclic_litN hF q2
       refine fin h2 fun x hx => ?_
       obtain ⟨y,hy,rfl⟩:=List.mem_map.1 hx
       exact (h1 y hy).neg
     · split at q2
       · split at q2
         · split at q2
           · rename_i a b ha hb
             rw [List.getElem?_take] at ha hb
             split at ha
             · rename_i hp
               split at hb
               · rename_i hq
                 refine fin (resolvent_some q2) fun x hx => ?_
                 rcases List.mem_append.1 hx with hx | hx
                 · exact (ih _ hp a ha).2 x (List.mem_filter.1 hx).1
                 · exact (ih _ hq b hb).2 x (List.mem_filter.1 hx).1
               · cases hb
             · cases ha
           · cases q2
         · cases q2
       · cases q2
theorem sorted_len {n:Nat} {c:List Int} (h:SortedA c) (hl:∀ x ∈ c,LitN n x):c.length≤n:=by
 have hd:(c.map vr).Nodup:=by
   rw [List.nodup_iff_pairwise_ne,List.pairwise_map]
   refine List.Pairwise.imp_of_mem ?_ h
   intro a b ha hb hab
   have:=(hl a ha).1
   have:=(hl b hb).1
   unfold vr; omega
 have:=hd.length_le_of_subset (l₂:=List.range n) fun v hv => by
   obtain ⟨x,hx,rfl⟩:=List.mem_map.1 hv
   exact List.mem_range.2 (hl x hx).vr_lt
 simpa using this
end Go.Sv
namespace Go.Proofs.Ythfnjogadngfiaa
open Go.Sl Go.Sv
def CS (σ υ:PH) (sl:Sli) (cs:List (List Int)):Prop :=
 ∃ (σ':PH) (vs:List Value),σ.sub σ'∧σ'.sub υ∧Own υ 33 1 sl.a sl.n sl.c vs∧(∀ p,sl.a=some p→σ' p.block=none)∧vs.length=cs.length∧∀ (i:Nat) c,cs[i]?=some c→∃ x m k,vs[i]?=some (.slice x m k)∧Ints σ' x m c∧m≤k
theorem CS.grow {σ υ τ:PH} {sl:Sli} {cs:List (List Int)} (h:CS σ υ sl cs) (hs:υ.sub τ):CS σ τ sl cs:=by
 obtain ⟨σ',vs,h1,h2,h3,h4,h5,h6⟩:=h
 exact ⟨σ',vs,h1,h2.trans hs,h3.keep (M:=fun _ => False) hs.step fun _ _ h => h,h4,h5,h6⟩
theorem CS.sub {σ υ:PH} {sl:Sli} {cs:List (List Int)} (h:CS σ υ sl cs):σ.sub υ:=by
 obtain ⟨σ',vs,h1,h2,_⟩:=h
 exact h1.trans h2
theorem CS.get {σ υ:PH} {sl:Sli} {cs:List (List Int)} (h:CS σ υ sl cs) {i:Nat} {c:List Int} (hc:cs[i]?=some c):∃ p x m k,sl.a=some p∧υ.cell? (p.add i)=some (.slice x m k)∧Ints υ x m c∧sl.n=cs.length:=by
 obtain ⟨σ',vs,h1,h2,h3,h4,h5,h6⟩:=h
 obtain ⟨x,m,k,q1,q2,q3⟩:=h6 i c hc
 obtain ⟨p,hp,hcell⟩:=h3.get q1
 refine ⟨p,x,m,k,hp,hcell,q2.sub h2,?_⟩
 have:=h3.len
 omega
theorem CS.len {σ υ:PH} {sl:Sli} {cs:List (List Int)} (h:CS σ υ sl cs):sl.n=cs.length:=by
 obtain ⟨σ',vs,h1,h2,h3,h4,h5,h6⟩:=h
 have:=h3.len
 omega
open Classical in
theorem CS.push {σ υ:PH} {sl:Sli} {cs:List (List Int)} (h:CS σ υ sl cs) {x:Option Addr} {m k:Nat} {c:List Int} (hI:Own υ 3 1 x m k (ints c)) (hx:∀ p,x=some p→∀ q,sl.a=some q→p.block ≠ q.block) (hn:cs.length≤4000000000000) {b:Nat} (hb:υ b=none) {R:Option Addr→Nat→Nat→PH→Prop}
   (hR:∀ (sl':Sli) τ,CS σ τ sl' (cs ++ [c])→R sl'.a sl'.n sl'.c τ) :
   iappend prog 33 (.slice sl.a sl.n sl.c) (.slice (some ⟨b,0,none⟩) 1 1) (fun v τ => ∃ (a:Option Addr) (n c:Nat),v=(.slice a n c)∧R a n c τ) (PH.set υ b (.cells #[(.slice x m k)] 33)):=by
 have hln:=h.len
 obtain ⟨σ',vs,h1,h2,h3,h4,h5,h6⟩:=h
 refine pushRow t33.1 t33.2.1 t33.2.2 rfl (by decide) h3 hb (news:=[.slice x m k]) rfl ?_ (by omega) ?_
 · intro v hv; simp at hv; subst hv; trivial
 · intro a' c' τ hO hst hnew
   obtain ⟨σ'',hσ''⟩:∃ σ'':PH,σ''=fun b => if ∃ q,sl.a=some q∧b=q.block then none else υ b:=⟨_,rfl⟩
   have in':∀ b,(∀ q,sl.a=some q→b ≠ q.block)→σ'' b=υ b:=fun b hb => by rw [hσ'']; exact if_neg (by rintro ⟨q,g1,g2⟩; exact hb q g1 g2)
   have out':∀ q,sl.a=some q→σ'' q.block=none:=fun q hq => by rw [hσ'']; exact if_pos ⟨q,hq,rfl⟩
   have s1:σ'.sub σ'':=by
     intro b0 o ho
     rw [in' b0 (by rintro q hq rfl; rw [h4 q hq] at ho; cases ho)]
     exact h2 b0 o ho
   have s2:σ''.sub υ:=by
     intro b0 o ho
     by_cases hq:∃ q,sl.a=some q∧b0=q.block
     · obtain ⟨q,g1,rfl⟩:=hq
       rw [out' q g1] at ho; cases ho
     · rw [in' b0 (fun q g1 g2 => hq ⟨q,g1,g2⟩)] at ho; exact ho
   have sτ:σ''.sub τ:=by
     intro b0 o ho
     refine hst.same b0 o (s2 b0 o ho) ?_
     rintro ⟨q,g1,rfl⟩
     rw [out' q g1] at ho; cases ho
   have hOx:Own σ'' 3 1 x m k (ints c):=by
     refine ⟨hI.len,hI.le,?_⟩
     rcases hI.row with g | ⟨b0,arr,g1,g2,g3⟩
     · exact .inl g
     · exact .inr ⟨b0,arr,g1,(in' b0 (fun q hq => hx _ g1 q hq)).trans g2,g3⟩
   refine ⟨_,_,_,rfl,hR ⟨a',sl.n + 1,c'⟩ τ ⟨σ'',vs ++ [.slice x m k],h1.trans s1,sτ,hO,fun p hp => ?_,by simp [h5],fun i c0 hc0 => ?_⟩⟩
   · rcases hnew p hp with ⟨p',g1,g2⟩ | g1
     · rw [g2]; exact out' p' g1
     · exact new_of s2 g1
   · by_cases hi:i < cs.length
     · rw [List.getElem?_append_left hi] at hc0
       obtain ⟨y,m',k',g1,g2,g3⟩:=h6 i c0 hc0
       exact ⟨y,m',k',by rw [List.getElem?_append_left (by omega)]; exact g1,g2.sub s1,g3⟩
     · rw [List.getElem?_append_right (by omega)] at hc0
       have hi0:i=cs.length:=by have:=(List.getElem?_eq_some_iff.1 hc0).1; simp at this; omega
       subst hi0
       simp at hc0
       subst hc0
       exact ⟨x,m,k,by rw [List.getElem?_append_right (by omega)]; simp [h5],own_ints hOx,hI.le⟩
theorem c60 {σ:PH} {F:Fm} (hF:FOk F) (hlen:∀ c ∈ F.clauses,c.length≤1000000) {aa ca:Option Addr} {an ac cn cc:Nat} (hA:Atoms σ aa an F.atoms) (hL:Lists σ ca cn F.clauses) {a:Option Addr} {n c:Nat} {ps:List PStep} (hS:StepsM σ a n ps) {cs:List (List Int)} (hcs:stepsOf F ps=some cs) (hn:n≤3500000000000) {Q:Value→PH→Prop}
   (hQ:∀ τ (sl:Sli),CS σ τ sl cs→Q (.tuple #[sl.v,.int .i64 (-1)]) τ) :
   C 60 #[.agg #[.int .i64 F.ints,.int .i64 F.bools,.slice aa an ac,.slice ca cn cc],.slice a n c] Q σ:=by
 refine go (E60_0 _ _ _ _ _ _ _ _ _ _ _ _ _ _) ?_
 unfold S60_0
 have e0:∀ b:Nat,(Addr.mk b 0 none).add 0=⟨b,0,none⟩:=fun b => rfl
 obtain ⟨hcl,hat⟩:=stepsOf_pre hcs
 have hlit:=steps_lit hF hcs
 have hnb:=hF.bools
 have hpl:=hS.1
 have hAn:=hA.1
 have hal:=hF.atoms
 have hC:∀ d ∈ F.atoms,-1048576≤d.2.2∧d.2.2≤1048576:=fun d hd => (hF.at' d hd).2.2.2.2.2
 intro b12 h12
 have s12:=PH.sub_set (o:=.cells #[.int .i64 F.ints,.int .i64 F.bools,.slice aa an ac,.slice ca cn cc] 29) h12
 have B12:Blk (σ.set b12 (.cells #[.int .i64 F.ints,.int .i64 F.bools,.slice aa an ac,.slice ca cn cc] 29)) b12 29 [.int .i64 F.ints,.int .i64 F.bools,.slice aa an ac,.slice ca cn cc]:=set_self
 generalize σ.set b12 (.cells #[.int .i64 F.ints,.int .i64 F.bools,.slice aa an ac,.slice ca cn cc] 29)=ω at *
 unfold S60_1
 refine iloopS_for (G:=Sli) (fun k sl => (ptr b12,sl.a,sl.n,sl.c,a,n,c,(n:Int),(k:Int))) (fun k sl υ => CS ω υ sl (cs.take k)) n ?_ (g:=⟨none,0,0⟩)
   ⟨ω,[],.refl _,.refl _,own_nil,fun p hp => (by cases hp),by simp,fun i c hc => by simp at hc⟩
 rintro k sl υ hk hCS R hR
 unfold S60_2
 dsimp only at hCS ⊢
 have hsω:=hCS.sub
 have hσ:=s12.trans hsω
 refine br_dec.2 ⟨fun hlt => ?_,fun hge => ?_⟩
 · have hkn:k < n:=by omega
   obtain ⟨p,hp⟩:∃ p,ps[k]?=some p:=⟨_,List.getElem?_eq_getElem (by omega)⟩
   obtain ⟨c0,hc0,hstep⟩:=hat k p hp
   obtain ⟨hsort,hclit⟩:=hlit k c0 hc0
   obtain ⟨q,x,m,kk,hq,r0,r1,r2,rI,rmk,r3,r4,r5⟩:=(hS.sub hσ).2 k p hp
   have wk:IntKind.wrap .i64 ((k:Int) + 1)=((k + 1:Nat):Int):=by rw [w64 (by omega) (by omega)]; omega
   refine ⟨q,hq,by omega,by omega,_,by rw [Int.toNat_natCast]; exact r0,_,by rw [Int.toNat_natCast]; exact r1,_,by rw [Int.toNat_natCast]; exact r2,_,by rw [Int.toNat_natCast]; exact r3,_,by rw [Int.toNat_natCast]; exact r4,_,by rw [Int.toNat_natCast]; exact r5,_,_,_,_,_,_,_,_,rfl,fun b46 h46 => ?_⟩
   simp only [newSet,newSet0,newCell,newCell0,newFroz,newFroz0,List.setIfInBounds_toArray,List.set_cons_zero,List.set_cons_succ,List.getElem?_toArray,List.getElem?_cons_zero,List.getElem?_cons_succ,Option.some.injEq,exists_eq',true_and,Value.int.injEq,exists_eq_left']
   have sb:=PH.sub_set (o:=.cells #[.int .i64 p.kind,.int .i64 p.index,.slice x m kk,.int .i64 p.p,.int .i64 p.q,.int .i64 p.v] 95) h46
   generalize υ.set b46 (.cells #[.int .i64 p.kind,.int .i64 p.index,.slice x m kk,.int .i64 p.p,.int .i64 p.q,.int .i64 p.v] 95)=ω2 at *
   have hC2:=hCS.grow sb
   have hσ2:=hσ.trans sb
   have Bu:Blk ω2 b12 29 [.int .i64 F.ints,.int .i64 F.bools,.slice aa an ac,.slice ca cn cc]:=(hsω.trans sb) _ _ B12
   have g0:=Bu.get (i:=0) rfl
   rw [e0] at g0
   have htk:(cs.take k) ++ [c0]=cs.take (k + 1):=by rw [List.take_add_one,hc0]; rfl
   have hctl:(cs.take k).length=k:=by rw [List.length_take]; omega
   have hc0l:=sorted_len hsort hclit
   have keep:∀ (τ:PH) (sx:Sli),ω2.sub τ→Own τ 3 1 sx.a sx.n sx.c (ints c0)→(∀ p,sx.a=some p→ω2 p.block=none)→S60_3 C Q R (ptr b12) sl.a sl.n sl.c (k:Int) sx.a sx.n sx.c true a n c (n:Int) (k:Int) τ:=by
     intro τ sx hs hO hnew
     unfold S60_3
     refine br_iff.2 ⟨fun h => (by cases h),fun _ b hb => ?_⟩
     have hCt:=hC2.grow hs
     rw [wk]
     refine hCt.push hO (fun p1 hp1 q1 hq1 e => ?_) (by omega) hb (R:=fun a' n' c' τ => R (ptr b12,a',n',c',a,n,c,(n:Int),((k + 1:Nat):Int)) τ) fun sl' τ' hC' => ?_
     · have:=hnew p1 hp1
       obtain ⟨_,_,_,_,g3,_⟩:=hC2
       rw [e] at this
       exact g3.known hq1 this
     · rw [htk] at hC'
       exact hR sl' τ' hkn hC'
   unfold stepClause at hstep
   by_cases k1:p.kind=1
   · rw [if_pos k1] at hstep
     split at hstep
     rotate_left
     · cases hstep
     rename_i hi0
     split at hstep
     rotate_left
     · cases hstep
     rename_i d hd
     have hdl:=(List.getElem?_eq_some_iff.1 hd).1
     have hLn:=hL.1
     obtain ⟨pc,y,my,ky,hpc,hcell,hIy,hmy⟩:=(hL.sub hσ2).2 _ d hd
     refine br_iff.2 ⟨fun _ => br_dec.2 ⟨fun _ => ⟨_,Bu.get (i:=3) rfl,_,_,_,rfl,br_dec.2 ⟨fun _ => ?_,fun h => absurd (by omega) h⟩⟩,fun h => absurd hi0 h⟩,fun h => by simp [k1] at h⟩
     refine ⟨_,Bu.get (i:=3) rfl,_,_,_,rfl,pc,hpc,hi0,by omega,_,by rw [Nat.mul_one]; exact hcell,_,_,_,rfl,?_⟩
     refine c62 hIy (fun z hz => litN (hF.cl d (List.mem_of_getElem? hd) z hz) hnb) (hlen d (List.mem_of_getElem? hd)) (fun τ sx out hs ho hO hnew => ?_) fun τ _ hno => ?_
     · rw [hstep] at ho; cases ho
       exact ⟨τ,.refl _,_,_,_,_,rfl,keep τ sx hs hO hnew⟩
     · rw [hstep] at hno; cases hno
   · rw [if_neg k1] at hstep
     refine br_iff.2 ⟨fun h => absurd (by simpa using h) k1,fun _ => ?_⟩
     by_cases k2:p.kind=2
     · rw [if_pos k2] at hstep
       refine br_iff.2 ⟨fun _ => ?_,fun h => by simp [k2] at h⟩
       obtain ⟨hll,_⟩:=cyclic_litN hF hstep
       refine ⟨_,g0,_,Bu.get (i:=1) rfl,_,Bu.get (i:=2) rfl,_,Bu.get (i:=3) rfl,_,_,_,_,_,_,_,_,rfl,_,_,_,rfl,?_⟩
       refine c65 (hA.sub hσ2) hC (by omega) (rI.sub sb) (fun z hz => litN (hll z hz) hnb) hstep fun τ sx hs hO hnew => ?_
       exact ⟨τ,.refl _,_,_,_,_,rfl,keep τ sx hs hO hnew⟩
     · rw [if_neg k2] at hstep
       refine br_iff.2 ⟨fun h => absurd (by simpa using h) k2,fun _ => ?_⟩
       by_cases k3:p.kind=3
       · rw [if_pos k3] at hstep
         refine br_iff.2 ⟨fun _ => ?_,fun h => by simp [k3] at h⟩
         split at hstep
         rotate_left
         · cases hstep
         rename_i hpq
         obtain ⟨hp0,hq0⟩:=hpq
         split at hstep
         rotate_left
         · cases hstep
         rename_i c1 c2 hc1 hc2
         have hc1l:=(List.getElem?_eq_some_iff.1 hc1).1
         have hc2l:=(List.getElem?_eq_some_iff.1 hc2).1
         obtain ⟨p1,x1,m1,kk1,hp1,hcell1,hI1,hn1⟩:=hC2.get hc1
         obtain ⟨p2,x2,m2,kk2,hp2,hcell2,hI2,hn2⟩:=hC2.get hc2
         have hc1':cs[p.p.toNat]?=some c1:=by rw [List.getElem?_take] at hc1; split at hc1; exact hc1; cases hc1
         have hc2':cs[p.q.toNat]?=some c2:=by rw [List.getElem?_take] at hc2; split at hc2; exact hc2; cases hc2
         obtain ⟨so1,li1⟩:=hlit _ _ hc1'
         obtain ⟨so2,li2⟩:=hlit _ _ hc2'
         have l1:=sorted_len so1 li1
         have l2:=sorted_len so2 li2
         refine br_dec.2 ⟨fun _ => br_dec.2 ⟨fun _ => br_dec.2 ⟨fun _ => br_dec.2 ⟨fun _ => ?_,fun h => absurd (by omega) h⟩,fun h => absurd hq0 h⟩,fun h => absurd (by omega) h⟩,fun h => absurd hp0 h⟩
         simp only [Nat.mul_one]
         refine ⟨p1,hp1,hp0,by omega,_,hcell1,_,_,_,rfl,p2,hp2,hq0,by omega,_,hcell2,_,_,_,rfl,?_⟩
         refine c48 hI1 hI2 (fun z hz => litN (li1 z hz) hnb) (fun z hz => litN (li2 z hz) hnb) (by omega) (by omega) hstep fun τ sx hs hO hnew => ?_
         exact ⟨τ,.refl _,_,_,_,_,rfl,keep τ sx hs hO hnew⟩
       · rw [if_neg k3] at hstep; cases hstep
 · have hkn:k=n:=by omega
   subst hkn
   rw [List.take_of_length_le (by omega)] at hCS
   refine hQ υ sl ?_
   obtain ⟨σ',vs,h1,h2⟩:=hCS
   exact ⟨σ',vs,s12.trans h1,h2⟩
theorem c40 {σ:PH} {F:Fm} (hF:FOk F) (hlen:∀ c ∈ F.clauses,c.length≤1000000) {aa ca:Option Addr} {an ac cn cc:Nat} (hA:Atoms σ aa an F.atoms) (hL:Lists σ ca cn F.clauses) {a:Option Addr} {n c:Nat} {ps:List PStep} (hS:StepsM σ a n ps) {cs:List (List Int)} (hcs:stepsOf F ps=some cs) (hlast:cs.getLast?=some []) (hn:n≤3500000000000) {Q:Value→PH→Prop}
   (hQ:∀ τ,σ.sub τ→Q (.tuple #[.int .i64 0,.int .i64 0]) τ) :
   C 40 #[.agg #[.int .i64 F.ints,.int .i64 F.bools,.slice aa an ac,.slice ca cn cc],.slice a n c] Q σ:=by
 refine go (E40_0 _ _ _ _ _ _ _ _ _ _ _ _ _ _) ?_
 unfold S40_0
 have e0:∀ b:Nat,(Addr.mk b 0 none).add 0=⟨b,0,none⟩:=fun b => rfl
 intro b12 h12
 have s12:=PH.sub_set (o:=.cells #[.int .i64 F.ints,.int .i64 F.bools,.slice aa an ac,.slice ca cn cc] 29) h12
 have B12:Blk (σ.set b12 (.cells #[.int .i64 F.ints,.int .i64 F.bools,.slice aa an ac,.slice ca cn cc] 29)) b12 29 [.int .i64 F.ints,.int .i64 F.bools,.slice aa an ac,.slice ca cn cc]:=set_self
 generalize σ.set b12 (.cells #[.int .i64 F.ints,.int .i64 F.bools,.slice aa an ac,.slice ca cn cc] 29)=ω at *
 have g0:=B12.get (i:=0) rfl
 rw [e0] at g0
 have hcl:=stepsOf_len hcs
 have hpl:=hS.1
 refine ⟨_,g0,_,B12.get (i:=1) rfl,_,B12.get (i:=2) rfl,_,B12.get (i:=3) rfl,_,_,_,_,_,_,_,_,rfl,?_⟩
 refine c60 hF hlen (hA.sub s12) (hL.sub s12) (hS.sub s12) hcs hn fun τ sl hC => ⟨τ,.refl _,_,_,_,_,rfl,br_dec.2 ⟨fun h => absurd h (by decide),fun _ => br_iff.2 ⟨fun h => ?_,fun h => ?_⟩⟩⟩
 · have h:n=0:=by simpa using h
   have:cs=[]:=List.length_eq_zero_iff.1 (by omega)
   rw [this] at hlast; cases hlast
 · have h:n ≠ 0:=by
     intro h0; rw [h0] at h; simp at h
   have hlst:cs[n - 1]?=some []:=by
     rw [List.getLast?_eq_getElem?] at hlast
     rw [show n - 1=cs.length - 1 from by omega]; exact hlast
   obtain ⟨p,x,m,k,hp,hcell,hI,hsn⟩:=hC.get hlst
   have hm:=hI.1
   have w:IntKind.wrap .i64 ((n:Int) - 1)=((n - 1:Nat):Int):=by rw [w64 (by omega) (by omega)]; omega
   rw [w]
   refine ⟨p,hp,by omega,by omega,_,by rw [Int.toNat_natCast,Nat.mul_one]; exact hcell,_,_,_,rfl,br_dec.2 ⟨fun h => ?_,fun _ => hQ τ (s12.trans hC.sub)⟩⟩
   simp at hm
   omega
def Bools (σ:PH) (a:Option Addr) (n:Nat) (l:List Bool):Prop:=l.length=n∧Row σ a (boolsV l)
theorem Bools.sub {σ τ:PH} (h:σ.sub τ) {a:Option Addr} {n:Nat} {l:List Bool} (hr:Bools σ a n l):Bools τ a n l:=⟨hr.1,hr.2.sub h⟩
def holdsB (bl:List Bool) (x:Int):Bool:=if x=0 ∨ x > bl.length ∨ x < -(bl.length:Int) then false else if 0 < x then bl.getD (x - 1).toNat false else !bl.getD (-x - 1).toNat false
theorem c29 {σ:PH} {a:Option Addr} {n c:Nat} {bl:List Bool} (hB:Bools σ a n bl) (hn:n≤1000000) {a2:Option Addr} {n2 c2:Nat} {x:Int} (hl:Lit x) {Q:Value→PH→Prop} (hQ:∀ τ,σ.sub τ→Q (.bool (holdsB bl x)) τ) :
   C 29 #[.int .i64 x,.agg #[.slice a n c,.slice a2 n2 c2]] Q σ:=by
 refine go (E29_0 _ _ _ _ _ _ _ _ _ _) ?_
 unfold S29_0
 have e0:∀ b:Nat,(Addr.mk b 0 none).add 0=⟨b,0,none⟩:=fun b => rfl
 obtain ⟨h1,h2⟩:=hl
 have hbl:=hB.1
 intro b8 h8
 have s8:=PH.sub_set (o:=.cells #[.slice a n c,.slice a2 n2 c2] 35) h8
 have B8:Blk (σ.set b8 (.cells #[.slice a n c,.slice a2 n2 c2] 35)) b8 35 [.slice a n c,.slice a2 n2 c2]:=set_self
 generalize σ.set b8 (.cells #[.slice a n c,.slice a2 n2 c2] 35)=ω at *
 have g0:=B8.get (i:=0) rfl
 rw [e0] at g0
 have wn:IntKind.wrap .i64 (0 - (n:Int))=-(n:Int):=by rw [w64 (by omega) (by omega)]; omega
 have no:(x=0 ∨ x > bl.length ∨ x < -(bl.length:Int))→Q (.bool false) ω:=fun h => by
   have:=hQ ω s8
   unfold holdsB at this
   rwa [if_pos h] at this
 refine br_iff.2 ⟨fun h => no (.inl (by simpa using h)),fun h0 => ⟨_,g0,_,_,_,rfl,br_dec.2 ⟨fun h => no (by omega),fun hle => ⟨_,g0,_,_,_,rfl,?_⟩⟩⟩⟩
 have hx0:x ≠ 0:=by simpa using h0
 rw [wn]
 refine br_dec.2 ⟨fun h => no (by omega),fun hge => ?_⟩
 have yes:=hQ ω s8
 unfold holdsB at yes
 rw [if_neg (by omega)] at yes
 refine br_dec.2 ⟨fun hpos => ⟨_,g0,_,_,_,rfl,?_⟩,fun hneg => ⟨_,g0,_,_,_,rfl,?_⟩⟩
 · rw [if_pos (by omega)] at yes
   have w1:IntKind.wrap .i64 (x - 1)=(((x - 1).toNat:Nat):Int):=by rw [w64 (by omega) (by omega)]; omega
   have hi:(x - 1).toNat < bl.length:=by omega
   obtain ⟨p,hp,hc⟩:=(hB.sub s8).2.at (i:=(x - 1).toNat) (v:=.bool (bl.getD (x - 1).toNat false)) (by rw [boolsV,List.getElem?_map,List.getElem?_eq_getElem hi,List.getD_eq_getElem?_getD,List.getElem?_eq_getElem hi]; rfl)
   refine ⟨p,hp,?_⟩
   rw [w1]
   exact ⟨by omega,by omega,_,by rw [Int.toNat_natCast,Nat.mul_one]; exact hc,_,rfl,yes⟩
 · rw [if_neg (by omega)] at yes
   have w1:IntKind.wrap .i64 (IntKind.wrap .i64 (0 - x) - 1)=(((-x - 1).toNat:Nat):Int):=by rw [w64 (n:=0 - x) (by omega) (by omega),w64 (by omega) (by omega)]; omega
   have hi:(-x - 1).toNat < bl.length:=by omega
   obtain ⟨p,hp,hc⟩:=(hB.sub s8).2.at (i:=(-x - 1).toNat) (v:=.bool (bl.getD (-x - 1).toNat false)) (by rw [boolsV,List.getElem?_map,List.getElem?_eq_getElem hi,List.getD_eq_getElem?_getD,List.getElem?_eq_getElem hi]; rfl)
   refine ⟨p,hp,?_⟩
   rw [w1]
   exact ⟨by omega,by omega,_,by rw [Int.toNat_natCast,Nat.mul_one]; exact hc,_,rfl,yes⟩
theorem c23 {σ:PH} {a:Option Addr} {n c:Nat} {bl:List Bool} (hB:Bools σ a n bl) (hn:n≤1000000) {a2:Option Addr} {n2 c2:Nat} {a3:Option Addr} {n3 c3:Nat} {l:List Int} (hI:Ints σ a3 n3 l) (hl:∀ x ∈ l,Lit x) (hll:l.length≤1000000) {Q:Value→PH→Prop} (hQ:∀ τ,σ.sub τ→Q (.bool (l.any (holdsB bl))) τ) :
   C 23 #[.slice a3 n3 c3,.agg #[.slice a n c,.slice a2 n2 c2]] Q σ:=by
 refine go (E23_0 _ _ _ _ _ _ _ _ _ _ _ _) ?_
 unfold S23_0
 have e0:∀ b:Nat,(Addr.mk b 0 none).add 0=⟨b,0,none⟩:=fun b => rfl
 have hln:=hI.1
 intro b8 h8
 have s8:=PH.sub_set (o:=.cells #[.slice a n c,.slice a2 n2 c2] 35) h8
 have B8:Blk (σ.set b8 (.cells #[.slice a n c,.slice a2 n2 c2] 35)) b8 35 [.slice a n c,.slice a2 n2 c2]:=set_self
 generalize σ.set b8 (.cells #[.slice a n c,.slice a2 n2 c2] 35)=ω at *
 unfold S23_1
 refine iloopS_for (G:=Unit) (fun k _ => (ptr b8,a3,n3,c3,(n3:Int),(k:Int))) (fun k _ υ => ω.sub υ∧l.any (holdsB bl)=(l.drop k).any (holdsB bl)) n3 ?_ (g:=()) ⟨.refl _,rfl⟩
 rintro k _ υ hk ⟨hs,he⟩ R hR
 unfold S23_2
 dsimp only
 refine br_dec.2 ⟨fun hlt => ?_,fun hge => ?_⟩
 · have hkn:k < n3:=by omega
   obtain ⟨x,hx⟩:∃ x,l[k]?=some x:=⟨_,List.getElem?_eq_getElem (by omega)⟩
   have hdk:l.drop k=x :: l.drop (k + 1):=by
     rw [List.drop_eq_getElem_cons (by omega)]
     congr 1
     exact (List.getElem?_eq_some_iff.1 hx).2
   rw [hdk,List.any_cons] at he
   obtain ⟨p,hp,hc⟩:=(hI.sub (s8.trans hs)).2.at (i:=k) (v:=.int .i64 x) (by simp [hx])
   have wk:IntKind.wrap .i64 ((k:Int) + 1)=((k + 1:Nat):Int):=by rw [w64 (by omega) (by omega)]; omega
   have Bu:Blk υ b8 35 _:=hs _ _ B8
   have g0:=Bu.get (i:=0) rfl
   rw [e0] at g0
   refine ⟨p,hp,by omega,by omega,_,by rw [Int.toNat_natCast,Nat.mul_one]; exact hc,x,rfl,_,g0,_,Bu.get (i:=1) rfl,_,_,_,_,_,_,rfl,?_⟩
   refine c29 (hB.sub (s8.trans hs)) hn (hl x (List.mem_of_getElem? hx)) fun τ hsτ => ⟨τ,.refl _,_,rfl,br_iff.2 ⟨fun h => ?_,fun h => ?_⟩⟩
   · have:=hQ τ ((s8.trans hs).trans hsτ)
     rw [he,h,Bool.true_or] at this
     exact this
   · rw [wk]
     refine hR () _ hkn ⟨hs.trans hsτ,?_⟩
     rw [he,h,Bool.false_or]
 · have hkn:k=n3:=by omega
   subst hkn
   rw [List.drop_eq_nil_of_le (by omega)] at he
   have:=hQ υ (s8.trans hs)
   rw [he] at this
   exact this
theorem litT_holds {n:Nat} {bl:List Bool} (hb:bl.length=n) {y:Int} (hy:LitN n y) (h:litT bl y):holdsB bl y=true:=by
 obtain ⟨h1,h2⟩:=hy
 unfold holdsB
 rw [if_neg (by omega)]
 unfold litT at h
 split at h
 · rename_i hp; rw [if_pos hp]; exact h
 · rename_i hp; rw [if_neg hp,h]; rfl
theorem c39 {σ:PH} {F:Fm} (hF:FOk F) (hlen:∀ c ∈ F.clauses,c.length≤1000000) {aa ca:Option Addr} {an ac cn cc:Nat} (hA:Atoms σ aa an F.atoms) (hL:Lists σ ca cn F.clauses) {ba xa:Option Addr} {bc xc:Nat} {bl:List Bool} {x:Nat→Int} (hB:Bools σ ba F.bools bl) (hX:Ints σ xa F.ints (tab F.ints x)) (hM:SatM F bl x) {Q:Value→PH→Prop} (hQ:∀ τ,σ.sub τ→Q (.bool true) τ) :
   C 39 #[.agg #[.int .i64 F.ints,.int .i64 F.bools,.slice aa an ac,.slice ca cn cc],.agg #[.slice ba F.bools bc,.slice xa F.ints xc]] Q σ:=by
 refine go (E39_0 _ _ _ _ _ _ _ _ _ _ _ _ _ _ _ _ _) ?_
 unfold S39_0
 have e0:∀ b:Nat,(Addr.mk b 0 none).add 0=⟨b,0,none⟩:=fun b => rfl
 have hnb:=hF.bools
 have hal:=hF.atoms
 have hAn:=hA.1
 have hLn:=hL.1
 have hcl:=hF.cn
 intro b15 h15
 have s15:=PH.sub_set (o:=.cells #[.int .i64 F.ints,.int .i64 F.bools,.slice aa an ac,.slice ca cn cc] 29) h15
 have B15:Blk (σ.set b15 (.cells #[.int .i64 F.ints,.int .i64 F.bools,.slice aa an ac,.slice ca cn cc] 29)) b15 29 [.int .i64 F.ints,.int .i64 F.bools,.slice aa an ac,.slice ca cn cc]:=set_self
 generalize σ.set b15 (.cells #[.int .i64 F.ints,.int .i64 F.bools,.slice aa an ac,.slice ca cn cc] 29)=ω0 at *
 intro b16 h16
 have s16:=PH.sub_set (o:=.cells #[.slice ba F.bools bc,.slice xa F.ints xc] 35) h16
 have B16:Blk (ω0.set b16 (.cells #[.slice ba F.bools bc,.slice xa F.ints xc] 35)) b16 35 [.slice ba F.bools bc,.slice xa F.ints xc]:=set_self
 have B15:=s16 _ _ B15
 have sω:=s15.trans s16
 generalize ω0.set b16 (.cells #[.slice ba F.bools bc,.slice xa F.ints xc] 35)=ω at *
 replace B15:Blk ω b15 29 [.int .i64 F.ints,.int .i64 F.bools,.slice aa an ac,.slice ca cn cc]:=B15
 have g15:=B15.get (i:=0) rfl
 have g16:=B16.get (i:=0) rfl
 rw [e0] at g15 g16
 refine ⟨_,g16,_,_,_,rfl,_,B15.get (i:=1) rfl,_,rfl,br_iff.2 ⟨fun h => by simp at h,fun _ => ⟨_,B16.get (i:=1) rfl,_,_,_,rfl,_,g15,_,rfl,br_iff.2 ⟨fun h => by simp at h,fun _ => ?_⟩⟩⟩⟩
 refine ⟨_,B15.get (i:=2) rfl,_,_,_,rfl,?_⟩
 unfold S39_1
 refine iloopS_for (G:=Unit) (fun k _ => (ptr b15,ptr b16,aa,an,ac,(an:Int),(k:Int))) (fun k _ υ => ω.sub υ) an ?_ (g:=()) (.refl _)
 rintro k _ υ hk hs R hR
 unfold S39_2
 dsimp only
 have hσ:=sω.trans hs
 refine br_dec.2 ⟨fun hlt => ?_,fun hge => ?_⟩
 · have hkn:k < an:=by omega
   obtain ⟨d,hd⟩:∃ d,F.atoms[k]?=some d:=⟨_,List.getElem?_eq_getElem (by omega)⟩
   obtain ⟨q1,q2,q3,q4,q5,q6,q7⟩:=hF.at' d (List.mem_of_getElem? hd)
   obtain ⟨p,hp,a0,a1,a2⟩:=(hA.sub hσ).2 k d hd
   have hAt:=hM.at' k d hd
   have wk:IntKind.wrap .i64 ((k:Int) + 1)=((k + 1:Nat):Int):=by rw [w64 (by omega) (by omega)]; omega
   refine ⟨p,hp,by omega,by omega,_,by rw [Int.toNat_natCast]; exact a0,_,by rw [Int.toNat_natCast]; exact a1,_,by rw [Int.toNat_natCast]; exact a2,_,_,_,rfl,fun b54 h54 => ?_⟩
   have sb:=PH.sub_set (o:=.cells #[.int .i64 d.1,.int .i64 d.2.1,.int .i64 d.2.2] 50) h54
   simp only [newSet,newSet0,newCell,newCell0,newFroz,newFroz0,List.setIfInBounds_toArray,List.set_cons_zero,List.set_cons_succ,List.getElem?_toArray,List.getElem?_cons_zero,List.getElem?_cons_succ,Option.some.injEq,exists_eq',true_and,Value.int.injEq,exists_eq_left']
   generalize υ.set b54 (.cells #[.int .i64 d.1,.int .i64 d.2.1,.int .i64 d.2.2] 50)=ω2 at *
   have Bu:Blk ω2 b16 35 [.slice ba F.bools bc,.slice xa F.ints xc]:=(hs.trans sb) _ _ B16
   have gu:=Bu.get (i:=0) rfl
   rw [e0] at gu
   have hσ2:=hσ.trans sb
   have hkb:k < bl.length:=by rw [hM.len]; omega
   have hdX:dX d < F.ints:=by unfold dX; omega
   have hdY:dY d < F.ints:=by unfold dY; omega
   obtain ⟨pb,hpb,hcb⟩:=(hB.sub hσ2).2.at (i:=k) (v:=.bool (bl.getD k false)) (by rw [boolsV,List.getElem?_map,List.getElem?_eq_getElem hkb,List.getD_eq_getElem?_getD,List.getElem?_eq_getElem hkb]; rfl)
   obtain ⟨px,hpx,hcx⟩:=(hX.sub hσ2).2.at (i:=dX d) (v:=.int .i64 (x (dX d))) (by rw [List.getElem?_map,tab_get hdX]; rfl)
   obtain ⟨py,hpy,hcy⟩:=(hX.sub hσ2).2.at (i:=dY d) (v:=.int .i64 (x (dY d))) (by rw [List.getElem?_map,tab_get hdY]; rfl)
   have r1:=hM.rng _ hdX
   have r2:=hM.rng _ hdY
   have tX:d.1.toNat=dX d:=rfl
   have tY:d.2.1.toNat=dY d:=rfl
   refine ⟨_,gu,_,_,_,rfl,pb,hpb,by omega,by omega,_,by rw [Int.toNat_natCast,Nat.mul_one]; exact hcb,_,rfl,_,Bu.get (i:=1) rfl,_,_,_,rfl,px,hpx,q1,q2,_,by rw [tX,Nat.mul_one]; exact hcx,_,rfl,_,Bu.get (i:=1) rfl,_,_,_,rfl,py,hpy,q3,q4,_,by rw [tY,Nat.mul_one]; exact hcy,_,rfl,?_⟩
   rw [w64 (n:=x (dX d) - x (dY d)) (by omega) (by omega)]
   have hbe:bl.getD k false=decide (x (dX d) - x (dY d)≤d.2.2):=by
     by_cases h:x (dX d) - x (dY d)≤d.2.2
     · rw [decide_eq_true h]; exact hAt.2 h
     · rw [decide_eq_false h]
       cases hb:bl.getD k false with
       | false => rfl
       | true => exact absurd (hAt.1 hb) h
   rw [hbe]
   refine br_iff.2 ⟨fun h => by simp at h,fun _ => ?_⟩
   rw [wk]
   exact hR () _ hkn (hs.trans sb)
 · refine ⟨_,hs.cell (B15.get (i:=3) rfl),_,_,_,rfl,?_⟩
   unfold S39_3
   refine iloopS_for (G:=Unit) (fun k _ => (ptr b16,ca,cn,cc,(cn:Int),(k:Int))) (fun k _ υ => ω.sub υ) cn ?_ (g:=()) hs
   clear hs hσ hR R hge hk υ k
   rintro k _ υ hk hs R hR
   unfold S39_4
   dsimp only
   have hσ:=sω.trans hs
   refine br_dec.2 ⟨fun hlt => ?_,fun hge => hQ υ hσ⟩
   have hkn:k < cn:=by omega
   obtain ⟨c,hc⟩:∃ c,F.clauses[k]?=some c:=⟨_,List.getElem?_eq_getElem (by omega)⟩
   have hcm:=List.mem_of_getElem? hc
   obtain ⟨p,y,m,kk,hp,hcell,hI,hmk⟩:=(hL.sub hσ).2 k c hc
   have wk:IntKind.wrap .i64 ((k:Int) + 1)=((k + 1:Nat):Int):=by rw [w64 (by omega) (by omega)]; omega
   have Bu:Blk υ b16 35 [.slice ba F.bools bc,.slice xa F.ints xc]:=hs _ _ B16
   have gu:=Bu.get (i:=0) rfl
   rw [e0] at gu
   refine ⟨p,hp,by omega,by omega,_,by rw [Int.toNat_natCast,Nat.mul_one]; exact hcell,_,_,_,rfl,_,gu,_,Bu.get (i:=1) rfl,_,_,_,_,_,_,rfl,?_⟩
   refine c23 (hB.sub hσ) (by omega) hI (fun z hz => litN (hF.cl c hcm z hz) hnb) (hlen c hcm) fun τ hsτ => ⟨τ,.refl _,_,rfl,br_iff.2 ⟨fun h => ?_,fun _ => ?_⟩⟩
   · obtain ⟨z,hz,hzt⟩:=hM.cl c hcm
     have:c.any (holdsB bl)=true:=List.any_eq_true.2 ⟨z,hz,litT_holds hM.len (hF.cl c hcm z hz) hzt⟩
     rw [this] at h; cases h
   · rw [wk]
     exact hR () _ hkn (hs.trans hsτ)
end Go.Proofs.Ythfnjogadngfiaa
namespace Go.Sv
def setV (val:List Int) (x:Int):Option (List Int) :=
 if x=0 ∨ x > val.length ∨ x < -(val.length:Int) then none else if val.getD (vr x) 0=-sgn x then none else some (val.set (vr x) (sgn x))
theorem setV_len {val val':List Int} {x:Int} (h:setV val x=some val'):val'.length=val.length:=by
 unfold setV at h
 split at h
 · cases h
 · split at h
   · cases h
   · cases h; simp
def setAll:List Int→List Int→Option (List Int)
 | val,[] => some val
 | val,x :: l => match setV val x with | none => none | some v => setAll v l
def scan1 (val:List Int) (x:Int) (s:Int × Nat × Bool):Int × Nat × Bool :=
 if valS val x > 0 then (s.1,s.2.1,true) else if valS val x=0∧x ≠ s.1 then (x,s.2.1 + 1,s.2.2) else s
def scanC (val:List Int):List Int→Int × Nat × Bool→Int × Nat × Bool
 | [],s => s
 | x :: l,s => scanC val l (scan1 val x s)
def roundP:List (List Int)→List Int→Bool→Option (List Int × Bool)
 | [],val,ch => some (val,ch)
 | c :: cs,val,ch =>
   let s:=scanC val c (0,0,false)
   if s.2.2=true ∨ 1 < s.2.1 then roundP cs val ch else if s.2.1=0 then none else roundP cs ((setV val s.1).getD val) true
inductive PropR (cs:List (List Int)):List Int→Option (List Int)→Prop
 | stop {val:List Int}:roundP cs val false=none→PropR cs val none
 | done {val val':List Int}:roundP cs val false=some (val',false)→PropR cs val (some val')
 | go {val val':List Int} {r:Option (List Int)}:roundP cs val false=some (val',true)→PropR cs val' r→PropR cs val r
def litsTo (val:List Int) (k:Nat):List Int:=((List.range k).filter fun i => val.getD i 0 != 0).map fun i => val.getD i 0 * ((i:Int) + 1)
theorem litsTo_succ (val:List Int) (k:Nat):litsTo val (k + 1)=litsTo val k ++ (if val.getD k 0=0 then [] else [val.getD k 0 * ((k:Int) + 1)]):=by
 unfold litsTo
 rw [List.range_succ,List.filter_append,List.map_append]
 congr 1
 by_cases h:val.getD k 0=0
 · rw [if_pos h,List.filter_cons_of_neg (by rw [h]; simp)]; rfl
 · rw [if_neg h,List.filter_cons_of_pos (by simpa using h)]; rfl
theorem litsTo_len (val:List Int) (k:Nat):(litsTo val k).length≤k:=by
 unfold litsTo
 rw [List.length_map]
 exact Nat.le_trans (List.length_filter_le _ _) (by simp)
theorem setV_small {val val':List Int} {x:Int} (h:setV val x=some val') (hs:∀ y ∈ val,-1≤y∧y≤1):∀ y ∈ val',-1≤y∧y≤1:=by
 unfold setV at h
 split at h
 · cases h
 · split at h
   · cases h
   · cases h
     intro y hy
     rcases List.mem_or_eq_of_mem_set hy with hy | rfl
     · exact hs y hy
     · unfold sgn; split <;> omega
end Go.Sv
namespace Go.Proofs.Ythfnjogadngfiaa
open Go.Sl Go.Sv
theorem c42 {σ:PH} {b15 b16 n:Nat} {val:List Int} (h16:Blk σ b16 33 [.slice (some (ptr b15)) n n]) (h15:Blk σ b15 3 (ints val)) (hn:val.length=n) (hn1:n≤1000000) {x:Int} {Q:Value→PH→Prop}
   (hno:setV val x=none→Q (.bool false) σ) (hok:∀ val' τ,setV val x=some val'→Blk τ b15 3 (ints val')→Step (·=b15) σ τ→Q (.bool true) τ) :
   C 42 #[.int .i64 x,.pointer (some (ptr b16))] Q σ:=by
 refine go (E42_0 _ _ _ _ _) ?_
 unfold S42_0
 have e0:∀ b:Nat,(Addr.mk b 0 none).add 0=⟨b,0,none⟩:=fun b => rfl
 have g:=h16.get (i:=0) rfl
 rw [e0] at g
 have wn:IntKind.wrap .i64 (0 - (n:Int))=-(n:Int):=by rw [w64 (by omega) (by omega)]; omega
 have no:(x=0 ∨ x > val.length ∨ x < -(val.length:Int))→Q (.bool false) σ:=fun h => hno (by unfold setV; rw [if_pos h])
 refine br_iff.2 ⟨fun h => no (.inl (by simpa using h)),fun h0 => ⟨_,g,_,_,_,rfl,br_dec.2 ⟨fun h => no (by omega),fun hle => ⟨_,g,_,_,_,rfl,?_⟩⟩⟩⟩
 have hx0:x ≠ 0:=by simpa using h0
 rw [wn]
 refine br_dec.2 ⟨fun h => no (by omega),fun hge => ?_⟩
 have hv:vr x < val.length:=by unfold vr; omega
 have hc:σ.cell? ((ptr b15).add (vr x))=some (.int .i64 (val.getD (vr x) 0)):=h15.get (i:=vr x) (by rw [ints,List.getElem?_map,List.getElem?_eq_getElem hv,List.getD_eq_getElem?_getD,List.getElem?_eq_getElem hv]; rfl)
 have hf:=h15.froz (vr x)
 have hset:∀ w:Int,Blk (σ.setCell ((ptr b15).add (vr x)) (.int .i64 w)) b15 3 (ints (val.set (vr x) w))∧Step (·=b15) σ (σ.setCell ((ptr b15).add (vr x)) (.int .i64 w)):=fun w => by
   refine ⟨?_,setCell_step.weaken fun b hb => hb.trans (add_block _ _)⟩
   have:=h15.set (vr x) (.int .i64 w)
   unfold ints at this ⊢
   rwa [List.map_set]
 have hsv:setV val x=if val.getD (vr x) 0=-sgn x then none else some (val.set (vr x) (sgn x)):=by
   unfold setV
   rw [if_neg (by omega)]
 refine br_dec.2 ⟨fun hneg => ?_,fun hpos => ?_⟩
 · have w1:IntKind.wrap .i64 (IntKind.wrap .i64 (0 - x) - 1)=((vr x:Nat):Int):=by unfold vr; rw [w64 (n:=0 - x) (by omega) (by omega),w64 (by omega) (by omega)]; omega
   have w2:IntKind.wrap .i64 (0 - (-1:Int))=1:=by rw [w64 (by omega) (by omega)]; rfl
   have hs:sgn x=-1:=if_pos hneg
   rw [hs] at hsv
   rw [w1,w2]
   simp only [Int.toNat_natCast,Nat.mul_one]
   refine ⟨_,g,_,_,_,rfl,_,rfl,by omega,by omega,_,hc,_,rfl,br_iff.2 ⟨fun h => ?_,fun h => ⟨_,g,_,_,_,rfl,_,rfl,by omega,by omega,⟨_,hc⟩,hf,?_⟩⟩⟩
   · have h:val.getD (vr x) 0=1:=by simpa using h
     exact hno (by rw [hsv,if_pos (by omega)])
   · have h:val.getD (vr x) 0 ≠ 1:=by simpa using h
     obtain ⟨k1,k2⟩:=hset (-1)
     exact hok _ _ (by rw [hsv,if_neg (by omega)]) k1 k2
 · have w1:IntKind.wrap .i64 (x - 1)=((vr x:Nat):Int):=by unfold vr; rw [w64 (by omega) (by omega)]; omega
   have w2:IntKind.wrap .i64 (0 - (1:Int))=-1:=by rw [w64 (by omega) (by omega)]; rfl
   have hs:sgn x=1:=if_neg hpos
   rw [hs] at hsv
   rw [w1,w2]
   simp only [Int.toNat_natCast,Nat.mul_one]
   refine ⟨_,g,_,_,_,rfl,_,rfl,by omega,by omega,_,hc,_,rfl,br_iff.2 ⟨fun h => ?_,fun h => ⟨_,g,_,_,_,rfl,_,rfl,by omega,by omega,⟨_,hc⟩,hf,?_⟩⟩⟩
   · have h:val.getD (vr x) 0=-1:=by simpa using h
     exact hno (by rw [hsv,if_pos (by omega)])
   · have h:val.getD (vr x) 0 ≠ -1:=by simpa using h
     obtain ⟨k1,k2⟩:=hset 1
     exact hok _ _ (by rw [hsv,if_neg (by omega)]) k1 k2
end Go.Proofs.Ythfnjogadngfiaa
