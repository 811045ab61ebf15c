/- A part of the proof: see the last text, YthfnjogadngfiaaXg14. -/
import Derived.Test.YthfnjogadngfiaaXg2
set_option maxRecDepth 100000
set_option linter.unusedVariables false
set_option linter.unusedSimpArgs false
namespace Go.Sl
def skOf (P : Program) (ops : Array Oper) (o : Oper) (x : Told) (a : Act) : Option SK :=
 match Region.wanted o (yielded ops a.tmps) with
 | false => some .skip
 | true => (match dkind o.op with
   | .pure => some (.pure (execOp a.eval o))
   | .heap => some (.heap (opLog P o.op a.eval) (execOp a.eval o))
   | .call => (match callTo P o.op a.eval with
     | some (g,args) => some (.call g args x)
     | none => none)
   | .no => some (.gen (execOp a.eval o)))
theorem looks_operand {ops : Array Oper} {o : Oper} {d : Tmp} (h : Operand.tmp d ∈ o.op.operands) : d ∈ o.looksAt ops :=
 List.mem_append_left _ (List.mem_filterMap.2 ⟨.tmp d,by simpa using h,rfl⟩)
theorem eval_put_operand {ops : Array Oper} {o : Oper} {a : Act} {dst : Option Tmp} {v : Value} (h : ∀ d,dst = some d → d ∉ o.looksAt ops) : ∀ x ∈ o.op.operands,(a.put dst v).eval x = a.eval x :=
 fun x hx => Act.eval_put fun d hd hxd => h d hd (looks_operand (hxd ▸ hx))
theorem skOf_put {P : Program} {ops : Array Oper} {o : Oper} {x : Told} {a : Act} {dst : Option Tmp} {v : Value} (hs : ∀ cs b,o.op ≠ .select cs b) (h : ∀ d,dst = some d → d ∉ o.looksAt ops) :
   skOf P ops o x (a.put dst v) = skOf P ops o x a := by
 unfold skOf
 rw [wanted_put o a dst v h,execOp_put o hs a dst v h,opLog_congr (eval_put_operand h),callTo_congr (eval_put_operand h)]
def Conds (bj : Nat) (done : List (Nat × Log)) : Option Log → Prop
 | none => True
 | some l => ∀ iy ∈ done,bj.testBit iy.1 = false → NoClash l iy.2
def GenOk (n : Nat) (bef : List Nat) (j : Nat) : SK → Prop
 | .gen _ => lastAt n bef j = true
 | _ => True
theorem GenOk.okk {n : Nat} {bef : List Nat} {i j : Nat} {k : SK} (h : GenOk n bef j k) (hi : i < n) (hij : i ≠ j) (hb : (bef.getD j 0).testBit i = false) : k.ok := by
 cases k <;> try trivial
 simp only [GenOk,lastAt,Bool.and_eq_true,beq_iff_eq] at h
 have : bef.getD j 0 = 2 ^ j - 1 := by omega
 rw [this,Nat.testBit_two_pow_sub_one] at hb
 simp at hb
 omega
def TR (P : Program) (call : CallR) (ops : Array Oper) (bef : List Nat) (X : Nat → SK → Prop) : List (Nat × Oper × Told) → List (Nat × Log) → (List (Nat × Log) → Act → PH → Prop) → Act → PH → Prop
 | [],done,Q,a,σ => Q done a σ
 | (j,o,x) :: r,done,Q,a,σ => ∃ k,skOf P ops o x a = some k ∧ (GenOk ops.size bef j k ∧ X j k) ∧ Conds (bef.getD j 0) done k.log ∧ stepF P call k (fun v τ => TR P call ops bef X r (addLog j done k.log) Q (a.put o.dst v) τ) σ
def DMono (Q : List (Nat × Log) → Act → PH → Prop) : Prop := ∀ done done' a σ,(∀ x,x ∈ done' → x ∈ done) → Q done a σ → Q done' a σ
def ApartP (ops : Array Oper) (x y : Oper) : Prop := (∀ d,x.dst = some d → d ∉ y.looksAt ops) ∧ (∀ d,x.dst = some d → y.dst ≠ some d) ∧ (∀ d,y.dst = some d → d ∉ x.looksAt ops)
theorem ApartP.symm {ops : Array Oper} {x y : Oper} (h : ApartP ops x y) : ApartP ops y x := ⟨h.2.2,fun d hd hx => h.2.1 d hx hd,h.1⟩
theorem addLog_sub {j : Nat} {done done' : List (Nat × Log)} (h : ∀ x,x ∈ done' → x ∈ done) (l : Option Log) : ∀ x,x ∈ addLog j done' l → x ∈ addLog j done l := by
 intro x hx
 cases l with
 | none => exact h x hx
 | some l =>
   cases hx with
   | head => exact List.mem_cons_self
   | tail _ hm => exact List.mem_cons_of_mem _ (h x hm)
theorem TR_done {P : Program} {call : CallR} {ops : Array Oper} {bef : List Nat} {X : Nat → SK → Prop} {Q : List (Nat × Log) → Act → PH → Prop} (hQ : DMono Q) : ∀ {r : List (Nat × Oper × Told)} {done done' : List (Nat × Log)} {a : Act} {σ : PH},(∀ x,x ∈ done' → x ∈ done) →
   TR P call ops bef X r done Q a σ → TR P call ops bef X r done' Q a σ
 | [],_,_,_,_,hs,h => hQ _ _ _ _ hs h
 | (j,o,x) :: r,done,done',a,σ,hs,⟨k,h1,hg,h2,h3⟩ => by
   refine ⟨k,h1,hg,?_,stepF_mono h3 fun v τ hv => TR_done hQ (addLog_sub hs _) hv⟩
   cases hk : k.log with
   | none => trivial
   | some l => rw [hk] at h2; exact fun iy hm hb => h2 iy (hs _ hm) hb
theorem Lo.ne_symm {r w : Lo} (h : r.ne w) : w.ne r := by
 cases r <;> cases w <;> simp only [Lo.ne] at h ⊢
 · exact fun e => h ⟨e.1.symm,e.2.symm⟩
 · exact fun p hp e => h p hp e.symm
 · exact h
 · exact fun p hp e => h p hp e.symm
 · exact fun p p' hp hp' e => h p' p hp' hp e.symm
 · exact h
 · exact h
 · exact h
 · exact fun b hb hb' => h b hb' hb
theorem NoClash.symm {x y : Log} (h : NoClash x y) : NoClash y x := by
 intro p hp
 unfold clash at hp
 rcases List.mem_append.1 hp with hp | hp
 · rcases List.mem_append.1 hp with hp | hp
   · obtain ⟨r,hr,hp⟩ := List.mem_flatMap.1 hp
     obtain ⟨w,hw,rfl⟩ := List.mem_map.1 hp
     exact Lo.ne_symm (h _ (List.mem_append_left _ (List.mem_append_right _ (List.mem_flatMap.2 ⟨w,hw,List.mem_map.2 ⟨r,hr,rfl⟩⟩))))
   · obtain ⟨r,hr,hp⟩ := List.mem_flatMap.1 hp
     obtain ⟨w,hw,rfl⟩ := List.mem_map.1 hp
     exact Lo.ne_symm (h _ (List.mem_append_left _ (List.mem_append_left _ (List.mem_flatMap.2 ⟨w,hw,List.mem_map.2 ⟨r,hr,rfl⟩⟩))))
 · obtain ⟨r,hr,hp⟩ := List.mem_flatMap.1 hp
   obtain ⟨w,hw,rfl⟩ := List.mem_map.1 hp
   exact Lo.ne_symm (h _ (List.mem_append_right _ (List.mem_flatMap.2 ⟨w,hw,List.mem_map.2 ⟨r,hr,rfl⟩⟩)))
theorem TR_swap {P : Program} {call : CallR} {ops : Array Oper} {bef : List Nat} {X : Nat → SK → Prop} {i j : Nat} {p o : Oper} {y x : Told} {r : List (Nat × Oper × Told)} {done : List (Nat × Log)} {Q : List (Nat × Log) → Act → PH → Prop} (hQ : DMono Q) {a : Act} {σ : PH}
   (hsp : ∀ cs b,p.op ≠ .select cs b) (hso : ∀ cs b,o.op ≠ .select cs b) (hap : ApartP ops p o) (hb : (bef.getD j 0).testBit i = false) (hb' : (bef.getD i 0).testBit j = false) (hij : i ≠ j) (hi : i < ops.size) (hj : j < ops.size) (hf : Fin' σ)
   (h : TR P call ops bef X ((i,p,y) :: (j,o,x) :: r) done Q a σ) : TR P call ops bef X ((j,o,x) :: (i,p,y) :: r) done Q a σ := by
 obtain ⟨a1,a2,a3⟩ := hap
 obtain ⟨k1,hk1,hg1,hc1,h⟩ := h
 have ho1 := hg1.1.okk hj (Ne.symm hij) hb'
 obtain ⟨v0,τ0,k2,hk2,hg2,hc2,_⟩ := stepF_some ho1 hf h
 have ho2 := hg2.1.okk hi hij hb
 rw [skOf_put hso a1] at hk2
 have h' : stepF P call k1 (fun v τ => stepF P call k2 (fun u υ => TR P call ops bef X r (addLog j (addLog i done k1.log) k2.log) Q ((a.put p.dst v).put o.dst u) υ) τ) σ := by
   refine stepF_mono h ?_
   rintro v τ ⟨k2',hk2',_,_,h⟩
   rw [skOf_put hso a1,hk2] at hk2'
   cases hk2'; exact h
 have hA : Apart k1.log k2.log := by
   cases h1 : k1.log with
   | none => trivial
   | some l1 =>
     cases h2 : k2.log with
     | none => trivial
     | some l2 =>
       rw [h1,h2] at hc2
       exact (hc2 (i,l1) List.mem_cons_self hb).symm
 have h3 := stepF_swap ho1 ho2 hA hf h'
 refine ⟨k2,hk2,hg2,?_,stepF_mono h3 ?_⟩
 · cases h2 : k2.log with
   | none => trivial
   | some l2 =>
     rw [h2] at hc2
     intro iy hm hb'
     refine hc2 iy ?_ hb'
     cases k1.log with
     | none => exact hm
     | some l1 => exact List.mem_cons_of_mem _ hm
 · intro u τ hu
   refine ⟨k1,by rw [skOf_put hsp a3]; exact hk1,hg1,?_,stepF_mono hu ?_⟩
   · cases h1 : k1.log with
     | none => trivial
     | some l1 =>
       rw [h1] at hc1 hA
       intro iy hm hb'
       cases h2 : k2.log with
       | none => rw [h2] at hm; exact hc1 iy hm hb'
       | some l2 =>
         rw [h2] at hm hA
         cases hm with
         | head => exact hA
         | tail _ hm => exact hc1 iy hm hb'
   · intro v υ hv
     rw [← Act.put_comm a v u a2]
     refine TR_done hQ ?_ hv
     generalize k1.log = g1
     generalize k2.log = g2
     intro z hz
     cases g1 with
     | none => exact hz
     | some l1 =>
       cases g2 with
       | none => exact hz
       | some l2 =>
         rcases List.mem_cons.1 hz with rfl | hz
         · exact List.mem_cons_of_mem _ List.mem_cons_self
         · rcases List.mem_cons.1 hz with rfl | hz
           · exact List.mem_cons_self
           · exact List.mem_cons_of_mem _ (List.mem_cons_of_mem _ hz)
theorem TR_front {P : Program} {call : CallR} {ops : Array Oper} {bef : List Nat} {X : Nat → SK → Prop} {j : Nat} {o : Oper} {x : Told} {post : List (Nat × Oper × Told)} {Q : List (Nat × Log) → Act → PH → Prop} (hQ : DMono Q) (hso : ∀ cs b,o.op ≠ .select cs b) (hj : j < ops.size) :
   ∀ {pre : List (Nat × Oper × Told)} {done : List (Nat × Log)} {a : Act} {σ : PH},(∀ z ∈ pre,(∀ cs b,z.2.1.op ≠ .select cs b) ∧ ApartP ops z.2.1 o ∧ (bef.getD j 0).testBit z.1 = false ∧ (bef.getD z.1 0).testBit j = false ∧ z.1 ≠ j ∧ z.1 < ops.size) → Fin' σ →
   TR P call ops bef X (pre ++ (j,o,x) :: post) done Q a σ → TR P call ops bef X ((j,o,x) :: (pre ++ post)) done Q a σ
 | [],_,_,_,_,_,h => h
 | (i,p,y) :: pre,done,a,σ,hp,hf,⟨k,h1,hg,h2,h3⟩ => by
   obtain ⟨q1,q2,q3,q4,q5,q6⟩ := hp _ List.mem_cons_self
   refine TR_swap hQ q1 hso q2 q3 q4 q5 q6 hj hf ⟨k,h1,hg,h2,stepF_mono (stepF_fin (hg.1.okk hj (Ne.symm q5) q4) hf h3) ?_⟩
   rintro v τ ⟨hv,hft⟩
   exact TR_front hQ hso hj (fun z hz => hp z (List.mem_cons_of_mem _ hz)) hft hv
theorem only_le {bs : List Nat} {σ : PH} {w : World} (h : PH.le σ w) : PH.le (PH.only bs σ) w := by
 intro b o hb
 unfold PH.only at hb
 split at hb
 · exact h b o hb
 · cases hb
theorem step_sound {P : Program} {call : CallR} (hc : HC P call) {ops : Array Oper} {i : Nat} {o : Oper} {x : Told} {a : Act} {σ : PH} {w : World} {k : SK} {K : Value → PH → Prop} {N : Act → World → Prop} {Qx : Exit → Act → World → Prop}
   (ho : ops[i]? = some o) (hk : skOf P ops o x a = some k) (hw : PH.le σ w) (h : stepF P call k K σ)
   (hn : ∀ v τ w',K v τ → PH.le τ w' → Fr σ w τ w' → N (a.put o.dst v) w') : wpOp P ops Qx i N a w := by
 unfold wpOp
 simp only [ho]
 unfold skOf at hk
 split at hk
 · rename_i hwant
   cases hk
   rw [if_neg (by rw [hwant]; simp)]
   exact hn _ _ _ h hw (Fr.refl _ _)
 · rename_i hwant
   rw [if_pos hwant]
   refine .inl ?_
   split at hk
   · cases hk
     obtain ⟨n,w',τ,hr,⟨v,hv,hkv⟩,_,hfr⟩ := irun_sound _ h (w := w) (fun b o hb => by cases hb)
     have hle : PH.le σ w' := by
       intro b ob hb
       have hlt : b < w.heap.size := by
         rcases Nat.lt_or_ge b w.heap.size with h' | h'
         · exact h'
         · rw [hw.fresh h'] at hb; cases hb
       rw [hfr.block b hlt rfl]
       exact hw b ob hb
     have hF : Fr σ w σ w' := ⟨hfr.os,hfr.tape,hfr.output,hfr.size,fun b hb _ => hfr.block b hb rfl,fun _ _ h => h⟩
     unfold Oper.wp
     rw [hr]
     cases n <;> cases hv <;> exact hn _ _ _ hkv hle hF
   · cases hk
     obtain ⟨n,w',τ,hr,⟨v,hv,hkv⟩,hl,hfr⟩ := irun_sound _ (irunF_irun _ h) hw
     unfold Oper.wp
     rw [hr]
     cases n <;> cases hv <;> exact hn _ _ _ hkv hl hfr
   · split at hk
     · rename_i g args hct
       cases hk
       obtain ⟨⟨hdom,hcall⟩,hkv⟩ := h
       unfold Oper.wp
       rw [callTo_run hct w]
       refine (hc _ _ _ _ _ hcall (only_le hw)).mono ?_
       rintro e w' ⟨v,τ,rfl,⟨rfl,hsub⟩,hl,hfr⟩
       refine hn _ σ _ hkv ?_ ?_
       · intro b ob hb
         by_cases hm : b ∈ x.bs
         · exact hl b ob (hsub b ob (by unfold PH.only; rw [List.contains_iff_mem.2 hm]; exact hb))
         · have hlt : b < w.heap.size := by
             rcases Nat.lt_or_ge b w.heap.size with h' | h'
             · exact h'
             · rw [hw.fresh h'] at hb; cases hb
           have hnone : PH.only x.bs σ b = none := by
             unfold PH.only
             cases hcb : x.bs.contains b with
             | false => rfl
             | true => exact absurd (List.contains_iff_mem.1 hcb) hm
           rw [hfr.block b hlt hnone]
           exact hw b ob hb
       · refine ⟨hfr.os,hfr.tape,hfr.output,hfr.size,fun b hb hnb => hfr.block b hb ?_,fun _ _ h => h⟩
         unfold PH.only
         split
         · exact hnb
         · rfl
     · cases hk
   · cases hk
     obtain ⟨n,w',τ,hr,⟨v,hv,hkv⟩,hl,hfr⟩ := irun_sound _ h hw
     unfold Oper.wp
     rw [hr]
     cases n <;> cases hv <;> exact hn _ _ _ hkv hl hfr
structure Left (ops : Array Oper) (bef : List Nat) (rem : List (Nat × Oper × Told)) (listed : Array Bool) : Prop where
 ord : rem.Pairwise fun x y => (bef.getD x.1 0).testBit y.1 = false ∧ x.1 ≠ y.1
 mem : ∀ j,(∃ z ∈ rem,z.1 = j) ↔ listed.getD j true = false
 at' : ∀ z ∈ rem,ops[z.1]? = some z.2.1
 size : listed.size = ops.size
 closed : ∀ j,listed.getD j false = true → ∀ i,(bef.getD j 0).testBit i = true → listed.getD i false = true
structure DOk (ops : Array Oper) (bef : List Nat) : Prop where
 sel : ∀ (j : Nat) (o : Oper) cs b,ops[j]? = some o → o.op ≠ .select cs b
 back : ∀ (j : Nat) (o : Oper),ops[j]? = some o → ∀ e ∈ o.after,Region.binds .any e = true → e.on < j
 apart : ∀ (i j : Nat) (p o : Oper),i < j → ops[i]? = some p → ops[j]? = some o → (bef.getD j 0).testBit i = true ∨ p.apart ops o = true
 bef' : ∀ (j : Nat) (o : Oper) (e : Edge),ops[j]? = some o → e ∈ o.after → Region.binds .any e = true → (bef.getD j 0).testBit e.on = true
 bef : ∀ (j : Nat) (o : Oper) (i : Nat),ops[j]? = some o → (bef.getD j 0).testBit i = true → ∃ e ∈ o.after,Region.binds .any e = true ∧ (i = e.on ∨ (bef.getD e.on 0).testBit i = true)
theorem getD_tf {l : Array Bool} {j : Nat} (h : l.getD j true = false) : j < l.size ∧ l.getD j false = false := by
 have hlt : j < l.size := by
   rcases Nat.lt_or_ge j l.size with h' | h'
   · exact h'
   · rw [Array.getD_eq_getD_getElem?,Array.getElem?_eq_none h'] at h; cases h
 refine ⟨hlt,?_⟩
 rw [Array.getD_eq_getD_getElem?,Array.getElem?_eq_getElem hlt] at h ⊢
 exact h
theorem getD_ft {l : Array Bool} {j : Nat} (hlt : j < l.size) (h : ¬ l.getD j true = false) : l.getD j false = true := by
 rw [Array.getD_eq_getD_getElem?,Array.getElem?_eq_getElem hlt] at h ⊢
 simpa using h
theorem DOk.apart' {ops : Array Oper} {bef : List Nat} (h : DOk ops bef) {i j : Nat} {p o : Oper} (hij : i ≠ j) (hi : ops[i]? = some p) (hj : ops[j]? = some o) (h1 : (bef.getD j 0).testBit i = false) (h2 : (bef.getD i 0).testBit j = false) : ApartP ops p o := by
 rcases Nat.lt_or_gt_of_ne hij with hlt | hlt
 · rcases h.apart i j p o hlt hi hj with hb | hb
   · rw [h1] at hb; cases hb
   · exact Oper.apart_spec hb
 · rcases h.apart j i o p hlt hj hi with hb | hb
   · rw [h2] at hb; cases hb
   · exact ApartP.symm (Oper.apart_spec hb)
theorem TR_sound {P : Program} {call : CallR} (hc : HC P call) {ops : Array Oper} {bef : List Nat} (hok : DOk ops bef) {Q : Act → PH → Prop} {Qx : Exit → Act → World → Prop} {σ0 : PH} {w0 : World}
   (hQ : ∀ a τ w,Q a τ → PH.le τ w → Fr σ0 w0 τ w → Qx .normal a w) :
   ∀ (fuel : Nat) (rem : List (Nat × Oper × Told)) (listed : Array Bool) (done : List (Nat × Log)) (a : Act) (σ : PH) (w : World),TR P call ops bef (fun _ _ => True) rem done (fun _ => Q) a σ → PH.le σ w → Fr σ0 w0 σ w → rem.length ≤ fuel →
     Left ops bef rem listed → wpAny P .any ops Qx fuel listed a w := by
 intro fuel
 have empty : ∀ (rem : List (Nat × Oper × Told)) (listed : Array Bool),Left ops bef rem listed → Region.ready .any ops listed = [] → rem = [] := by
   intro rem listed hl hr
   cases rem with
   | nil => rfl
   | cons z rest =>
     exfalso
     have hm : z.1 ∈ Region.ready .any ops listed := by
       rw [mem_ready]
       refine ⟨(hl.mem z.1).1 ⟨z,List.mem_cons_self,rfl⟩,z.2.1,hl.at' z List.mem_cons_self,fun e he hb => ?_⟩
       have hlt := hok.back z.1 z.2.1 (hl.at' z List.mem_cons_self) e he hb
       have hsz : e.on < listed.size := by
         have := (getD_tf ((hl.mem z.1).1 ⟨z,List.mem_cons_self,rfl⟩)).1
         omega
       refine getD_ft hsz fun hu => ?_
       obtain ⟨z',hz',he'⟩ := (hl.mem e.on).2 hu
       cases hz' with
       | head => omega
       | tail _ hm =>
         have := (List.pairwise_cons.1 hl.ord).1 z' hm
         have h2 := hok.bef' z.1 z.2.1 e (hl.at' z List.mem_cons_self) he hb
         rw [he'] at this
         rw [this.1] at h2; cases h2
     rw [hr] at hm; cases hm
 induction fuel with
 | zero =>
   intro rem listed done a σ w h hw hf hlen hl
   have : rem = [] := List.length_eq_zero_iff.1 (by omega)
   subst this
   refine ⟨?_,hQ _ _ _ h hw hf⟩
   rw [List.eq_nil_iff_forall_not_mem]
   intro j hj
   rw [mem_ready] at hj
   obtain ⟨z,hz,_⟩ := (hl.mem j).2 hj.1
   cases hz
 | succ fuel ih =>
   intro rem listed done a σ w h hw hf hlen hl
   refine ⟨fun hr => ?_,fun i hi => ?_⟩
   · have := empty rem listed hl hr
     subst this
     exact hQ _ _ _ h hw hf
   · have hi' := hi
     rw [mem_ready] at hi
     obtain ⟨hun,o',ho',hafter⟩ := hi
     obtain ⟨z,hz,rfl⟩ := (hl.mem i).2 hun
     obtain ⟨pre,post,rfl⟩ := List.append_of_mem hz
     obtain ⟨j,o,x⟩ := z
     have ho := hl.at' _ hz
     simp only at ho ho' hun hi' hafter ⊢
     obtain rfl : o = o' := Option.some.inj (ho.symm.trans ho')
     have hord := hl.ord
     rw [List.pairwise_append] at hord
     have hbefore : ∀ i',(bef.getD j 0).testBit i' = true → listed.getD i' false = true := by
       intro i' hb
       obtain ⟨e,he,hbi,hor⟩ := hok.bef j o i' ho hb
       rcases hor with rfl | hor
       · exact hafter e he hbi
       · exact hl.closed e.on (hafter e he hbi) i' hor
     have h := TR_front (fun _ _ _ _ _ h => h) (hok.sel j o · · ho) (getD_tf hun |>.1 |> (hl.size ▸ ·)) (pre := pre) (fun z hz' => by
       have hzr : z ∈ pre ++ (j,o,x) :: post := List.mem_append_left _ hz'
       have hat := hl.at' z hzr
       have hR := hord.2.2 z hz' _ List.mem_cons_self
       simp only at hR
       have hzu := (hl.mem z.1).1 ⟨z,hzr,rfl⟩
       have hnb : (bef.getD j 0).testBit z.1 = false := by
         cases hb : (bef.getD j 0).testBit z.1 with
         | false => rfl
         | true => have := hbefore _ hb; rw [(getD_tf hzu).2] at this; cases this
       exact ⟨fun cs b => hok.sel z.1 z.2.1 cs b hat,hok.apart' hR.2 hat ho hnb hR.1,hnb,hR.1,hR.2,hl.size ▸ (getD_tf hzu).1⟩) (Fin'.of_le hw) h
     obtain ⟨k,hk,_,_,h⟩ := h
     refine step_sound hc ho hk hw h ?_
     intro v τ w' hv hle hfr
     refine ih (pre ++ post) _ _ _ _ _ hv hle (hf.trans hfr) (by simp at hlen ⊢; omega) ?_
     have hjlt := (getD_tf hun).1
     have hne : ∀ z ∈ pre ++ post,z.1 ≠ j := by
       intro z hz' e
       rcases List.mem_append.1 hz' with hz' | hz'
       · have := hord.2.2 z hz' _ List.mem_cons_self; simp only at this; omega
       · have := (List.pairwise_cons.1 hord.2.1).1 z hz'; simp only at this; omega
     refine ⟨?_,?_,?_,by simp [hl.size],?_⟩
     · rw [List.pairwise_append]
       exact ⟨hord.1,(List.pairwise_cons.1 hord.2.1).2,fun z hz' z' hz'' => hord.2.2 z hz' z' (List.mem_cons_of_mem _ hz'')⟩
     · intro i'
       by_cases e : j = i'
       · subst e
         constructor
         · rintro ⟨z,hz',e⟩; exact absurd e (hne z hz')
         · intro hu
           have : (listed.setIfInBounds j true).getD j true = true := by simp [hjlt]
           rw [this] at hu; cases hu
       · rw [getD_set_ne true e,← hl.mem i']
         constructor
         · rintro ⟨z,hz',e'⟩
           refine ⟨z,?_,e'⟩
           rcases List.mem_append.1 hz' with h' | h'
           · exact List.mem_append_left _ h'
           · exact List.mem_append_right _ (List.mem_cons_of_mem _ h')
         · rintro ⟨z,hz',e'⟩
           refine ⟨z,?_,e'⟩
           rcases List.mem_append.1 hz' with h' | h'
           · exact List.mem_append_left _ h'
           · cases h' with
             | head => exact absurd e' e
             | tail _ hm => exact List.mem_append_right _ hm
     · intro z hz'
       refine hl.at' z ?_
       rcases List.mem_append.1 hz' with h' | h'
       · exact List.mem_append_left _ h'
       · exact List.mem_append_right _ (List.mem_cons_of_mem _ h')
     · intro q hq i' hb
       by_cases e : j = q
       · subst e; exact getD_set_true (hbefore i' hb)
       · rw [getD_set_ne false e] at hq
         exact getD_set_true (hl.closed q hq i' hb)
theorem qcalls_ex {P : Program} : ∀ {os : List Oper} {K : List Told → Prop},qcalls P os K → ∃ l,K l
 | [],_,h => ⟨_,h⟩
 | o :: os,K,h => by
   unfold qcalls at h
   split at h
   · obtain ⟨v,bs,h⟩ := enumT_ex h
     obtain ⟨l,h⟩ := qcalls_ex h
     exact ⟨_,h⟩
   · exact qcalls_ex h
theorem withC_iff : ∀ {l : List Prop} {K : Prop},withC l K → (∀ p ∈ l,p) ∧ K
 | [],_,h => ⟨fun _ h => (by cases h),h⟩
 | p :: ps,K,h => ⟨fun q hq => by
     cases hq with
     | head => exact h.1
     | tail _ hm => exact (withC_iff h.2).1 q hm,(withC_iff h.2).2⟩
theorem clashes_mem {bj : Nat} {x : Log} : ∀ {done : List (Nat × Log)},(∀ p ∈ clashes bj x done,p) → ∀ iy ∈ done,bj.testBit iy.1 = false → NoClash x iy.2
 | [],_,_,h,_ => by cases h
 | (i,y) :: l,hall,iy,hm,hb => by
   unfold clashes at hall
   cases hm with
   | head =>
     split at hall
     · rename_i h; rw [h] at hb; cases hb
     · exact fun p hp => hall p (List.mem_append_left _ hp)
   | tail _ hm =>
     split at hall
     · exact clashes_mem hall iy hm hb
     · exact clashes_mem (fun p hp => hall p (List.mem_append_right _ hp)) iy hm hb
def dum : Told := ⟨undef,[]⟩
def zipT : Nat → List Oper → List Told → List (Nat × Oper × Told)
 | _,[],_ => []
 | j,o :: os,cv => (j,o,(match dkind o.op with | .call => cv.headD dum | _ => dum)) :: zipT (j + 1) os (skipTold o cv)
theorem erho_eq {e : Env} {a : Act} (he : ER e a) {o : Oper} (hk : eknown e o.op.operands.toList = true) : ∀ x ∈ o.op.operands,a.eval x = erho e x :=
 fun x hx => he.known hk x (Array.mem_toList_iff.2 hx)
theorem idstep_TR {P : Program} {call : CallR} {ops : Array Oper} {bef : List Nat} {j : Nat} {o : Oper} {done : List (Nat × Log)} {cv : List Told} {K : Option Log → List Told → Env → PH → Prop} {e : Env} {a : Act} {σ : PH}
   {r : List (Nat × Oper × Told)} {Q : List (Nat × Log) → Act → PH → Prop} {X : Nat → SK → Prop} (hX : ∀ x k,skOf P ops o x a = some k → X j k) (hs : ∀ cs b,o.op ≠ .select cs b) (he : ER e a) (hw : Region.wanted o (yielded ops a.tmps) = true) (h : idstep P call (lastAt ops.size bef j) (bef.getD j 0) o done cv K e σ)
   (hK : ∀ lg v τ,K lg (skipTold o cv) (eputO e o.dst v) τ → TR P call ops bef X r (addLog j done lg) Q (a.put o.dst v) τ) :
   TR P call ops bef X ((j,o,(match dkind o.op with | .call => cv.headD dum | _ => dum)) :: r) done Q a σ := by
 unfold idstep at h
 split at h
 · exact h.elim
 · rename_i hkn
   have hex := exec_known he hkn hs
   have hlog := opLog_congr (P := P) (erho_eq he hkn)
   have hct := callTo_congr (P := P) (erho_eq he hkn)
   have hsk := skOf P ops o (match dkind o.op with | .call => cv.headD dum | _ => dum) a
   split at h
   · rename_i hd
     refine ⟨.pure (execOp a.eval o),by unfold skOf; rw [hw,hd],⟨trivial,hX dum _ (by unfold skOf; rw [hw,hd])⟩,trivial,?_⟩
     show irun P (execOp a.eval o) _ _
     rw [hex]
     have hg := iop_gen h
     refine irun_mono _ hg ?_
     intro n τ hn
     have hK' : ∀ v,K none cv (eputO e o.dst v) σ → TR P call ops bef X r (addLog j done (SK.pure (execOp (erho e) o)).log) Q (a.put o.dst v) σ := fun v hv => hK none v σ (by unfold skipTold; rw [hd]; exact hv)
     cases n <;> try exact hn.elim
     · dsimp only at hn
       split at hn
       · obtain ⟨u,rfl,hu⟩ := enumT_ex hn; exact ⟨_,rfl,hK' _ hu⟩
       · exact ⟨_,rfl,hK' _ hn⟩
     · exact ⟨_,rfl,hK' _ hn⟩
   · rename_i hd
     obtain ⟨hcl,h⟩ := withC_iff h
     refine ⟨.heap (opLog P o.op a.eval) (execOp a.eval o),by unfold skOf; rw [hw,hd],⟨trivial,hX dum _ (by unfold skOf; rw [hw,hd])⟩,?_,?_⟩
     · rw [hlog]
       exact clashes_mem hcl
     · show irunF P _ _ (execOp a.eval o) _ σ
       rw [hex,hlog]
       refine irunF_mono (fun _ h => h) (fun _ h => h) _ (heap_F hd h) ?_
       rintro n τ ⟨v,hv,hkv⟩
       exact ⟨v,hv,hK _ v τ (by unfold skipTold; rw [hd]; exact hkv)⟩
   · rename_i hd
     split at h
     · exact h.elim
     · rename_i x cv'
       obtain ⟨hcl,hq,h⟩ := withC_iff h
       unfold idcall at hq
       split at hq
       · rename_i g args hga
         refine ⟨.call g args x,?_,⟨trivial,hX x _ (by unfold skOf; rw [hw,hd,hct,hga])⟩,clashes_mem hcl,?_⟩
         · unfold skOf
           rw [hw,hd,hct,hga]
           rfl
         · exact ⟨hq,hK _ x.v σ (by unfold skipTold; rw [hd]; exact h)⟩
       · exact hq.elim
   · rename_i hd
     split at h
     · rename_i hlast
       refine ⟨.gen (execOp a.eval o),by unfold skOf; rw [hw,hd],⟨hlast,hX dum _ (by unfold skOf; rw [hw,hd])⟩,trivial,?_⟩
       show irun P (execOp a.eval o) _ _
       rw [hex]
       refine irun_mono _ (iop_gen h) ?_
       intro n τ hn
       have hK' : ∀ v,K none cv (eputO e o.dst v) τ → TR P call ops bef X r (addLog j done (SK.gen (execOp (erho e) o)).log) Q (a.put o.dst v) τ := fun v hv => hK none v τ (by unfold skipTold; rw [hd]; exact hv)
       cases n <;> try exact hn.elim
       · dsimp only at hn
         split at hn
         · obtain ⟨u,rfl,hu⟩ := enumT_ex hn; exact ⟨_,rfl,hK' _ hu⟩
         · exact ⟨_,rfl,hK' _ hn⟩
       · exact ⟨_,rfl,hK' _ hn⟩
     · exact h.elim
theorem idraw_TR {P : Program} {call : CallR} {ops : Array Oper} {bef : List Nat} (hs : ∀ (j : Nat) (o : Oper) cs b,ops[j]? = some o → o.op ≠ .select cs b) {Q : Env → PH → Prop} :
   ∀ {os : List Oper} {j : Nat} {done : List (Nat × Log)} {cv : List Told} {e : Env} {a : Act} {σ : PH},(∀ i,os[i]? = ops[j + i]?) → ER e a → idraw P call ops bef j os done cv Q e σ →
     TR P call ops bef (fun _ _ => True) (zipT j os cv) done (fun _ a τ => ∃ e,ER e a ∧ Q e τ) a σ
 | [],_,_,_,e,a,_,_,he,h => ⟨e,he,h⟩
 | o :: os,j,done,cv,e,a,σ,hi,he,h => by
   have ho : ops[j]? = some o := by have := hi 0; simpa using this.symm
   have hi' : ∀ i,os[i]? = ops[j + 1 + i]? := fun i => by have := hi (i + 1); rw [List.getElem?_cons_succ] at this; rw [this]; congr 1; omega
   have hso : ∀ cs b,o.op ≠ .select cs b := fun cs b => hs j o cs b ho
   have run : ∀ e' : Env,ER e' a → Region.wanted o (yielded ops a.tmps) = true → idstep P call (lastAt ops.size bef j) (bef.getD j 0) o done cv (fun l cv e σ => idraw P call ops bef (j + 1) os (addLog j done l) cv Q e σ) e' σ →
       TR P call ops bef (fun _ _ => True) (zipT j (o :: os) cv) done (fun _ a τ => ∃ e,ER e a ∧ Q e τ) a σ := fun e' he' hw h =>
     idstep_TR (fun _ _ _ => trivial) hso he' hw h fun lg v τ hv => idraw_TR hs hi' (he'.put _ _) hv
   have skip : ∀ e' : Env,ER e' a → Region.wanted o (yielded ops a.tmps) = false → idraw P call ops bef (j + 1) os done (skipTold o cv) Q (eputO e' o.dst undef) σ →
       TR P call ops bef (fun _ _ => True) (zipT j (o :: os) cv) done (fun _ a τ => ∃ e,ER e a ∧ Q e τ) a σ := fun e' he' hw h =>
     ⟨.skip,by unfold skOf; rw [hw],⟨trivial,trivial⟩,trivial,idraw_TR hs hi' (he'.put _ _) h⟩
   unfold idraw at h
   split at h
   · rename_i hg
     exact run e he (by unfold Region.wanted; rw [hg]) h
   · rename_i g want hg
     split at h
     · exact h.elim
     · rename_i d hd
       split at h
       · rename_i b hb
         have hwant := wanted_of he hg hd hb
         cases b
         · have he' := he.bool hb (b' := false) rfl
           simp only [br] at h
           cases want
           · exact run _ he' hwant h
           · exact skip _ he' hwant h
         · have he' := he.bool hb (b' := true) rfl
           simp only [br] at h
           cases want
           · exact skip _ he' hwant h
           · exact run _ he' hwant h
       · rename_i vs hb
         exact skip _ he (wanted_not he hg hd hb) h
       · exact h.elim
theorem zipT_at : ∀ {os : List Oper} {j : Nat} {cv : List Told},∀ z ∈ zipT j os cv,j ≤ z.1 ∧ os[z.1 - j]? = some z.2.1
 | [],_,_,_,h => by cases h
 | o :: os,j,cv,z,h => by
   unfold zipT at h
   cases h with
   | head => exact ⟨Nat.le_refl _,by simp⟩
   | tail _ hm =>
     obtain ⟨h1,h2⟩ := zipT_at z hm
     refine ⟨by omega,?_⟩
     rw [show z.1 - j = (z.1 - (j + 1)) + 1 from by omega,List.getElem?_cons_succ]; exact h2
theorem zipT_ord : ∀ {os : List Oper} {j : Nat} {cv : List Told},(zipT j os cv).Pairwise fun x y => x.1 < y.1
 | [],_,_ => List.Pairwise.nil
 | o :: os,j,cv => by
   unfold zipT
   refine List.pairwise_cons.2 ⟨fun z hz => ?_,zipT_ord⟩
   have := (zipT_at z hz).1
   show j < z.1
   omega
theorem zipT_mem : ∀ {os : List Oper} {j : Nat} {cv : List Told} (i : Nat),i < os.length → ∃ z ∈ zipT j os cv,z.1 = j + i
 | [],_,_,_,h => by simp at h
 | o :: os,j,cv,0,h => ⟨_,List.mem_cons_self,rfl⟩
 | o :: os,j,cv,i + 1,h => by
   obtain ⟨z,hz,e⟩ := zipT_mem (os := os) (j := j + 1) (cv := skipTold o cv) i (by simp at h; omega)
   exact ⟨z,List.mem_cons_of_mem _ hz,by omega⟩
theorem zipT_length : ∀ {os : List Oper} {j : Nat} {cv : List Told},(zipT j os cv).length = os.length
 | [],_,_ => rfl
 | o :: os,j,cv => by simp [zipT,zipT_length]
def befStep (acc : List Nat) (o : Oper) : Nat := o.after.toList.foldl (fun s e => match Region.binds .any e with | true => s ||| 2 ^ e.on ||| acc.getD e.on 0 | false => s) 0
theorem befs_cons (o : Oper) (os : List Oper) (acc : List Nat) : befs (o :: os) acc = befs os (acc ++ [befStep acc o]) := rfl
theorem befs_prefix : ∀ (os : List Oper) (acc : List Nat),∃ l,befs os acc = acc ++ l
 | [],acc => ⟨[],by simp [befs]⟩
 | o :: os,acc => by
   obtain ⟨l,hl⟩ := befs_prefix os (acc ++ [befStep acc o])
   exact ⟨befStep acc o :: l,by rw [befs_cons,hl]; simp⟩
theorem befs_at : ∀ (os : List Oper) (acc : List Nat) (j : Nat) (o : Oper),os[j]? = some o → ∃ acc' l,befs os acc = acc' ++ befStep acc' o :: l ∧ acc'.length = acc.length + j
 | [],_,_,_,h => by simp at h
 | x :: os,acc,0,o,h => by
   simp at h; subst h
   obtain ⟨l,hl⟩ := befs_prefix os (acc ++ [befStep acc x])
   exact ⟨acc,l,by rw [befs_cons,hl]; simp,by simp⟩
 | x :: os,acc,j + 1,o,h => by
   rw [List.getElem?_cons_succ] at h
   obtain ⟨acc',l,h1,h2⟩ := befs_at os (acc ++ [befStep acc x]) j o h
   exact ⟨acc',l,by rw [befs_cons]; exact h1,by rw [h2]; simp; omega⟩
theorem foldl_bit {acc : List Nat} {i : Nat} : ∀ (l : List Edge) (s : Nat),(l.foldl (fun s e => match Region.binds .any e with | true => s ||| 2 ^ e.on ||| acc.getD e.on 0 | false => s) s).testBit i = true →
   s.testBit i = true ∨ ∃ e ∈ l,Region.binds .any e = true ∧ (i = e.on ∨ (acc.getD e.on 0).testBit i = true)
 | [],s,h => .inl h
 | e :: l,s,h => by
   rw [List.foldl_cons] at h
   rcases foldl_bit l _ h with h | ⟨e',he,hx⟩
   · split at h
     · rename_i hb
       rw [Nat.testBit_or,Nat.testBit_or,Nat.testBit_two_pow] at h
       simp only [Bool.or_eq_true,decide_eq_true_eq] at h
       rcases h with (h | h) | h
       · exact .inl h
       · exact .inr ⟨e,List.mem_cons_self,hb,.inl h.symm⟩
       · exact .inr ⟨e,List.mem_cons_self,hb,.inr h⟩
     · exact .inl h
   · exact .inr ⟨e',List.mem_cons_of_mem _ he,hx⟩
theorem foldl_keep {acc : List Nat} {i : Nat} : ∀ (l : List Edge) (s : Nat),s.testBit i = true → (l.foldl (fun s e => match Region.binds .any e with | true => s ||| 2 ^ e.on ||| acc.getD e.on 0 | false => s) s).testBit i = true
 | [],_,h => h
 | e :: l,s,h => by
   rw [List.foldl_cons]
   refine foldl_keep l _ ?_
   split
   · rw [Nat.testBit_or,Nat.testBit_or,h]; rfl
   · exact h
theorem foldl_has {acc : List Nat} : ∀ (l : List Edge) (s : Nat) (e : Edge),e ∈ l → Region.binds .any e = true → (l.foldl (fun s e => match Region.binds .any e with | true => s ||| 2 ^ e.on ||| acc.getD e.on 0 | false => s) s).testBit e.on = true
 | [],_,_,h,_ => by cases h
 | e' :: l,s,e,h,hb => by
   rw [List.foldl_cons]
   cases h with
   | head =>
     refine foldl_keep l _ ?_
     rw [hb]
     simp [Nat.testBit_or,Nat.testBit_two_pow]
   | tail _ hm => exact foldl_has l _ e hm hb
theorem DOk.lt {ops : Array Oper} {bef : List Nat} (h : DOk ops bef) : ∀ (n j : Nat) (o : Oper) (i : Nat),j ≤ n → ops[j]? = some o → (bef.getD j 0).testBit i = true → i < j := by
 intro n
 induction n with
 | zero =>
   intro j o i hj ho hb
   obtain ⟨e,he,hbi,_⟩ := h.bef j o i ho hb
   have := h.back j o ho e he hbi
   omega
 | succ n ih =>
   intro j o i hj ho hb
   obtain ⟨e,he,hbi,hor⟩ := h.bef j o i ho hb
   have hlt := h.back j o ho e he hbi
   rcases hor with rfl | hor
   · exact hlt
   · have hjs : j < ops.size := by
       rcases Nat.lt_or_ge j ops.size with h' | h'
       · exact h'
       · rw [Array.getElem?_eq_none h'] at ho; cases ho
     have := ih e.on ops[e.on] i (by omega) (Array.getElem?_eq_getElem (by omega)) hor
     omega
theorem dok_of {ops : Array Oper} (h : drawOk ops (befs ops.toList []) = true) : DOk ops (befs ops.toList []) := by
 unfold drawOk at h
 rw [Bool.and_eq_true] at h
 obtain ⟨h1,h2⟩ := h
 rw [List.all_eq_true] at h2
 have hmem : ∀ (j : Nat) (o : Oper),ops[j]? = some o → (o,j) ∈ ops.toList.zipIdx := by
   intro j o ho
   rw [List.mem_zipIdx_iff_getElem?]
   simpa using ho
 have back : ∀ (j : Nat) (o : Oper),ops[j]? = some o → ∀ e ∈ o.after,Region.binds .any e = true → e.on < j := by
   intro j o ho e he hb
   have := h2 _ (hmem j o ho)
   simp only [Bool.and_eq_true,List.all_eq_true] at this
   have := this.1 e (Array.mem_toList_iff.2 he)
   simpa [hb] using this
 refine ⟨fun j o cs b ho => Region.noSelect_spec h1 j o cs b ho,back,?_,?_,?_⟩
 · intro i j p o hij hi hj
   have := h2 _ (hmem j o hj)
   simp only [Bool.and_eq_true,List.all_eq_true] at this
   have := this.2 _ (hmem i p hi)
   simp only [Bool.or_eq_true,decide_eq_true_eq] at this
   rcases this with (h | h) | h
   · omega
   · exact .inl h
   · exact .inr h
 · intro j o e ho he hbi
   obtain ⟨acc',l,e1,e2⟩ := befs_at ops.toList [] j o (by simpa using ho)
   have e3 : (befs ops.toList []).getD j 0 = befStep acc' o := by
     rw [e1,List.getD_eq_getElem?_getD,List.getElem?_append_right (by simp at e2; omega)]
     simp at e2
     simp [e2]
   rw [e3]
   exact foldl_has _ _ e (Array.mem_toList_iff.2 he) hbi
 · intro j o i ho hb
   obtain ⟨acc',l,e1,e2⟩ := befs_at ops.toList [] j o (by simpa using ho)
   have e3 : (befs ops.toList []).getD j 0 = befStep acc' o := by
     rw [e1,List.getD_eq_getElem?_getD,List.getElem?_append_right (by simp at e2; omega)]
     simp at e2
     simp [e2]
   rw [e3] at hb
   rcases foldl_bit _ _ hb with h | ⟨e,he,hbi,hx⟩
   · simp at h
   · refine ⟨e,Array.mem_toList_iff.1 he,hbi,hx.imp id fun hx => ?_⟩
     have hlt := back j o ho e (Array.mem_toList_iff.1 he) hbi
     rw [e1,List.getD_eq_getElem?_getD,List.getElem?_append_left (by simp at e2; omega),← List.getD_eq_getElem?_getD]
     exact hx
theorem draw_sound1 {P : Program} (hm : P.follows .mixedOrders = true) (call : CallR) (hc : HC P call) {id : Nat} {ops : Array Oper} {Q : IX → Env → PH → Prop} {e : Env} {σ : PH} {a : Act} {w : World}
   (h : idrawn P call ops (fun e τ => Q .normal e τ) e σ) (he : ER e a) (hw : PH.le σ w) : (Code.region id ops true).wp P (W Q σ w) a w := by
 unfold idrawn at h
 split at h
 · rename_i hok
   have hok := dok_of hok
   obtain ⟨cv,h⟩ := qcalls_ex h
   have hT := idraw_TR hok.sel (fun i => by simp) he h
   refine wp_region_any hm ?_
   have hw' : PH.le σ { w with drawn := w.drawn + 1 } := hw
   refine TR_sound hc hok (σ0 := σ) (w0 := w) (Q := fun a τ => ∃ e,ER e a ∧ Q .normal e τ) ?_ ops.size (zipT 0 ops.toList cv) _ [] a σ _ hT hw' ⟨rfl,rfl,rfl,Nat.le_refl _,fun _ _ _ => rfl,fun _ _ h => h⟩ (by rw [zipT_length]; simp) ?_
   · rintro a τ w' ⟨e,he,hq⟩ hl hf
     exact ⟨.normal,e,τ,rfl,hq,he,hl,hf⟩
   · refine ⟨zipT_ord.imp_of_mem fun {x y} hx hy hlt => ⟨?_,by omega⟩,?_,?_,by simp,?_⟩
     · obtain ⟨_,h2⟩ := zipT_at x hx
       cases hb : ((befs ops.toList []).getD x.1 0).testBit y.1 with
       | false => rfl
       | true => have := hok.lt x.1 x.1 x.2.1 y.1 (Nat.le_refl _) (by simpa using h2) hb; omega
     · intro j
       constructor
       · rintro ⟨z,hz,rfl⟩
         obtain ⟨_,h2⟩ := zipT_at z hz
         have : z.1 < ops.size := by
           rcases Nat.lt_or_ge z.1 ops.size with h' | h'
           · exact h'
           · rw [List.getElem?_eq_none (by simp; omega)] at h2; cases h2
         simp [this]
       · intro hu
         have hlt := (getD_tf hu).1
         obtain ⟨z,hz,e⟩ := zipT_mem (os := ops.toList) (j := 0) (cv := cv) j (by simpa using hlt)
         exact ⟨z,hz,by omega⟩
     · intro z hz
       obtain ⟨_,h2⟩ := zipT_at z hz
       simpa using h2
     · intro j hj
       exfalso
       rw [Array.getD_eq_getD_getElem?,Array.getElem?_replicate] at hj
       split at hj <;> cases hj
 · exact h.elim
def Det {α : Type} (P : Program) : Sem α → Prop
 | .pure _ | .halt _ => True
 | .program k => Det P (k P)
 | .mark _ k => Det P k
 | .load _ _ k => ∀ v,Det P (k v)
 | .shape _ k => ∀ s,Det P (k s)
 | .frozen _ k => ∀ s,Det P (k s)
 | .getObj _ k => ∀ s,Det P (k s)
 | .freeze .. | .sys .. => True
 | _ => False
theorem Det.bind {α β : Type} {P : Program} {s : Sem α} {f : α → Sem β} (h : Det P s) (hf : ∀ a,Det P (f a)) : Det P (s >>= f) := by
 show Det P (s.bind f)
 induction s with
 | pure a => exact hf a
 | load m a k ih => exact fun v => ih v (h v)
 | program k ih => exact ih P h
 | mark m k ih => exact ih h
 | halt h => trivial
 | shape r k ih => exact fun v => ih v (h v)
 | freeze a n k ih => trivial
 | frozen r k ih => exact fun v => ih v (h v)
 | getObj r k ih => exact fun v => ih v (h v)
 | sys c k ih => trivial
 | _ => exact h.elim
theorem Det.irun {α : Type} {P : Program} : ∀ {s : Sem α} {Q : α → PH → Prop} {σ : PH},Det P s → Sl.irun P s Q σ → ∃ n,Q n σ ∧ ∀ Q' : α → PH → Prop,Q' n σ → Sl.irun P s Q' σ := by
 intro s
 induction s with
 | pure a => intro Q σ _ h; exact ⟨a,h,fun Q' h => h⟩
 | load m a k ih =>
   rintro Q σ hd ⟨v,hc,h⟩
   obtain ⟨n,h1,h2⟩ := ih v (hd v) h
   exact ⟨n,h1,fun Q' hq => ⟨v,hc,h2 Q' hq⟩⟩
 | program k ih => intro Q σ hd h; exact ih P hd h
 | mark m k ih => intro Q σ hd h; exact ih hd h
 | halt x => intro Q σ _ h; exact h.elim
 | shape r k ih =>
   rintro Q σ hd ⟨v,hc,h⟩
   obtain ⟨n,h1,h2⟩ := ih v (hd v) h
   exact ⟨n,h1,fun Q' hq => ⟨v,hc,h2 Q' hq⟩⟩
 | freeze a n k ih => intro Q σ _ h; exact h.elim
 | frozen r k ih =>
   rintro Q σ hd ⟨v,hc,h⟩
   obtain ⟨n,h1,h2⟩ := ih v (hd v) h
   exact ⟨n,h1,fun Q' hq => ⟨v,hc,h2 Q' hq⟩⟩
 | getObj r k ih =>
   rintro Q σ hd ⟨v,hc,h⟩
   obtain ⟨n,h1,h2⟩ := ih v (hd v) h
   exact ⟨n,h1,fun Q' hq => ⟨v,hc,h2 Q' hq⟩⟩
 | sys c k ih => intro Q σ _ h; exact h.elim
 | _ => intro Q σ hd; exact hd.elim
theorem Det.irunF {α : Type} {P : Program} {R W : Addr → Prop} : ∀ {s : Sem α} {Q : α → PH → Prop} {σ : PH},Det P s → Sl.irunF P R W s Q σ →
   ∃ n,Q n σ ∧ ∀ (υ : PH) (Q' : α → PH → Prop),(∀ a v,R a → σ.cell? a = some v → υ.cell? a = some v) → Q' n υ → Sl.irunF P R W s Q' υ := by
 intro s
 induction s with
 | pure a => intro Q σ _ h; exact ⟨a,h,fun _ Q' _ h => h⟩
 | load m a k ih =>
   rintro Q σ hd ⟨h0,v,hc,h⟩
   obtain ⟨n,h1,h2⟩ := ih v (hd v) h
   exact ⟨n,h1,fun υ Q' hr hq => ⟨h0,v,hr _ _ h0 hc,h2 υ Q' hr hq⟩⟩
 | program k ih => intro Q σ hd h; exact ih P hd h
 | mark m k ih => intro Q σ hd h; exact ih hd h
 | halt x => intro Q σ _ h; exact h.elim
 | shape r k ih => intro Q σ _ h; exact h.elim
 | freeze a n k ih => intro Q σ _ h; exact h.elim
 | frozen r k ih => intro Q σ _ h; exact h.elim
 | getObj r k ih => intro Q σ _ h; exact h.elim
 | sys c k ih => intro Q σ _ h; exact h.elim
 | _ => intro Q σ hd; exact hd.elim
theorem Det.ofLooks {α : Type} {P : Program} : ∀ {s : Sem α},Looks P s → Det P s := by
 intro s
 induction s with
 | pure a => intro _; trivial
 | load m a k ih => intro h v; exact ih v (h v)
 | program k ih => intro h; exact ih P h
 | halt x => intro _; trivial
 | _ => intro h; exact h.elim
theorem det_typeInfo {P : Program} (t : TypeId) : Det P (typeInfo t) := .ofLooks (looks_typeInfo t)
theorem det_underlying {P : Program} (t : TypeId) : Det P (underlying t) := by
 show Det P (match P.underlying t with | some d => pure d | none => stuck "no such type" : Sem TypeDesc)
 split <;> trivial
theorem det_sure {P : Program} (p : Option Addr) : Det P (Instr.sureAddr (.pointer p)) := by
 cases p <;> trivial
theorem det_shape {P : Program} (b : Nat) : Det P (shape b) := fun _ => trivial
theorem det_getObj {P : Program} (b : Nat) : Det P (getObj b) := fun _ => trivial
theorem det_viewAt {P : Program} (b : Nat) : Det P (viewAt b) := by
 unfold viewAt
 refine Det.bind (det_shape b) fun s => ?_
 split
 · trivial
 · refine Det.bind (det_getObj b) fun o => ?_
   split <;> trivial
theorem det_noView {P : Program} (a : Addr) : Det P (noView a) := by
 unfold noView
 refine Det.bind (det_viewAt _) fun s => ?_
 split <;> trivial
theorem det_byteOf {P : Program} (a : Addr) : Det P (byteOf a) := by
 unfold byteOf
 split
 · trivial
 · refine Det.bind (show Det P program from trivial) fun p => Det.bind (det_noView a) fun _ => Det.bind (det_shape _) fun s => ?_
   split
   · dsimp only
     split
     · trivial
     · split <;> trivial
   · trivial
theorem det_partAt {P : Program} (a : Addr) (c b : Nat) : Det P (partAt a c b) := Det.bind (det_byteOf a) fun _ => Det.bind (det_byteOf _) fun _ => by trivial
theorem det_at {P : Program} {o : Oper} {ρ : Operand → Value} (h : detAt o.op ρ = true) : Det P (execOp ρ o) := by
 obtain ⟨dst,op,type,pos,after,guard⟩ := o
 cases op <;> (try (cases h; done))
 case move x => trivial
 case assign x => trivial
 case nilCheck x =>
   simp only [detAt] at h
   split at h
   · rename_i p hp
     simp only [execOp,hp]
     cases p <;> trivial
   · cases h
 case binOp bop t x y e =>
   simp only [detAt] at h
   split at h
   · rename_i k a k' b h1 h2
     simp only [execOp,h1,h2]
     refine Det.bind (Det.bind (by trivial) fun _ => ?_) fun _ => by trivial
     show Det P (if k ≠ k' then stuck _ else _ : Sem Value)
     split <;> trivial
   · rename_i k a k' b h1 h2
     simp only [execOp,h1,h2]
     refine Det.bind (Det.bind (by trivial) fun _ => ?_) fun _ => by trivial
     show Det P (if k ≠ k' then stuck _ else _ : Sem Value)
     split <;> trivial
   · cases h
 case load t a =>
   simp only [detAt] at h
   split at h
   · rename_i p hp
     simp only [execOp,hp]
     exact Det.bind (Det.bind (det_sure p) fun _ => .ofLooks (looks_loadVar t _)) fun _ => by trivial
   · cases h
 case fieldAddr t x f =>
   simp only [detAt] at h
   split at h
   · rename_i p hp
     simp only [execOp,hp]
     refine Det.bind (Det.bind (det_underlying t) fun d => ?_) fun _ => by trivial
     split
     · split
       · refine Det.bind (det_sure p) fun a => Det.bind ?_ fun _ => by trivial
         refine Det.bind (Det.bind (det_typeInfo _) fun _ => by trivial) fun n => ?_
         split
         · exact det_partAt _ _ _
         · trivial
       · trivial
     · trivial
   · cases h
def SK.det (P : Program) : SK → Prop
 | .skip => True
 | .pure s => Det P s
 | .heap _ s => Det P s
 | _ => False
theorem stepF_det {P : Program} {call : CallR} {k : SK} (hk : k.det P) {K : Value → PH → Prop} {σ : PH} (h : stepF P call k K σ) :
   ∃ v,K v σ ∧ ∀ (υ : PH) (K' : Value → PH → Prop),(∀ lg,k.log = some lg → ∀ a v,lg.R a → σ.cell? a = some v → υ.cell? a = some v) → K' v υ → stepF P call k K' υ := by
 cases k with
 | skip => exact ⟨_,h,fun _ _ _ h => h⟩
 | pure s =>
   obtain ⟨n,⟨v,hv,hk'⟩,hb⟩ := Det.irun hk h
   exact ⟨v,hk',fun υ K' _ hq => hb _ ⟨v,hv,hq⟩⟩
 | heap lg s =>
   obtain ⟨n,⟨v,hv,hk'⟩,hb⟩ := Det.irunF hk h
   exact ⟨v,hk',fun υ K' hr hq => hb υ _ (hr lg rfl) ⟨v,hv,hq⟩⟩
 | call g args x => exact hk.elim
 | gen s => exact hk.elim
def Ecall (P : Program) (call : CallR) (ops : Array Oper) (bef : List Nat) (c : Nat) (oc : Oper) (post : List (Nat × Oper × Told)) (Q : Act → PH → Prop) (done : List (Nat × Log)) (a : Act) (σ : PH) : Prop :=
 ∃ g args,callTo P oc.op a.eval = some (g,args) ∧ call g args (fun v τ => ∃ υ : PH,υ.sub τ ∧ (∀ p ∈ stabs (bef.getD c 0) σ υ done,p) ∧
   TR P call ops bef (fun _ _ => True) post done (fun _ => Q) (a.put oc.dst v) υ) σ
theorem stabs_at {bc : Nat} {σ υ : PH} : ∀ {done : List (Nat × Log)},(∀ p ∈ stabs bc σ υ done,p) ↔ ∀ z ∈ done,bc.testBit z.1 = false → ∀ r ∈ z.2.reads,r.stab σ υ
 | [] => by simp [stabs]
 | (i,y) :: l => by
   have ih := stabs_at (bc := bc) (σ := σ) (υ := υ) (done := l)
   unfold stabs
   constructor
   · intro h z hz hb r hr
     cases hz with
     | head =>
       simp only at hb hr
       rw [hb] at h
       exact h _ (List.mem_append_left _ (List.mem_map.2 ⟨r,hr,rfl⟩))
     | tail _ hm =>
       refine ih.1 (fun p hp => h p ?_) z hm hb r hr
       split
       · exact hp
       · exact List.mem_append_right _ hp
   · intro h p hp
     split at hp
     · exact ih.2 (fun z hz => h z (List.mem_cons_of_mem _ hz)) p hp
     · rename_i hb
       rcases List.mem_append.1 hp with hp | hp
       · obtain ⟨r,hr,rfl⟩ := List.mem_map.1 hp
         exact h _ List.mem_cons_self hb r hr
       · exact ih.2 (fun z hz => h z (List.mem_cons_of_mem _ hz)) p hp
theorem stab_cell {σ υ : PH} {lg : Log} (h : ∀ r ∈ lg.reads,r.stab σ υ) {a : Addr} {v : Value} (ha : lg.R a) (hc : σ.cell? a = some v) : υ.cell? a = some v := by
 obtain ⟨r,hr,hh⟩ := ha
 have hs := h r hr
 cases r with
 | cell b o =>
   obtain ⟨rfl,rfl⟩ := hh
   obtain ⟨ab,ao,sp⟩ := a
   cases sp with
   | none => exact hs.trans hc
   | some s =>
     unfold PH.cell? at hc
     simp only [Option.isSome_some,if_true] at hc
     split at hc <;> cases hc
 | blk p => exact hs.elim
 | many bs => exact hs.elim
theorem Ecall_mono {P : Program} {call : CallR} (hm : CMono call call) {ops : Array Oper} {bef : List Nat} {c : Nat} {oc : Oper} {post : List (Nat × Oper × Told)} {Q : Act → PH → Prop} :
   DMono (Ecall P call ops bef c oc post Q) := by
 rintro done done' a σ hs ⟨g,args,h1,h2⟩
 refine ⟨g,args,h1,hm _ _ _ _ _ ?_ h2⟩
 rintro v τ ⟨υ,h3,h4,h5⟩
 exact ⟨υ,h3,stabs_at.2 fun z hz => stabs_at.1 h4 z (hs z hz),TR_done (fun _ _ _ _ _ h => h) hs h5⟩
def XE (P : Program) (bef : List Nat) (c j : Nat) (k : SK) : Prop := (bef.getD c 0).testBit j = true ∨ k.det P
theorem TRE_call {P : Program} {call : CallR} (hm : CMono call call) {ops : Array Oper} {bef : List Nat} {c : Nat} {oc : Oper} (hso : ∀ cs b,oc.op ≠ .select cs b) {post : List (Nat × Oper × Told)} {Q : Act → PH → Prop} :
   ∀ {pre : List (Nat × Oper × Told)} {done : List (Nat × Log)} {a : Act} {σ : PH},(∀ z ∈ pre,(bef.getD c 0).testBit z.1 = false ∧ ApartP ops z.2.1 oc ∧ (∀ cs b,z.2.1.op ≠ .select cs b)) →
   TR P call ops bef (XE P bef c) pre done (Ecall P call ops bef c oc post Q) a σ →
   ∃ g args,callTo P oc.op a.eval = some (g,args) ∧ call g args (fun v τ => ∃ υ : PH,υ.sub τ ∧ (∀ p ∈ stabs (bef.getD c 0) σ υ done,p) ∧
     TR P call ops bef (fun _ _ => True) (pre ++ post) done (fun _ => Q) (a.put oc.dst v) υ) σ
 | [],_,_,_,_,h => h
 | (j,o,x) :: pre,done,a,σ,hp,⟨k,hk,⟨hg,hX⟩,hc,hs⟩ => by
   obtain ⟨q1,q2,q3⟩ := hp _ List.mem_cons_self
   simp only at q1 q2 q3
   have hdet : k.det P := hX.resolve_left (by rw [q1]; simp)
   obtain ⟨v,hv,hback⟩ := stepF_det hdet hs
   obtain ⟨g,args,hct,hcall⟩ := TRE_call hm hso (fun z hz => hp z (List.mem_cons_of_mem _ hz)) hv
   refine ⟨g,args,?_,hm _ _ _ _ _ ?_ hcall⟩
   · rw [← hct]
     exact (callTo_congr (eval_put_operand q2.1)).symm
   · rintro u τ ⟨υ,h3,h4,h5⟩
     have h4' := stabs_at.1 h4
     have hsub : ∀ z,z ∈ done → z ∈ addLog j done k.log := by
       intro z hz
       cases k.log with
       | none => exact hz
       | some l => exact List.mem_cons_of_mem _ hz
     refine ⟨υ,h3,stabs_at.2 fun z hz => h4' z (hsub z hz),k,?_,⟨hg,trivial⟩,hc,hback υ _ ?_ ?_⟩
     · rw [skOf_put q3 q2.2.2]; exact hk
     · intro lg hlg a' v' hR hcell
       refine stab_cell (h4' (j,lg) ?_ q1) hR hcell
       rw [hlg]
       exact List.mem_cons_self
     · rw [← Act.put_comm a v u q2.2.1]
       exact h5
theorem Left.empty {ops : Array Oper} {bef : List Nat} (hok : DOk ops bef) {rem : List (Nat × Oper × Told)} {listed : Array Bool} (hl : Left ops bef rem listed) (hr : Region.ready .any ops listed = []) : rem = [] := by
 cases rem with
 | nil => rfl
 | cons z rest =>
   exfalso
   have hm : z.1 ∈ Region.ready .any ops listed := by
     rw [mem_ready]
     refine ⟨(hl.mem z.1).1 ⟨z,List.mem_cons_self,rfl⟩,z.2.1,hl.at' z List.mem_cons_self,fun e he hb => ?_⟩
     have hlt := hok.back z.1 z.2.1 (hl.at' z List.mem_cons_self) e he hb
     have hsz : e.on < listed.size := by
       have := (getD_tf ((hl.mem z.1).1 ⟨z,List.mem_cons_self,rfl⟩)).1
       omega
     refine getD_ft hsz fun hu => ?_
     obtain ⟨z',hz',he'⟩ := (hl.mem e.on).2 hu
     cases hz' with
     | head => omega
     | tail _ hm =>
       have := (List.pairwise_cons.1 hl.ord).1 z' hm
       have h2 := hok.bef' z.1 z.2.1 e (hl.at' z List.mem_cons_self) he hb
       rw [he'] at this
       rw [this.1] at h2; cases h2
   rw [hr] at hm; cases hm
theorem Left.remove {ops : Array Oper} {bef : List Nat} {pre post : List (Nat × Oper × Told)} {j : Nat} {o : Oper} {x : Told} {listed : Array Bool} (hl : Left ops bef (pre ++ (j,o,x) :: post) listed) (hun : listed.getD j true = false)
   (hbefore : ∀ i',(bef.getD j 0).testBit i' = true → listed.getD i' false = true) : Left ops bef (pre ++ post) (listed.setIfInBounds j true) := by
 have hord := hl.ord
 rw [List.pairwise_append] at hord
 have hjlt := (getD_tf hun).1
 have hne : ∀ z ∈ pre ++ post,z.1 ≠ j := by
   intro z hz' e
   rcases List.mem_append.1 hz' with hz' | hz'
   · have := hord.2.2 z hz' _ List.mem_cons_self; simp only at this; omega
   · have := (List.pairwise_cons.1 hord.2.1).1 z hz'; simp only at this; omega
 refine ⟨?_,?_,?_,by simp [hl.size],?_⟩
 · rw [List.pairwise_append]
   exact ⟨hord.1,(List.pairwise_cons.1 hord.2.1).2,fun z hz' z' hz'' => hord.2.2 z hz' z' (List.mem_cons_of_mem _ hz'')⟩
 · intro i'
   by_cases e : j = i'
   · subst e
     constructor
     · rintro ⟨z,hz',e⟩; exact absurd e (hne z hz')
     · intro hu
       have : (listed.setIfInBounds j true).getD j true = true := by simp [hjlt]
       rw [this] at hu; cases hu
   · rw [getD_set_ne true e,← hl.mem i']
     constructor
     · rintro ⟨z,hz',e'⟩
       refine ⟨z,?_,e'⟩
       rcases List.mem_append.1 hz' with h' | h'
       · exact List.mem_append_left _ h'
       · exact List.mem_append_right _ (List.mem_cons_of_mem _ h')
     · rintro ⟨z,hz',e'⟩
       refine ⟨z,?_,e'⟩
       rcases List.mem_append.1 hz' with h' | h'
       · exact List.mem_append_left _ h'
       · cases h' with
         | head => exact absurd e' e
         | tail _ hm => exact List.mem_append_right _ hm
 · intro z hz'
   refine hl.at' z ?_
   rcases List.mem_append.1 hz' with h' | h'
   · exact List.mem_append_left _ h'
   · exact List.mem_append_right _ (List.mem_cons_of_mem _ h')
 · intro q hq i' hb
   by_cases e : j = q
   · subst e; exact getD_set_true (hbefore i' hb)
   · rw [getD_set_ne false e] at hq
     exact getD_set_true (hl.closed q hq i' hb)
theorem Left.ahead {ops : Array Oper} {bef : List Nat} (hok : DOk ops bef) {pre post : List (Nat × Oper × Told)} {j : Nat} {o : Oper} {x : Told} {listed : Array Bool} (hl : Left ops bef (pre ++ (j,o,x) :: post) listed)
   (hbefore : ∀ i',(bef.getD j 0).testBit i' = true → listed.getD i' false = true) {z : Nat × Oper × Told} (hz : z ∈ pre) :
   (∀ cs b,z.2.1.op ≠ .select cs b) ∧ ApartP ops z.2.1 o ∧ (bef.getD j 0).testBit z.1 = false ∧ (bef.getD z.1 0).testBit j = false ∧ z.1 ≠ j ∧ z.1 < ops.size := by
 have hord := hl.ord
 rw [List.pairwise_append] at hord
 have hzr : z ∈ pre ++ (j,o,x) :: post := List.mem_append_left _ hz
 have hat := hl.at' z hzr
 have ho := hl.at' (j,o,x) (List.mem_append_right _ List.mem_cons_self)
 have hR := hord.2.2 z hz _ List.mem_cons_self
 simp only at hR ho
 have hzu := (hl.mem z.1).1 ⟨z,hzr,rfl⟩
 have hnb : (bef.getD j 0).testBit z.1 = false := by
   cases hb : (bef.getD j 0).testBit z.1 with
   | false => rfl
   | true => have := hbefore _ hb; rw [(getD_tf hzu).2] at this; cases this
 exact ⟨fun cs b => hok.sel z.1 z.2.1 cs b hat,hok.apart' hR.2 hat ho hnb hR.1,hnb,hR.1,hR.2,hl.size ▸ (getD_tf hzu).1⟩
theorem TRE_sound {P : Program} {call : CallR} (hc : HC P call) (hm : CMono call call) {ops : Array Oper} {bef : List Nat} (hok : DOk ops bef) {c : Nat} {oc : Oper} (hoc : ops[c]? = some oc) (hgd : oc.guard = none)
   {post : List (Nat × Oper × Told)} (hpost : ∀ z ∈ post,(bef.getD z.1 0).testBit c = true) {Q : Act → PH → Prop} {Qx : Exit → Act → World → Prop} {σ0 : PH} {w0 : World}
   (hQ : ∀ a τ w,Q a τ → PH.le τ w → Fr σ0 w0 τ w → Qx .normal a w) :
   ∀ (fuel : Nat) (pre : List (Nat × Oper × Told)) (listed : Array Bool) (done : List (Nat × Log)) (a : Act) (σ : PH) (w : World),TR P call ops bef (XE P bef c) pre done (Ecall P call ops bef c oc post Q) a σ → PH.le σ w → Fr σ0 w0 σ w →
     (pre ++ (c,oc,dum) :: post).length ≤ fuel → Left ops bef (pre ++ (c,oc,dum) :: post) listed → wpAny P .any ops Qx fuel listed a w := by
 intro fuel
 induction fuel with
 | zero => intro pre listed done a σ w _ _ _ hlen; simp at hlen
 | succ fuel ih =>
   intro pre listed done a σ w h hw hf hlen hl
   refine ⟨fun hr => ?_,fun i hi => ?_⟩
   · have := hl.empty hok hr
     simp at this
   · have hi' := hi
     rw [mem_ready] at hi
     obtain ⟨hun,o',ho',hafter⟩ := hi
     have hbefore : ∀ i',(bef.getD i 0).testBit i' = true → listed.getD i' false = true := by
       intro i' hb
       obtain ⟨e,he,hbi,hor⟩ := hok.bef i o' i' ho' hb
       rcases hor with rfl | hor
       · exact hafter e he hbi
       · exact hl.closed e.on (hafter e he hbi) i' hor
     obtain ⟨z,hz,rfl⟩ := (hl.mem i).2 hun
     rcases List.mem_append.1 hz with hzp | hzp
     ·
       obtain ⟨pre1,pre2,rfl⟩ := List.append_of_mem hzp
       obtain ⟨j,o,x⟩ := z
       simp only at hun hi' hafter hbefore ho' ⊢
       have hl' : Left ops bef (pre1 ++ (j,o,x) :: (pre2 ++ (c,oc,dum) :: post)) listed := by simpa using hl
       have ho := hl'.at' (j,o,x) (List.mem_append_right _ List.mem_cons_self)
       have h := TR_front (Ecall_mono hm) (hok.sel j o · · ho) (hl.size ▸ (getD_tf hun).1) (fun z hz => hl'.ahead hok hbefore hz) (Fin'.of_le hw) h
       obtain ⟨k,hk,_,_,h⟩ := h
       refine step_sound hc ho hk hw h ?_
       intro v τ w' hv hle hfr
       refine ih (pre1 ++ pre2) _ _ _ _ _ hv hle (hf.trans hfr) (by simp at hlen ⊢; omega) ?_
       have := hl'.remove hun hbefore
       simpa using this
     · rcases List.mem_cons.1 hzp with rfl | hzp
       ·
         simp only at hun hi' hafter hbefore ho' ⊢
         obtain ⟨g,args,hct,hcall⟩ := TRE_call hm (hok.sel c oc · · hoc) (fun z hz => ⟨(hl.ahead hok hbefore hz).2.2.1,(hl.ahead hok hbefore hz).2.1,(hl.ahead hok hbefore hz).1⟩) h
         have hl2 := hl.remove hun hbefore
         unfold wpOp
         simp only [hoc]
         rw [if_pos (by unfold Region.wanted; rw [hgd])]
         refine .inl ?_
         unfold Oper.wp
         rw [callTo_run hct w]
         refine (hc _ _ _ _ _ hcall hw).mono ?_
         rintro e w' ⟨v,τ,rfl,⟨υ,hs,_,htr⟩,hl',hfr⟩
         exact TR_sound hc hok hQ fuel _ _ _ _ _ _ htr (hs.le hl') (hf.trans (hfr.sub hs)) (by simp at hlen ⊢; omega) hl2
       · exfalso
         have := hpost z hzp
         have h1 := hbefore c this
         have h2 := (hl.mem c).1 ⟨(c,oc,dum),List.mem_append_right _ List.mem_cons_self,rfl⟩
         rw [(getD_tf h2).2] at h1; cases h1
theorem preE_at {bef : List Nat} {c : Nat} : ∀ {os : List Oper} {j : Nat},∀ z ∈ preE bef c j os,j ≤ z.1 ∧ os[z.1 - j]? = some z.2
 | [],_,_,h => by cases h
 | o :: os,j,z,h => by
   have tl : z ∈ preE bef c (j + 1) os → j ≤ z.1 ∧ (o :: os)[z.1 - j]? = some z.2 := by
     intro h
     obtain ⟨h1,h2⟩ := preE_at z h
     refine ⟨by omega,?_⟩
     rw [show z.1 - j = (z.1 - (j + 1)) + 1 from by omega,List.getElem?_cons_succ]; exact h2
   unfold preE at h
   split at h
   · exact tl h
   · cases h with
     | head => exact ⟨Nat.le_refl _,by simp⟩
     | tail _ hm => exact tl hm
theorem postE_at {bef : List Nat} {c : Nat} : ∀ {os : List Oper} {j : Nat},∀ z ∈ postE bef c j os,j ≤ z.1 ∧ os[z.1 - j]? = some z.2
 | [],_,_,h => by cases h
 | o :: os,j,z,h => by
   have tl : z ∈ postE bef c (j + 1) os → j ≤ z.1 ∧ (o :: os)[z.1 - j]? = some z.2 := by
     intro h
     obtain ⟨h1,h2⟩ := postE_at z h
     refine ⟨by omega,?_⟩
     rw [show z.1 - j = (z.1 - (j + 1)) + 1 from by omega,List.getElem?_cons_succ]; exact h2
   unfold postE at h
   split at h
   · cases h with
     | head => exact ⟨Nat.le_refl _,by simp⟩
     | tail _ hm => exact tl hm
   · exact tl h
theorem callAt_at : ∀ {os : List Oper} {j : Nat} {c : Nat} {o : Oper},callAt j os = some (c,o) → j ≤ c ∧ os[c - j]? = some o
 | [],_,_,_,h => by cases h
 | x :: os,j,c,o,h => by
   unfold callAt at h
   split at h
   · cases h; exact ⟨Nat.le_refl _,by simp⟩
   · obtain ⟨h1,h2⟩ := callAt_at h
     refine ⟨by omega,?_⟩
     rw [show c - j = (c - (j + 1)) + 1 from by omega,List.getElem?_cons_succ]; exact h2
def lay (l : List (Nat × Oper)) : List (Nat × Oper × Told) := l.map fun z => (z.1,z.2,dum)
theorem wanted_plain {o : Oper} (h : o.guard = none) (f : Nat → Option Bool) : Region.wanted o f = true := by unfold Region.wanted; rw [h]
theorem detAt_congr {o : Op} {ρ ρ' : Operand → Value} (h : ∀ x ∈ o.operands,ρ x = ρ' x) : detAt o ρ = detAt o ρ' := by
 cases o <;> try rfl
 case nilCheck x => simp only [detAt]; rw [h x (by simp [Op.operands])]
 case load t x => simp only [detAt]; rw [h x (by simp [Op.operands])]
 case fieldAddr t x f => simp only [detAt]; rw [h x (by simp [Op.operands])]
 case binOp op t x y e => simp only [detAt]; rw [h x (by simp [Op.operands]),h y (by simp [Op.operands])]
theorem det_sk {P : Program} {ops : Array Oper} {o : Oper} {a : Act} (h : detAt o.op a.eval = true) {x : Told} {k : SK} (hk : skOf P ops o x a = some k) : k.det P := by
 have hd := det_at (P := P) h
 unfold skOf at hk
 split at hk
 · cases hk; trivial
 · split at hk
   · cases hk; exact hd
   · cases hk; exact hd
   · rename_i hdk
     exfalso
     obtain ⟨dst,op,type,pos,after,guard⟩ := o
     cases op <;> first | (cases h; done) | (cases hdk; done)
   · rename_i hdk
     exfalso
     obtain ⟨dst,op,type,pos,after,guard⟩ := o
     cases op <;> first | (cases h; done) | (cases hdk; done)
theorem idrawL_TR {P : Program} {call : CallR} {ops : Array Oper} {bef : List Nat} (hs : ∀ (j : Nat) (o : Oper) cs b,ops[j]? = some o → o.op ≠ .select cs b) {Q : List (Nat × Log) → Env → PH → Prop} {Q' : List (Nat × Log) → Act → PH → Prop}
   (hQ : ∀ done e a σ,ER e a → Q done e σ → Q' done a σ) : ∀ {os : List (Nat × Oper)} {done : List (Nat × Log)} {e : Env} {a : Act} {σ : PH},(∀ z ∈ os,ops[z.1]? = some z.2) → ER e a → idrawL P call ops bef os done Q e σ →
     TR P call ops bef (fun _ _ => True) (lay os) done Q' a σ
 | [],_,_,_,_,_,he,h => hQ _ _ _ _ he h
 | (j,o) :: os,done,e,a,σ,hi,he,h => by
   unfold idrawL at h
   split at h
   · rename_i hg
     have := idstep_TR (P := P) (call := call) (ops := ops) (bef := bef) (j := j) (r := lay os) (Q := Q') (X := fun _ _ => True) (fun _ _ _ => trivial) (fun cs b => hs j o cs b (hi _ List.mem_cons_self)) he (wanted_plain hg _) h
       fun lg v τ hv => idrawL_TR hs hQ (fun z hz => hi z (List.mem_cons_of_mem _ hz)) (he.put _ _) hv
     revert this
     split <;> exact id
   · exact h.elim
theorem idrawP_TR {P : Program} {call : CallR} {ops : Array Oper} {bef : List Nat} {c : Nat} (hs : ∀ (j : Nat) (o : Oper) cs b,ops[j]? = some o → o.op ≠ .select cs b) {Q : List (Nat × Log) → Env → PH → Prop} {Q' : List (Nat × Log) → Act → PH → Prop}
   (hQ : ∀ done e a σ,ER e a → Q done e σ → Q' done a σ) : ∀ {os : List (Nat × Oper)} {done : List (Nat × Log)} {e : Env} {a : Act} {σ : PH},(∀ z ∈ os,ops[z.1]? = some z.2) → ER e a → idrawP P call ops bef (bef.getD c 0) os done Q e σ →
     TR P call ops bef (XE P bef c) (lay os) done Q' a σ
 | [],_,_,_,_,_,he,h => hQ _ _ _ _ he h
 | (j,o) :: os,done,e,a,σ,hi,he,h => by
   unfold idrawP at h
   split at h
   · rename_i hg
     split at h
     · rename_i hx
       have hX : ∀ x k,skOf P ops o x a = some k → XE P bef c j k := by
         intro x k hk
         rw [Bool.or_eq_true] at hx
         rcases hx with hx | hx
         · exact .inl hx
         · refine .inr (det_sk ?_ hk)
           have hkn : eknown e o.op.operands.toList = true := by
             unfold idstep at h
             split at h
             · exact h.elim
             · assumption
           rw [detAt_congr (erho_eq he hkn)]
           exact hx
       have := idstep_TR (P := P) (call := call) (ops := ops) (bef := bef) (j := j) (r := lay os) (Q := Q') (X := XE P bef c) hX (fun cs b => hs j o cs b (hi _ List.mem_cons_self)) he (wanted_plain hg _) h
         fun lg v τ hv => idrawP_TR hs hQ (fun z hz => hi z (List.mem_cons_of_mem _ hz)) (he.put _ _) hv
       revert this
       split <;> exact id
     · exact h.elim
   · exact h.elim
theorem iecall_TR {P : Program} {call : CallR} (hm : CMono call call) {ops : Array Oper} {bef : List Nat} (hs : ∀ (j : Nat) (o : Oper) cs b,ops[j]? = some o → o.op ≠ .select cs b) {c : Nat} {oc : Oper} {post : List (Nat × Oper)} (hp : ∀ z ∈ post,ops[z.1]? = some z.2) {Q : Env → PH → Prop}
   (done : List (Nat × Log)) (e : Env) (a : Act) (σ : PH) (he : ER e a) (h : iecall P call ops bef c oc post Q done e σ) : Ecall P call ops bef c oc (lay post) (fun a τ => ∃ e,ER e a ∧ Q e τ) done a σ := by
 unfold iecall at h
 split at h
 · exact h.elim
 · rename_i hk
   split at h
   · exact h.elim
   · rename_i g args hct
     refine ⟨g,args,by rw [callTo_congr (erho_eq he hk)]; exact hct,hm _ _ _ _ _ ?_ h⟩
     rintro v τ ⟨υ,h1,h2⟩
     obtain ⟨h3,h4⟩ := withC_iff h2
     obtain ⟨u,rfl,h5⟩ := enumT_ex h4
     exact ⟨υ,h1,h3,idrawL_TR hs (fun _ e a σ he h => ⟨e,he,h⟩) hp (he.put _ _) h5⟩
theorem linOk_spec {bef : List Nat} : ∀ {l : List Nat},linOk bef l = true → l.Pairwise fun x y => (bef.getD x 0).testBit y = false ∧ x ≠ y
 | [],_ => List.Pairwise.nil
 | x :: l,h => by
   unfold linOk at h
   rw [Bool.and_eq_true,List.all_eq_true] at h
   refine List.pairwise_cons.2 ⟨fun y hy => ?_,linOk_spec h.2⟩
   have := h.1 y hy
   simpa using this
theorem draw_soundE {P : Program} (hmo : P.follows .mixedOrders = true) (call : CallR) (hc : HC P call) (hm : CMono call call) {id : Nat} {ops : Array Oper} {Q : IX → Env → PH → Prop} {e : Env} {σ : PH} {a : Act} {w : World}
   (h : idrawnE P call ops (fun e τ => Q .normal e τ) e σ) (he : ER e a) (hw : PH.le σ w) : (Code.region id ops true).wp P (W Q σ w) a w := by
 unfold idrawnE at h
 split at h
 · exact h.elim
 · rename_i c oc hcall
   split at h
   · exact h.elim
   · rename_i hgd
     split at h
     · exact h.elim
     · rename_i hok
       unfold eOk at hok
       simp only [Bool.and_eq_true] at hok
       obtain ⟨⟨⟨⟨hok,hsz⟩,hlin⟩,hcov⟩,hpost⟩ := hok
       have hok := dok_of hok
       have hoc : ops[c]? = some oc := by have := (callAt_at hcall).2; simpa using this
       have hpre : ∀ z ∈ preE (befs ops.toList []) c 0 ops.toList,ops[z.1]? = some z.2 := fun z hz => by have := (preE_at z hz).2; simpa using this
       have hpo : ∀ z ∈ postE (befs ops.toList []) c 0 ops.toList,ops[z.1]? = some z.2 := fun z hz => by have := (postE_at z hz).2; simpa using this
       have hT := idrawP_TR hok.sel (iecall_TR hm hok.sel hpo) hpre he h
       have hmap : (lay (preE (befs ops.toList []) c 0 ops.toList) ++ (c,oc,dum) :: lay (postE (befs ops.toList []) c 0 ops.toList)).map (·.1) =
           (preE (befs ops.toList []) c 0 ops.toList).map (·.1) ++ c :: (postE (befs ops.toList []) c 0 ops.toList).map (·.1) := by
         simp only [lay,List.map_append,List.map_cons,List.map_map]
         rfl
       refine wp_region_any hmo ?_
       have hw' : PH.le σ { w with drawn := w.drawn + 1 } := hw
       have hat : ∀ z ∈ lay (preE (befs ops.toList []) c 0 ops.toList) ++ (c,oc,dum) :: lay (postE (befs ops.toList []) c 0 ops.toList),ops[z.1]? = some z.2.1 := by
         intro z hz
         rcases List.mem_append.1 hz with hz | hz
         · obtain ⟨y,hy,rfl⟩ := List.mem_map.1 hz; exact hpre y hy
         · rcases List.mem_cons.1 hz with rfl | hz
           · exact hoc
           · obtain ⟨y,hy,rfl⟩ := List.mem_map.1 hz; exact hpo y hy
       have hpw : (lay (preE (befs ops.toList []) c 0 ops.toList) ++ (c,oc,dum) :: lay (postE (befs ops.toList []) c 0 ops.toList)).Pairwise fun x y => ((befs ops.toList []).getD x.1 0).testBit y.1 = false ∧ x.1 ≠ y.1 := by
         have := linOk_spec hlin
         rw [← hmap,List.pairwise_map] at this
         exact this
       have hlen : (lay (preE (befs ops.toList []) c 0 ops.toList) ++ (c,oc,dum) :: lay (postE (befs ops.toList []) c 0 ops.toList)).length ≤ ops.size := by
         have := by simpa using hsz
         simp [lay]
         omega
       refine TRE_sound hc hm hok hoc hgd (σ0 := σ) (w0 := w) (Q := fun a τ => ∃ e,ER e a ∧ Q .normal e τ) (post := lay (postE (befs ops.toList []) c 0 ops.toList)) ?_ ?_ ops.size _ _ [] a σ _ hT hw' ⟨rfl,rfl,rfl,Nat.le_refl _,fun _ _ _ => rfl,fun _ _ h => h⟩ hlen ?_
       · intro z hz
         obtain ⟨y,hy,rfl⟩ := List.mem_map.1 hz
         exact List.all_eq_true.1 hpost y hy
       · rintro a τ w' ⟨e,he,hq⟩ hl hf
         exact ⟨.normal,e,τ,rfl,hq,he,hl,hf⟩
       · refine ⟨hpw,?_,hat,by simp,?_⟩
         · intro j
           constructor
           · rintro ⟨z,hz,rfl⟩
             have : z.1 < ops.size := by
               rcases Nat.lt_or_ge z.1 ops.size with h' | h'
               · exact h'
               · have := hat z hz; rw [Array.getElem?_eq_none h'] at this; cases this
             simp [this]
           · intro hu
             have hlt := (getD_tf hu).1
             have := List.all_eq_true.1 hcov j (List.mem_range.2 (by simpa using hlt))
             rw [List.contains_iff_mem,← hmap] at this
             obtain ⟨z,hz,e⟩ := List.mem_map.1 this
             exact ⟨z,hz,e⟩
         · intro j hj
           exfalso
           rw [Array.getD_eq_getD_getElem?,Array.getElem?_replicate] at hj
           split at hj <;> cases hj
def SemCall (P : Program) : CallR := fun f args Q σ => ∀ w,PH.le σ w → Calls P f args w (CP Q σ w)
theorem SemCall.hc {P : Program} : HC P (SemCall P) := fun _ _ _ _ w h hw => h w hw
theorem SemCall.of {P : Program} {call : CallR} (hc : HC P call) : CMono call (SemCall P) := by
 intro f args Q Q' σ hq h w hw
 refine (hc _ _ _ _ _ h hw).mono ?_
 rintro e w' ⟨v,τ,rfl,h1,h2,h3⟩
 exact ⟨v,τ,rfl,hq _ _ h1,h2,h3⟩
theorem draw_sound {P : Program} (hm : P.follows .mixedOrders = true) (call : CallR) (hc : HC P call) : DrawSound P call := by
 intro id ops Q e σ a w h he hw
 rcases h with h | h
 · exact draw_sound1 hm call hc h he hw
 · exact draw_soundE hm (SemCall P) SemCall.hc (SemCall.of SemCall.hc) (idrawnE_mono (SemCall.of hc) (fun _ _ h => h) h) he hw
theorem ICall.calls {P : Program} (hm : P.follows .mixedOrders = true) {anns : FuncId → Ann} {base : CallR} (hB : HC P base) : HC P (ICall P anns base) :=
 ICall.sound hB fun call hc => draw_sound hm call hc
theorem w64 {n : Int} (h1 : -9223372036854775808 ≤ n) (h2 : n < 9223372036854775808) : IntKind.wrap .i64 n = n := by
 unfold IntKind.wrap
 simp only [show IntKind.i64.signed = true from rfl,show IntKind.i64.bits = 64 from rfl,Bool.true_and,decide_eq_true_eq]
 simp only [show (2 : Int) ^ 64 = 18446744073709551616 from rfl,show (2 : Int) ^ (64 - 1) = 9223372036854775808 from rfl]
 split <;> omega
theorem br_iff {b : Bool} {A B : Prop} : br b A B ↔ (b = true → A) ∧ (b = false → B) := by cases b <;> simp [br]
theorem br_dec {p : Prop} [Decidable p] {A B : Prop} : br (decide p) A B ↔ (p → A) ∧ (¬ p → B) := by
 rw [br_iff]; simp
theorem br_true {b : Bool} {A B : Prop} (hb : b = true) (h : A) : br b A B := by subst hb; exact h
theorem br_false {b : Bool} {A B : Prop} (hb : b = false) (h : B) : br b A B := by subst hb; exact h
theorem PH.sub_set {σ : PH} {b : Nat} {o : Obj} (h : σ b = none) : σ.sub (σ.set b o) := by
 intro c o' hc
 unfold PH.set
 rw [if_neg (by rintro rfl; rw [h] at hc; cases hc)]
 exact hc
theorem PH.sub.cell {σ τ : PH} (h : σ.sub τ) {a : Addr} {v : Value} (hc : σ.cell? a = some v) : τ.cell? a = some v := by
 unfold PH.cell? at hc ⊢
 split at hc
 · rename_i c e f hb; rw [h _ _ hb]; exact hc
 · cases hc
def Row (σ : PH) (a : Option Addr) (vs : List Value) : Prop := vs = [] ∨ ∃ p,a = some p ∧ ∀ i v,vs[i]? = some v → σ.cell? (p.add i) = some v
theorem Row.sub {σ τ : PH} (h : σ.sub τ) {a : Option Addr} {vs : List Value} (hr : Row σ a vs) : Row τ a vs := by
 rcases hr with h' | ⟨p,h1,h2⟩
 · exact .inl h'
 · exact .inr ⟨p,h1,fun i v hv => h.cell (h2 i v hv)⟩
theorem Row.at {σ : PH} {a : Option Addr} {vs : List Value} (h : Row σ a vs) {i : Nat} {v : Value} (hv : vs[i]? = some v) : ∃ p,a = some p ∧ σ.cell? (p.add i) = some v := by
 rcases h with rfl | ⟨p,h1,h2⟩
 · simp at hv
 · exact ⟨p,h1,h2 i v hv⟩
def Ints (σ : PH) (a : Option Addr) (n : Nat) (l : List Int) : Prop := l.length = n ∧ Row σ a (l.map (.int .i64))
theorem Ints.at {σ : PH} {a : Option Addr} {n : Nat} {l : List Int} (h : Ints σ a n l) {i : Int} (h0 : 0 ≤ i) (h1 : i < n) : ∃ p,a = some p ∧ σ.cell? (p.add (i.toNat * 1)) = some (.int .i64 (l.getD i.toNat 0)) := by
 have hlt : i.toNat < l.length := by rw [h.1]; omega
 rw [Nat.mul_one]
 refine h.2.at ?_
 simp [hlt]
theorem Ints.sub {σ τ : PH} (h : σ.sub τ) {a : Option Addr} {n : Nat} {l : List Int} (hr : Ints σ a n l) : Ints τ a n l := ⟨hr.1,hr.2.sub h⟩
theorem iloopS_for {L G : Type} {S : (L → PH → Prop) → L → PH → Prop} (st : Nat → G → L) (I : Nat → G → PH → Prop) (n : Nat)
   (h : ∀ k g σ,k ≤ n → I k g σ → ∀ R : L → PH → Prop,(∀ g' σ',k < n → I (k + 1) g' σ' → R (st (k + 1) g') σ') → S R (st k g) σ) {g : G} {σ : PH} (h0 : I 0 g σ) : iloopS S (st 0 g) σ := by
 intro R hR
 have : ∀ d k g σ,n - k = d → k ≤ n → I k g σ → R (st k g) σ := by
   intro d
   induction d with
   | zero => intro k g σ hd hk hI; exact hR _ _ (h k g σ hk hI R fun g' σ' hlt _ => by omega)
   | succ d ih => intro k g σ hd hk hI; exact hR _ _ (h k g σ hk hI R fun g' σ' hlt hI' => ih (k + 1) g' σ' (by omega) (by omega) hI')
 exact this _ 0 g σ rfl (Nat.zero_le _) h0
theorem wnat {k : Nat} (h : (k : Int) + 1 < 9223372036854775808) : IntKind.wrap .i64 ((k : Int) + 1) = ((k + 1 : Nat) : Int) := by
 rw [w64 (by omega) (by omega)]; omega
end Go.Sl
namespace Go.Sv
def idx (i : Int) : Int := if i < 0 then 2 * (-i - 1) + 1 else 2 * (i - 1)
def valS (l : List Int) (i : Int) : Int := if 0 < i ∧ i ≤ l.length then l.getD (i - 1).toNat 0 else if i < 0 ∧ -i ≤ l.length then -(l.getD (-i - 1).toNat 0) else 0
def sgn (i : Int) : Int := if i < 0 then -1 else 1
def vr (x : Int) : Nat := x.natAbs - 1
theorem idx_half {x : Int} (h : x ≠ 0) : idx x / 2 = (vr x : Int) := by
 unfold idx vr; split <;> omega
theorem idx_toNat {x : Int} (h : x ≠ 0) : (idx x / 2).toNat = vr x := by
 rw [idx_half h]; omega
def LitN (n : Nat) (x : Int) : Prop := x ≠ 0 ∧ x.natAbs ≤ n
theorem LitN.neg {n : Nat} {x : Int} (h : LitN n x) : LitN n (-x) := ⟨by have := h.1; omega,by rw [Int.natAbs_neg]; exact h.2⟩
theorem LitN.vr_lt {n : Nat} {x : Int} (h : LitN n x) : vr x < n := by unfold vr; obtain ⟨h1,h2⟩ := h; omega
theorem vr_neg {x : Int} : vr (-x) = vr x := by unfold vr; rw [Int.natAbs_neg]
theorem vr_eq {x y : Int} (hx : x ≠ 0) (hy : y ≠ 0) (h : vr x = vr y) : y = x ∨ y = -x := by unfold vr at h; omega
def sg (trail : List Int) (i : Nat) : Int := if ((i : Int) + 1) ∈ trail then 1 else if -((i : Int) + 1) ∈ trail then -1 else 0
structure Tr (n : Nat) (value : List Int) (level : List Nat) (trail : List Int) (limits : List Nat) : Prop where
 vlen : value.length = n
 llen : level.length = n
 lit : ∀ x ∈ trail,LitN n x
 dis : ∀ pre x post,trail = pre ++ x :: post → x ∉ pre ∧ -x ∉ pre
 val : ∀ i,i < n → value[i]? = some (sg trail i)
 lev : ∀ pre x post,trail = pre ++ x :: post → level[vr x]? = some ((limits.filter (· ≤ pre.length)).length)
 srt : limits.Pairwise (· < ·)
 lim : ∀ p ∈ limits,p < trail.length
theorem mem_pre {l : List Int} {x : Int} (h : x ∈ l) : ∃ pre post,l = pre ++ x :: post := List.append_of_mem h
theorem Tr.anti {n : Nat} {value : List Int} {level : List Nat} {trail : List Int} {limits : List Nat} (h : Tr n value level trail limits) {x : Int} (h1 : x ∈ trail) (h2 : -x ∈ trail) : False := by
 obtain ⟨pre,post,e⟩ := mem_pre h1
 have hx := (h.lit x h1).1
 subst e
 rcases List.mem_append.1 h2 with h3 | h3
 · exact (h.dis pre x post rfl).2 h3
 · rcases List.mem_cons.1 h3 with h4 | h4
   · omega
   · obtain ⟨p2,q2,e2⟩ := mem_pre h4
     have := (h.dis (pre ++ x :: p2) (-x) q2 (by rw [e2]; simp)).2
     rw [Int.neg_neg] at this
     exact this (by simp)
theorem valS_eq {n : Nat} {value : List Int} (hl : value.length = n) {x : Int} (hx : LitN n x) : valS value x = if 0 < x then value.getD (vr x) 0 else -(value.getD (vr x) 0) := by
 obtain ⟨h1,h2⟩ := hx
 unfold valS
 by_cases h : 0 < x
 · rw [if_pos (by omega),if_pos h]
   congr 1
   unfold vr; omega
 · rw [if_neg (by omega),if_pos (by omega),if_neg h]
   congr 2
   unfold vr; omega
theorem sg_lit {n : Nat} {value : List Int} {level : List Nat} {trail : List Int} {limits : List Nat} (h : Tr n value level trail limits) {x : Int} (hx : LitN n x) :
   valS value x = if x ∈ trail then 1 else if -x ∈ trail then -1 else 0 := by
 rw [valS_eq h.vlen hx]
 have hv := h.val (vr x) hx.vr_lt
 have hg : value.getD (vr x) 0 = sg trail (vr x) := by rw [List.getD_eq_getElem?_getD,hv]; rfl
 rw [hg]
 unfold sg
 have h1 := hx.1
 by_cases h0 : 0 < x
 · rw [if_pos h0]
   have : ((vr x : Nat) : Int) + 1 = x := by unfold vr; omega
   rw [this]
 · rw [if_neg h0]
   have : ((vr x : Nat) : Int) + 1 = -x := by unfold vr; omega
   rw [this,Int.neg_neg]
   by_cases h2 : x ∈ trail
   · have h3 : -x ∉ trail := fun h3 => h.anti h2 h3
     simp [h2,h3]
   · by_cases h3 : -x ∈ trail <;> simp [h2,h3]
theorem Tr.pos {n : Nat} {value : List Int} {level : List Nat} {trail : List Int} {limits : List Nat} (h : Tr n value level trail limits) {x : Int} (hx : LitN n x) : 0 < valS value x ↔ x ∈ trail := by
 rw [sg_lit h hx]
 by_cases h2 : x ∈ trail
 · simp [h2]
 · by_cases h3 : -x ∈ trail <;> simp [h2,h3]
theorem Tr.neg {n : Nat} {value : List Int} {level : List Nat} {trail : List Int} {limits : List Nat} (h : Tr n value level trail limits) {x : Int} (hx : LitN n x) : valS value x < 0 ↔ -x ∈ trail := by
 rw [sg_lit h hx]
 by_cases h2 : x ∈ trail
 · have h3 : -x ∉ trail := fun h3 => h.anti h2 h3
   simp [h2,h3]
 · by_cases h3 : -x ∈ trail <;> simp [h2,h3]
theorem Tr.zero {n : Nat} {value : List Int} {level : List Nat} {trail : List Int} {limits : List Nat} (h : Tr n value level trail limits) {x : Int} (hx : LitN n x) : valS value x = 0 ↔ x ∉ trail ∧ -x ∉ trail := by
 rw [sg_lit h hx]
 by_cases h2 : x ∈ trail
 · simp [h2]
 · by_cases h3 : -x ∈ trail <;> simp [h2,h3]
theorem snoc_split {l pre post : List Int} {x y : Int} (h : l ++ [y] = pre ++ x :: post) : (post = [] ∧ l = pre ∧ y = x) ∨ ∃ p',post = p' ++ [y] ∧ l = pre ++ x :: p' := by
 rcases List.eq_nil_or_concat post with rfl | ⟨p',z,rfl⟩
 · left
   have := List.append_inj' h rfl
   exact ⟨rfl,this.1,by simpa using this.2⟩
 · right
   rw [List.concat_eq_append,← List.cons_append,← List.append_assoc] at h
   have := List.append_inj' h rfl
   refine ⟨p',?_,this.1⟩
   have e : y = z := by simpa using this.2
   rw [e,List.concat_eq_append]
theorem sg_snoc {trail : List Int} {x : Int} (hx : x ≠ 0) (h1 : x ∉ trail) (h2 : -x ∉ trail) (i : Nat) : sg (trail ++ [x]) i = if i = vr x then sgn x else sg trail i := by
 unfold sg sgn
 by_cases hi : i = vr x
 · subst hi
   rw [if_pos rfl]
   unfold vr
   by_cases h0 : x < 0
   · rw [if_pos h0,if_neg,if_pos]
     · exact List.mem_append_right _ (by rw [List.mem_singleton]; omega)
     · intro h
       rcases List.mem_append.1 h with h | h
       · exact h2 (by rw [show -x = ((x.natAbs - 1 : Nat) : Int) + 1 from by omega]; exact h)
       · rw [List.mem_singleton] at h; omega
   · rw [if_neg h0,if_pos]
     exact List.mem_append_right _ (by rw [List.mem_singleton]; omega)
 · rw [if_neg hi]
   have e1 : ((i : Int) + 1 ∈ trail ++ [x]) ↔ (i : Int) + 1 ∈ trail := by
     rw [List.mem_append,List.mem_singleton]
     refine ⟨fun h => h.resolve_right ?_,.inl⟩
     intro e; apply hi; unfold vr; omega
   have e2 : (-((i : Int) + 1) ∈ trail ++ [x]) ↔ -((i : Int) + 1) ∈ trail := by
     rw [List.mem_append,List.mem_singleton]
     refine ⟨fun h => h.resolve_right ?_,.inl⟩
     intro e; apply hi; unfold vr; omega
   simp only [e1,e2]
theorem filter_all {l : List Nat} {m : Nat} (h : ∀ p ∈ l,p ≤ m) : (l.filter (· ≤ m)).length = l.length := by
 rw [List.filter_eq_self.2]; simpa using h
theorem Tr.assign {n : Nat} {value : List Int} {level : List Nat} {trail : List Int} {limits : List Nat} (h : Tr n value level trail limits) {x : Int} (hx : LitN n x) (h1 : x ∉ trail) (h2 : -x ∉ trail) :
   Tr n (value.set (vr x) (sgn x)) (level.set (vr x) limits.length) (trail ++ [x]) limits where
 vlen := by rw [List.length_set]; exact h.vlen
 llen := by rw [List.length_set]; exact h.llen
 lit y hy := by
   rcases List.mem_append.1 hy with hy | hy
   · exact h.lit y hy
   · rw [List.mem_singleton] at hy; subst hy; exact hx
 dis pre y post e := by
   rcases snoc_split e with ⟨_,rfl,rfl⟩ | ⟨p',_,e'⟩
   · exact ⟨h1,h2⟩
   · exact h.dis pre y p' e'
 val i hi := by
   rw [sg_snoc hx.1 h1 h2,List.getElem?_set]
   by_cases e : i = vr x
   · subst e; simp [h.vlen,hi]
   · rw [if_neg (Ne.symm e),if_neg e]; exact h.val i hi
 lev pre y post e := by
   rcases snoc_split e with ⟨_,rfl,rfl⟩ | ⟨p',_,e'⟩
   · rw [List.getElem?_set_self (by rw [h.llen]; exact hx.vr_lt),filter_all fun p hp => Nat.le_of_lt (h.lim p hp)]
   · have hy : y ∈ trail := by rw [e']; simp
     rw [List.getElem?_set_ne]
     · exact h.lev pre y p' e'
     · intro e1
       rcases vr_eq hx.1 (h.lit y hy).1 e1 with rfl | rfl
       · exact h1 hy
       · exact h2 hy
 srt := h.srt
 lim p hp := by rw [List.length_append]; have := h.lim p hp; omega
theorem Tr.decide {n : Nat} {value : List Int} {level : List Nat} {trail : List Int} {limits : List Nat} (h : Tr n value level trail limits) {x : Int} (hx : LitN n x) (h1 : x ∉ trail) (h2 : -x ∉ trail) :
   Tr n (value.set (vr x) (sgn x)) (level.set (vr x) (limits.length + 1)) (trail ++ [x]) (limits ++ [trail.length]) where
 vlen := by rw [List.length_set]; exact h.vlen
 llen := by rw [List.length_set]; exact h.llen
 lit := (h.assign hx h1 h2).lit
 dis := (h.assign hx h1 h2).dis
 val := (h.assign hx h1 h2).val
 lev pre y post e := by
   rcases snoc_split e with ⟨_,rfl,rfl⟩ | ⟨p',_,e'⟩
   · rw [List.getElem?_set_self (by rw [h.llen]; exact hx.vr_lt),filter_all]
     · simp
     · intro p hp
       rcases List.mem_append.1 hp with hp | hp
       · exact Nat.le_of_lt (h.lim p hp)
       · rw [List.mem_singleton] at hp; omega
   · have hy : y ∈ trail := by rw [e']; simp
     rw [List.getElem?_set_ne,h.lev pre y p' e',List.filter_append]
     · have : pre.length < trail.length := by rw [e']; simp
       simp [show ¬ trail.length ≤ pre.length from by omega]
     · intro e1
       rcases vr_eq hx.1 (h.lit y hy).1 e1 with rfl | rfl
       · exact h1 hy
       · exact h2 hy
 srt := by
   rw [List.pairwise_append]
   refine ⟨h.srt,List.pairwise_singleton _ _,fun a ha b hb => ?_⟩
   rw [List.mem_singleton] at hb; subst hb
   exact h.lim a ha
 lim p hp := by
   rw [List.length_append]
   rcases List.mem_append.1 hp with hp | hp
   · have := h.lim p hp; omega
   · rw [List.mem_singleton] at hp; simp; omega
theorem count_take {limits : List Nat} (hs : limits.Pairwise (· < ·)) {j p : Nat} (hj : j < limits.length) : (limits.filter (· ≤ p)).length ≤ j ↔ p < limits[j] := by
 induction limits generalizing j with
 | nil => simp at hj
 | cons a l ih =>
   rw [List.pairwise_cons] at hs
   rw [List.filter_cons]
   by_cases ha : a ≤ p
   · simp only [ha,decide_true,if_true,List.length_cons]
     cases j with
     | zero => simp; omega
     | succ j =>
       have := ih hs.2 (j := j) (by simpa using hj)
       simp only [List.getElem_cons_succ]
       rw [← this]; omega
   · simp only [ha,decide_false,Bool.false_eq_true,if_false]
     have : l.filter (· ≤ p) = [] := by
       rw [List.filter_eq_nil_iff]
       intro b hb
       have := hs.1 b hb
       simp; omega
     rw [this]
     simp only [List.length_nil,Nat.zero_le,true_iff]
     cases j with
     | zero => simp; omega
     | succ j =>
       have := hs.1 _ (List.getElem_mem (l := l) (n := j) (by simpa using hj))
       simp; omega
def lv (level : List Nat) (x : Int) : Nat := level.getD (vr x) 0
theorem lv_neg {level : List Nat} {x : Int} : lv level (-x) = lv level x := by unfold lv; rw [vr_neg]
theorem Tr.lv_at {n : Nat} {value : List Int} {level : List Nat} {trail : List Int} {limits : List Nat} (h : Tr n value level trail limits) {pre post : List Int} {x : Int} (e : trail = pre ++ x :: post) :
   lv level x = (limits.filter (· ≤ pre.length)).length := by
 unfold lv; rw [List.getD_eq_getElem?_getD,h.lev pre x post e]; rfl
theorem Tr.lv_le {n : Nat} {value : List Int} {level : List Nat} {trail : List Int} {limits : List Nat} (h : Tr n value level trail limits) {x : Int} (hx : x ∈ trail) : lv level x ≤ limits.length := by
 obtain ⟨pre,post,e⟩ := mem_pre hx
 rw [h.lv_at e]
 exact List.length_filter_le ..
theorem Tr.lv_take {n : Nat} {value : List Int} {level : List Nat} {trail : List Int} {limits : List Nat} (h : Tr n value level trail limits) {j : Nat} (hj : j < limits.length) {x : Int} (hx : x ∈ trail) : lv level x ≤ j ↔ x ∈ trail.take limits[j] := by
 obtain ⟨pre,post,e⟩ := mem_pre hx
 rw [h.lv_at e,count_take h.srt hj]
 constructor
 · intro hp
   rw [e,List.take_append]
   refine List.mem_append_right _ ?_
   rw [show limits[j] - pre.length = (limits[j] - pre.length - 1) + 1 from by omega,List.take_succ_cons]
   exact List.mem_cons_self
 · intro hm
   rcases Nat.lt_or_ge pre.length limits[j] with hp | hp
   · exact hp
   · rw [e,List.take_append_of_le_length hp] at hm
     exact absurd (List.mem_of_mem_take hm) (h.dis pre x post e).1
def clrI (ls : List Int) (V : List Int) : List Int := ls.foldl (fun V x => V.set (vr x) 0) V
theorem clrI_len : ∀ (ls V : List Int),(clrI ls V).length = V.length
 | [],_ => rfl
 | x :: ls,V => by unfold clrI; rw [List.foldl_cons]; exact (clrI_len ls _).trans (List.length_set ..)
theorem clrI_get : ∀ (ls V : List Int) (i : Nat),i < V.length → (clrI ls V)[i]? = if i ∈ ls.map vr then some 0 else V[i]?
 | [],_,_,_ => by simp [clrI]
 | x :: ls,V,i,h => by
   have := clrI_get ls (V.set (vr x) 0) i (by simpa using h)
   unfold clrI at this ⊢
   rw [List.foldl_cons,this]
   by_cases h1 : i ∈ ls.map vr
   · rw [if_pos h1,if_pos (by simp only [List.map_cons]; exact List.mem_cons_of_mem _ h1)]
   · rw [if_neg h1,List.getElem?_set]
     by_cases h2 : vr x = i
     · subst h2; simp [h]
     · rw [if_neg h2,if_neg]
       rw [List.map_cons,List.mem_cons]
       rintro (h3 | h3)
       · exact h2 h3.symm
       · exact h1 h3
theorem Tr.undo {n : Nat} {value : List Int} {level : List Nat} {trail : List Int} {limits : List Nat} (h : Tr n value level trail limits) {j : Nat} (hj : j < limits.length) :
   Tr n (clrI (trail.drop limits[j]) value) level (trail.take limits[j]) (limits.take j) where
 vlen := by rw [clrI_len]; exact h.vlen
 llen := h.llen
 lit x hx := h.lit x (List.mem_of_mem_take hx)
 dis pre x post e := h.dis pre x (post ++ trail.drop limits[j]) (by rw [← List.cons_append,← List.append_assoc,← e,List.take_append_drop])
 val i hi := by
   rw [clrI_get _ _ _ (by rw [h.vlen]; exact hi),h.val i hi]
   have split : ∀ x : Int,x ∈ trail.drop limits[j] → x ∈ trail.take limits[j] → False := by
     intro x h1 h2
     obtain ⟨p,q,e⟩ := mem_pre h1
     refine (h.dis (trail.take limits[j] ++ p) x q ?_).1 (List.mem_append_left _ h2)
     rw [List.append_assoc,← e,List.take_append_drop]
   have splitn : ∀ x : Int,x ∈ trail.drop limits[j] → -x ∈ trail.take limits[j] → False := fun x h1 h2 => h.anti (List.mem_of_mem_drop h1) (List.mem_of_mem_take h2)
   have mem : ∀ x : Int,x ∈ trail ↔ x ∈ trail.take limits[j] ∨ x ∈ trail.drop limits[j] := by
     intro x
     conv => lhs; rw [← List.take_append_drop limits[j] trail]
     exact List.mem_append
   have key : i ∈ (trail.drop limits[j]).map vr ↔ (((i : Int) + 1) ∈ trail.drop limits[j] ∨ -((i : Int) + 1) ∈ trail.drop limits[j]) := by
     rw [List.mem_map]
     constructor
     · rintro ⟨x,hx,e⟩
       have h0 := (h.lit x (List.mem_of_mem_drop hx)).1
       unfold vr at e
       rcases Int.lt_or_gt_of_ne h0 with h0 | h0
       · right; rw [show -((i : Int) + 1) = x from by omega]; exact hx
       · left; rw [show ((i : Int) + 1) = x from by omega]; exact hx
     · rintro (h1 | h1)
       · exact ⟨_,h1,by unfold vr; omega⟩
       · exact ⟨_,h1,by unfold vr; omega⟩
   by_cases hd : i ∈ (trail.drop limits[j]).map vr
   · rw [if_pos hd]
     rw [key] at hd
     unfold sg
     rcases hd with hd | hd
     · rw [if_neg fun h1 => split _ hd h1,if_neg fun h1 => splitn _ hd h1]
     · rw [if_neg,if_neg fun h1 => split _ hd h1]
       intro h1
       refine splitn _ hd ?_
       rw [Int.neg_neg]; exact h1
   · rw [if_neg hd]
     rw [key] at hd
     have hd1 := fun h => hd (.inl h)
     have hd2 := fun h => hd (.inr h)
     congr 1
     unfold sg
     have m1 : ((i : Int) + 1) ∈ trail ↔ ((i : Int) + 1) ∈ trail.take limits[j] := (mem _).trans (or_iff_left hd1)
     have m2 : -((i : Int) + 1) ∈ trail ↔ -((i : Int) + 1) ∈ trail.take limits[j] := (mem _).trans (or_iff_left hd2)
     simp only [m1,m2]
 lev pre x post e := by
   have e1 : trail = pre ++ x :: (post ++ trail.drop limits[j]) := by rw [← List.cons_append,← List.append_assoc,← e,List.take_append_drop]
   rw [h.lev pre x _ e1]
   have hp : pre.length < limits[j] := by
     have := congrArg List.length e
     rw [List.length_take,List.length_append,List.length_cons] at this
     omega
   congr 1
   conv => lhs; rw [← List.take_append_drop j limits]
   rw [List.filter_append]
   have : (limits.drop j).filter (· ≤ pre.length) = [] := by
     rw [List.filter_eq_nil_iff]
     intro q hq
     rw [List.drop_eq_getElem_cons hj] at hq
     have hs := h.srt
     rw [← List.take_append_drop j limits,List.pairwise_append,List.drop_eq_getElem_cons hj,List.pairwise_cons] at hs
     rcases List.mem_cons.1 hq with rfl | hq
     · simp; omega
     · have := hs.2.1.1 q hq
       simp; omega
   rw [this,List.append_nil]
 srt := h.srt.sublist (List.take_sublist ..)
 lim p hp := by
   rw [List.length_take]
   have h1 := h.lim p (List.mem_of_mem_take hp)
   have hs := h.srt
   rw [← List.take_append_drop j limits,List.pairwise_append,List.drop_eq_getElem_cons hj] at hs
   have := hs.2.2 p hp _ List.mem_cons_self
   omega
def minInt : Int := -9223372036854775808
def ins (x : Int) : List Int → Option (List Int)
 | [] => some [x]
 | y :: ys => if y.natAbs < x.natAbs then (ins x ys).map (y :: ·) else if y = x then some (y :: ys) else if y = -x then none else some (x :: y :: ys)
def normFrom (out : List Int) : List Int → Option (List Int)
 | [] => some out
 | x :: xs => if x = 0 ∨ x = minInt then none else match ins x out with | none => none | some o => normFrom o xs
def norm (c : List Int) : Option (List Int) := normFrom [] c
abbrev SortedA (l : List Int) : Prop := l.Pairwise (fun a b => a.natAbs < b.natAbs)
theorem ins_some {x : Int} (hx : x ≠ 0) : ∀ {l out : List Int},SortedA l → ins x l = some out → SortedA out ∧ (∀ z,z ∈ out ↔ z = x ∨ z ∈ l) ∧ -x ∉ l
 | [],out,_,h => by
   simp only [ins,Option.some.injEq] at h
   subst h
   simp [SortedA]
 | y :: ys,out,hs,h => by
   have hs' := List.pairwise_cons.1 hs
   unfold ins at h
   split at h
   · rename_i h1
     cases hi : ins x ys with
     | none => rw [hi] at h; cases h
     | some o =>
       rw [hi] at h
       simp only [Option.map_some,Option.some.injEq] at h
       subst h
       obtain ⟨i1,i2,i3⟩ := ins_some hx hs'.2 hi
       refine ⟨List.pairwise_cons.2 ⟨fun z hz => ?_,i1⟩,fun z => ?_,?_⟩
       · rcases (i2 z).1 hz with rfl | hz
         · exact h1
         · exact hs'.1 z hz
       · rw [List.mem_cons,i2,List.mem_cons]
         constructor
         · rintro (h | h | h)
           · exact .inr (.inl h)
           · exact .inl h
           · exact .inr (.inr h)
         · rintro (h | h | h)
           · exact .inr (.inl h)
           · exact .inl h
           · exact .inr (.inr h)
       · rw [List.mem_cons]
         rintro (h | h)
         · rw [← h,Int.natAbs_neg] at h1; omega
         · exact i3 h
   · rename_i h1
     split at h
     · rename_i h2
       cases h
       subst h2
       refine ⟨hs,fun z => ?_,?_⟩
       · rw [List.mem_cons]
         constructor
         · intro h; exact .inr h
         · rintro (h | h)
           · exact .inl h
           · exact h
       · rw [List.mem_cons]
         rintro (h | h)
         · omega
         · have := hs'.1 _ h; rw [Int.natAbs_neg] at this; omega
     · rename_i h2
       split at h
       · cases h
       · rename_i h3
         cases h
         have hlt : x.natAbs < y.natAbs := by omega
         refine ⟨List.pairwise_cons.2 ⟨fun z hz => ?_,hs⟩,fun z => List.mem_cons,?_⟩
         · rcases List.mem_cons.1 hz with rfl | hz
           · exact hlt
           · have := hs'.1 z hz; omega
         · rw [List.mem_cons]
           rintro (h | h)
           · exact h3 h.symm
           · have := hs'.1 _ h; rw [Int.natAbs_neg] at this; omega
theorem ins_ok {x : Int} : ∀ {l : List Int},-x ∉ l → ∃ out,ins x l = some out
 | [],_ => ⟨_,rfl⟩
 | y :: ys,h => by
   obtain ⟨o,ho⟩ := ins_ok (x := x) (l := ys) fun h' => h (List.mem_cons_of_mem _ h')
   unfold ins
   split
   · rw [ho]; exact ⟨_,rfl⟩
   · split
     · exact ⟨_,rfl⟩
     · split
       · rename_i h3; exact absurd (by rw [h3]; exact List.mem_cons_self) h
       · exact ⟨_,rfl⟩
def Clean (c : List Int) : Prop := ∀ x ∈ c,x ≠ 0 ∧ x ≠ minInt ∧ -x ∉ c
theorem normFrom_some : ∀ {c l out : List Int},SortedA l → Clean l → normFrom l c = some out → SortedA out ∧ (∀ z,z ∈ out ↔ z ∈ l ∨ z ∈ c) ∧ Clean out
 | [],l,out,hs,hc,h => by
   simp only [normFrom,Option.some.injEq] at h
   subst h
   exact ⟨hs,fun z => by simp,hc⟩
 | x :: xs,l,out,hs,hc,h => by
   unfold normFrom at h
   split at h
   · cases h
   · rename_i h0
     split at h
     · cases h
     · rename_i o ho
       obtain ⟨i1,i2,i3⟩ := ins_some (by omega) hs ho
       have hco : Clean o := by
         intro z hz
         rcases (i2 z).1 hz with rfl | hz'
         · refine ⟨by omega,by omega,fun h' => ?_⟩
           rcases (i2 _).1 h' with h' | h'
           · omega
           · exact i3 h'
         · obtain ⟨q1,q2,q3⟩ := hc z hz'
           refine ⟨q1,q2,fun h' => ?_⟩
           rcases (i2 _).1 h' with h' | h'
           · apply i3; rw [← h',Int.neg_neg]; exact hz'
           · exact q3 h'
       obtain ⟨j1,j2,j3⟩ := normFrom_some i1 hco h
       refine ⟨j1,fun z => ?_,j3⟩
       rw [j2,i2,List.mem_cons]
       constructor
       · rintro ((h | h) | h)
         · exact .inr (.inl h)
         · exact .inl h
         · exact .inr (.inr h)
       · rintro (h | h | h)
         · exact .inl (.inr h)
         · exact .inl (.inl h)
         · exact .inr h
theorem norm_some {c out : List Int} (h : norm c = some out) : SortedA out ∧ (∀ z,z ∈ out ↔ z ∈ c) ∧ Clean c := by
 obtain ⟨h1,h2,h3⟩ := normFrom_some (l := []) .nil (by intro x hx; simp at hx) h
 refine ⟨h1,fun z => by simpa using h2 z,fun x hx => ?_⟩
 obtain ⟨q1,q2,q3⟩ := h3 x ((h2 x).2 (.inr hx))
 exact ⟨q1,q2,fun h => q3 ((h2 _).2 (.inr h))⟩
theorem normFrom_ok : ∀ {c l : List Int},SortedA l → Clean l → Clean c → (∀ x ∈ c,-x ∉ l) → ∃ out,normFrom l c = some out
 | [],l,_,_,_,_ => ⟨_,rfl⟩
 | x :: xs,l,hs,hl,hc,hd => by
   obtain ⟨o,ho⟩ := ins_ok (x := x) (l := l) (hd x List.mem_cons_self)
   obtain ⟨c1,c2,c3⟩ := hc x List.mem_cons_self
   obtain ⟨i1,i2,i3⟩ := ins_some c1 hs ho
   unfold normFrom
   rw [if_neg (by omega),ho]
   refine normFrom_ok i1 ?_ (fun z hz => ?_) fun z hz h' => ?_
   · intro z hz
     rcases (i2 z).1 hz with rfl | hz'
     · refine ⟨c1,c2,fun h' => ?_⟩
       rcases (i2 _).1 h' with h' | h'
       · omega
       · exact i3 h'
     · obtain ⟨q1,q2,q3⟩ := hl z hz'
       refine ⟨q1,q2,fun h' => ?_⟩
       rcases (i2 _).1 h' with h' | h'
       · apply i3; rw [← h',Int.neg_neg]; exact hz'
       · exact q3 h'
   · obtain ⟨q1,q2,q3⟩ := hc z (List.mem_cons_of_mem _ hz)
     exact ⟨q1,q2,fun h => q3 (List.mem_cons_of_mem _ h)⟩
   · rcases (i2 _).1 h' with h' | h'
     · exact (hc z (List.mem_cons_of_mem _ hz)).2.2 (by rw [h']; exact List.mem_cons_self)
     · exact hd z (List.mem_cons_of_mem _ hz) h'
theorem norm_ok {c : List Int} (h : Clean c) : ∃ out,norm c = some out := normFrom_ok .nil (by intro x hx; simp at hx) h fun _ _ h => by simp at h
theorem sorted_unique : ∀ {a b : List Int},SortedA a → SortedA b → (∀ z,z ∈ a ↔ z ∈ b) → a = b
 | [],[],_,_,_ => rfl
 | [],y :: b,_,_,h => by have := (h y).2 List.mem_cons_self; simp at this
 | x :: a,[],_,_,h => by have := (h x).1 List.mem_cons_self; simp at this
 | x :: a,y :: b,ha,hb,h => by
   have ha' := List.pairwise_cons.1 ha
   have hb' := List.pairwise_cons.1 hb
   have e : x = y := by
     rcases List.mem_cons.1 ((h x).1 List.mem_cons_self) with h1 | h1
     · exact h1
     · rcases List.mem_cons.1 ((h y).2 List.mem_cons_self) with h2 | h2
       · exact h2.symm
       · have := ha'.1 _ h2; have := hb'.1 _ h1; omega
   subst e
   congr 1
   refine sorted_unique ha'.2 hb'.2 fun z => ?_
   constructor
   · intro hz
     rcases List.mem_cons.1 ((h z).1 (List.mem_cons_of_mem _ hz)) with h1 | h1
     · subst h1; have := ha'.1 _ hz; omega
     · exact h1
   · intro hz
     rcases List.mem_cons.1 ((h z).2 (List.mem_cons_of_mem _ hz)) with h1 | h1
     · subst h1; have := hb'.1 _ hz; omega
     · exact h1
theorem norm_eq {c out : List Int} (hs : SortedA out) (hm : ∀ z,z ∈ out ↔ z ∈ c) (hc : Clean c) : norm c = some out := by
 obtain ⟨o,ho⟩ := norm_ok hc
 obtain ⟨h1,h2,_⟩ := norm_some ho
 rw [ho,sorted_unique h1 hs fun z => (h2 z).trans (hm z).symm]
theorem norm_none {c : List Int} (h : ¬ Clean c) : norm c = none := by
 cases ho : norm c with
 | none => rfl
 | some o => exact absurd (norm_some ho).2.2 h
structure PStep where
 kind : Int
 index : Int
 lits : List Int
 p : Int
 q : Int
 v : Int
structure Fm where
 ints : Nat
 bools : Nat
 atoms : List (Int × Int × Int)
 clauses : List (List Int)
def bound (F : Fm) (x : Int) : Option (Int × Int × Int) :=
 if x = 0 then none else match F.atoms[vr x]? with
   | none => none
   | some (a,b,c) => if 0 < x then some (a,b,c) else some (b,a,-c - 1)
def chain : Int → Int → List (Int × Int × Int) → Prop
 | a,b,[] => a = b
 | a,b,d :: l => d.1 = a ∧ chain d.2.1 b l
def sumC (l : List (Int × Int × Int)) : Int := (l.map (·.2.2)).sum
def ring (l : List (Int × Int × Int)) : Prop := ∃ a,chain a a l ∧ sumC l < 0
def bounds (F : Fm) : List Int → Option (List (Int × Int × Int))
 | [] => some []
 | x :: xs => match bound F x with | none => none | some d => match bounds F xs with | none => none | some l => some (d :: l)
open Classical in
noncomputable def cyclic (F : Fm) (lits : List Int) : Option (List Int) :=
 match bounds F lits with
 | none => none
 | some l => if ring l ∧ lits.length ≤ 1000 then norm (lits.map (- ·)) else none
def resolvent (p q : List Int) (v : Int) : Option (List Int) :=
 if 0 ≤ v ∧ v < 1024 ∧ v + 1 ∈ p ∧ -(v + 1) ∈ q then norm (p.filter (· != v + 1) ++ q.filter (· != -(v + 1))) else none
noncomputable def stepClause (F : Fm) (cs : List (List Int)) (s : PStep) : Option (List Int) :=
 if s.kind = 1 then (if 0 ≤ s.index then match F.clauses[s.index.toNat]? with | some c => norm c | none => none else none)
 else if s.kind = 2 then cyclic F s.lits
 else if s.kind = 3 then (if 0 ≤ s.p ∧ 0 ≤ s.q then match cs[s.p.toNat]?,cs[s.q.toNat]? with | some a,some b => resolvent a b s.v | _,_ => none else none)
 else none
noncomputable def stepsFrom (F : Fm) (cs : List (List Int)) : List PStep → Option (List (List Int))
 | [] => some cs
 | s :: l => match stepClause F cs s with | none => none | some c => stepsFrom F (cs ++ [c]) l
noncomputable def stepsOf (F : Fm) (l : List PStep) : Option (List (List Int)) := stepsFrom F [] l
theorem stepsFrom_append {F : Fm} : ∀ {l m : List PStep} {cs : List (List Int)},stepsFrom F cs (l ++ m) = match stepsFrom F cs l with | none => none | some ds => stepsFrom F ds m
 | [],m,cs => rfl
 | s :: l,m,cs => by
   rw [List.cons_append,stepsFrom,stepsFrom]
   cases stepClause F cs s with
   | none => rfl
   | some c => exact stepsFrom_append
theorem stepsOf_snoc {F : Fm} {l : List PStep} {cs : List (List Int)} (h : stepsOf F l = some cs) {s : PStep} {c : List Int} (hs : stepClause F cs s = some c) : stepsOf F (l ++ [s]) = some (cs ++ [c]) := by
 unfold stepsOf at h ⊢
 rw [stepsFrom_append,h]
 simp only [stepsFrom,hs]
theorem stepsFrom_len {F : Fm} : ∀ {l : List PStep} {cs ds : List (List Int)},stepsFrom F cs l = some ds → ds.length = cs.length + l.length ∧ ∃ e,ds = cs ++ e
 | [],cs,ds,h => by simp only [stepsFrom,Option.some.injEq] at h; subst h; exact ⟨rfl,[],by simp⟩
 | s :: l,cs,ds,h => by
   unfold stepsFrom at h
   split at h
   · cases h
   · obtain ⟨h1,e,h2⟩ := stepsFrom_len h
     refine ⟨by rw [h1]; simp; omega,_,by rw [h2,List.append_assoc]⟩
theorem stepsOf_len {F : Fm} {l : List PStep} {cs : List (List Int)} (h : stepsOf F l = some cs) : cs.length = l.length := by
 have := (stepsFrom_len h).1; simpa using this
theorem stepClause_mono {F : Fm} {cs ds : List (List Int)} {s : PStep} {c : List Int} (h : stepClause F cs s = some c) : stepClause F (cs ++ ds) s = some c := by
 have up : ∀ (k : Nat) (a : List Int),cs[k]? = some a → (cs ++ ds)[k]? = some a := by
   intro k a h
   rw [List.getElem?_append_left]
   · exact h
   · exact (List.getElem?_eq_some_iff.1 h).1
 unfold stepClause at h ⊢
 split at h
 · rename_i h1; rw [if_pos h1]; exact h
 · rename_i h1
   rw [if_neg h1]
   split at h
   · rename_i h2; rw [if_pos h2]; exact h
   · rename_i h2
     rw [if_neg h2]
     split at h
     · rename_i h3
       rw [if_pos h3]
       split at h
       · rename_i h4
         rw [if_pos h4]
         split at h
         · rename_i a b ha hb
           rw [up _ _ ha,up _ _ hb]
           exact h
         · cases h
       · cases h
     · cases h
theorem stepsOf_at {F : Fm} {l : List PStep} {cs : List (List Int)} (h : stepsOf F l = some cs) {i : Nat} {s : PStep} (hs : l[i]? = some s) : ∃ c,cs[i]? = some c ∧ stepClause F cs s = some c := by
 have hlt := (List.getElem?_eq_some_iff.1 hs).1
 have e : l = l.take i ++ (s :: l.drop (i + 1)) := by
   rw [← (List.getElem?_eq_some_iff.1 hs).2,← List.drop_eq_getElem_cons hlt,List.take_append_drop]
 unfold stepsOf at h
 rw [e,stepsFrom_append] at h
 cases h1 : stepsFrom F [] (l.take i) with
 | none => rw [h1] at h; cases h
 | some ds =>
   rw [h1] at h
   dsimp only at h
   unfold stepsFrom at h
   split at h
   · cases h
   · rename_i c hc
     obtain ⟨_,e',he⟩ := stepsFrom_len h
     have hl := (stepsFrom_len h1).1
     simp only [List.length_nil,List.length_take,Nat.zero_add] at hl
     have hdl : ds.length = i := by omega
     refine ⟨c,?_,?_⟩
     · rw [he,List.append_assoc,List.getElem?_append_right (by omega),hdl]
       simp
     · rw [he,List.append_assoc]
       exact stepClause_mono hc
end Go.Sv
