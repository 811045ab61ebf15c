/- A part of the proof: see the last text, YthfnjogadngfiaaXi14. -/
import Derived.Laws.Sem
import Derived.Test.YthfnjogadngfiaaXi1
set_option maxRecDepth 100000
set_option linter.unusedVariables false
set_option linter.unusedSimpArgs false
namespace Go.Sl
def CP (Q:Value→PH→Prop) (σ:PH) (w:World) (e:Ending) (w':World):Prop :=
 ∃ v τ,e=.returned v∧Q v τ∧PH.le τ w'∧Fr σ w τ w'
def HC (P:Program) (call:CallR):Prop:=∀ f args Q σ w,call f args Q σ→PH.le σ w→Calls P f args w (CP Q σ w)
structure ER (e:Env) (a:Act):Prop where
 len:e.length=a.tmps.size
 slot:∀ t v,eget e t=some v→a.tmps[t]?=some v
 defers:a.defers=[]
theorem eget_eput:∀ (e:Env) (d:Nat) (v:Value) (t:Nat),eget (eput e d v) t=if t=d∧d < e.length then some v else eget e t
 | [],d,v,t => by simp [eput]
 | x :: xs,0,v,0 => by simp [eput,eget]
 | x :: xs,0,v,t + 1 => by simp [eput,eget]
 | x :: xs,d + 1,v,0 => by simp [eput,eget]
 | x :: xs,d + 1,v,t + 1 => by
   simp only [eput,eget,eget_eput xs d v t,List.length_cons]
   by_cases h:t=d∧d < xs.length
   · rw [if_pos h,if_pos (by omega)]
   · rw [if_neg h,if_neg (by omega)]
theorem eput_length:∀ (e:Env) (d:Nat) (v:Value),(eput e d v).length=e.length
 | [],_,_ => rfl
 | _ :: _,0,_ => rfl
 | _ :: xs,d + 1,v => by simp [eput,eput_length xs d v]
theorem eget_emask:∀ (m:Nat) (e:Env) (t:Nat) (v:Value),eget (emask m e) t=some v→eget e t=some v
 | _,[],_,_,h => h
 | m,x :: xs,0,v,h => by
   simp only [emask,eget] at h ⊢
   split at h
   · cases h
   · exact h
 | m,x :: xs,t + 1,v,h => eget_emask (m / 2) xs t v h
theorem emask_length:∀ (m:Nat) (e:Env),(emask m e).length=e.length
 | _,[] => rfl
 | m,_ :: xs => by simp [emask,emask_length (m / 2) xs]
theorem ER.put {e:Env} {a:Act} (h:ER e a) (d:Option Tmp) (v:Value):ER (eputO e d v) (a.put d v):=by
 cases d with
 | none => exact h
 | some d =>
   refine ⟨?_,?_,h.defers⟩
   · simp only [eputO,Act.put,eput_length,Array.size_setIfInBounds]; exact h.len
   · intro t u hu
     simp only [eputO,eget_eput] at hu
     simp only [Act.put,Array.getElem?_setIfInBounds]
     by_cases e1:t=d∧d < e.length
     · rw [if_pos e1] at hu
       obtain ⟨rfl,hl⟩:=e1
       rw [if_pos rfl,if_pos (by rw [← h.len]; exact hl)]
       exact hu
     · rw [if_neg e1] at hu
       have hs:=h.slot t u hu
       by_cases e2:d=t
       · subst e2
         have:d < e.length:=by
           rw [h.len]
           rcases Nat.lt_or_ge d a.tmps.size with h' | h'
           · exact h'
           · rw [Array.getElem?_eq_none h'] at hs; cases hs
         exact absurd ⟨rfl,this⟩ e1
       · rw [if_neg e2]; exact hs
theorem ER.mask {e:Env} {a:Act} (h:ER e a) (m:Nat):ER (emask m e) a :=
 ⟨(emask_length m e).trans h.len,fun t v hv => h.slot t v (eget_emask m e t v hv),h.defers⟩
theorem ER.cut {e:Env} {a:Act} (h:ER e a) (n:Ann):ER (n.cut e) a:=by
 cases n
 · exact h
 · exact h
 · exact h
 · exact h.mask _
theorem ER.bool {e:Env} {a:Act} (h:ER e a) {d:Nat} {b b':Bool} (hd:eget e d=some (.bool b)) (hb:b=b'):ER (eput e d (.bool b')) a:=by
 subst hb
 refine ⟨(eput_length _ _ _).trans h.len,fun t v hv => ?_,h.defers⟩
 rw [eget_eput] at hv
 by_cases e1:t=d∧d < e.length
 · rw [if_pos e1] at hv; cases hv; rw [e1.1]; exact h.slot _ _ hd
 · rw [if_neg e1] at hv; exact h.slot _ _ hv
theorem ER.eval {e:Env} {a:Act} (h:ER e a) {x:Operand} {v:Value} (hx:eeval e x=some v):a.eval x=v:=by
 cases x with
 | tmp t =>
   have:=h.slot t v hx
   simp only [Act.eval,Array.getD_eq_getD_getElem?]
   rw [this]; rfl
 | const u => exact Option.some.inj hx
 | global g => exact Option.some.inj hx
 | func f => exact Option.some.inj hx
theorem ER.known {e:Env} {a:Act} (h:ER e a):∀ {l:List Operand},eknown e l=true→∀ x ∈ l,a.eval x=erho e x
 | [],_,_,hx => by cases hx
 | y :: ys,hk,x,hx => by
   unfold eknown at hk
   split at hk
   · rename_i v hv
     cases hx with
     | head => rw [h.eval hv]; simp [erho,hv]
     | tail _ hm => exact h.known hk x hm
   · cases hk
theorem exec_known {e:Env} {a:Act} (h:ER e a) {o:Oper} (hk:eknown e o.op.operands.toList=true) (hs:∀ cs b,o.op ≠ .select cs b):execOp a.eval o=execOp (erho e) o :=
 execOp_congr o hs fun x hx => h.known hk x (Array.mem_toList_iff.2 hx)
theorem igen_sound {P:Program} {call:CallR} (hc:HC P call) {o:Oper} {ρ:Operand→Value} {Q:Value→PH→Prop} {σ:PH} {w:World} {a:Act}
   {next:Act→World→Prop} {Qx:Exit→Act→World→Prop} (h:igen P call o ρ Q σ) (he:execOp a.eval o=execOp ρ o) (hw:PH.le σ w)
   (hn:∀ v τ w',Q v τ→PH.le τ w'→Fr σ w τ w'→next (a.put o.dst v) w'):o.wp P a w next Qx:=by
 obtain ⟨n,w',τ,hr,hq,hl,hf⟩:=irun_sound _ h hw
 unfold Oper.wp
 rw [he,hr]
 cases n <;> try exact hq.elim
 · rename_i v
   dsimp only at hq
   split at hq
   · obtain ⟨u,rfl,hu⟩:=enumT_ex hq
     exact hn _ _ _ hu hl hf
   · exact hn _ _ _ hq hl hf
 · exact hn _ _ _ hq hl hf
 · refine (hc _ _ _ _ _ hq hl).mono ?_
   rintro e w'' ⟨v,τ',rfl,⟨υ,hs,hv⟩,hl',hf'⟩
   obtain ⟨u,rfl,hu⟩:=enumT_ex hv
   exact hn _ _ _ hu (hs.le hl') ((hf.trans hf').sub hs)
theorem iop_no_select {P:Program} {call:CallR} {o:Oper} {ρ:Operand→Value} {Q:Value→PH→Prop} {σ:PH} (h:iop P call o ρ Q σ):∀ cs b,o.op ≠ .select cs b:=by
 intro cs b ho
 unfold iop at h
 rw [ho] at h
 exact h
theorem iop_sound {P:Program} {call:CallR} (hc:HC P call) {o:Oper} {e:Env} {Q:Value→PH→Prop} {σ:PH} {w:World} {a:Act}
   {next:Act→World→Prop} {Qx:Exit→Act→World→Prop} (h:iop P call o (erho e) Q σ) (he:ER e a) (hk:eknown e o.op.operands.toList=true) (hw:PH.le σ w)
   (hn:∀ v τ w',Q v τ→PH.le τ w'→Fr σ w τ w'→next (a.put o.dst v) w'):o.wp P a w next Qx :=
 igen_sound hc (iop_gen h) (exec_known he hk (iop_no_select h)) hw hn
def IX.out:IX→Exit
 | .normal => .normal
 | .exit i => .exit i
 | .ret => .ret
def W (Q:IX→Env→PH→Prop) (σ:PH) (w:World) (x:Exit) (a:Act) (w':World):Prop :=
 ∃ ix e τ,x=IX.out ix∧Q ix e τ∧ER e a∧PH.le τ w'∧Fr σ w τ w'
theorem W.weaken {Q Q':IX→Env→PH→Prop} {σ τ:PH} {w w1:World} (hf:Fr σ w τ w1) (hq:∀ x e υ,Q x e υ→Q' x e υ):∀ x a w',W Q τ w1 x a w'→W Q' σ w x a w':=by
 rintro x a w' ⟨ix,e,υ,rfl,h1,h2,h3,h4⟩
 exact ⟨ix,e,υ,rfl,hq _ _ _ h1,h2,h3,hf.trans h4⟩
theorem wanted_of {all:Array Oper} {o:Oper} {a:Act} {e:Env} (he:ER e a) {j d:Nat} {want b:Bool} (hg:o.guard=some (j,want)) (hd:(all[j]?).bind (·.dst)=some d)
   (hb:eget e d=some (.bool b)):Region.wanted o (yielded all a.tmps)=(b == want):=by
 unfold Region.wanted yielded
 rw [hg]
 simp only [hd,Option.bind_some]
 rw [he.slot _ _ hb]
 cases b <;> cases want <;> rfl
theorem wanted_not {all:Array Oper} {o:Oper} {a:Act} {e:Env} (he:ER e a) {j d:Nat} {want:Bool} {vs:Array Value} (hg:o.guard=some (j,want)) (hd:(all[j]?).bind (·.dst)=some d)
   (hb:eget e d=some (.tuple vs)):Region.wanted o (yielded all a.tmps)=false:=by
 unfold Region.wanted yielded
 rw [hg]
 simp only [hd,Option.bind_some]
 rw [he.slot _ _ hb]
 rfl
theorem iops_sound {P:Program} {call:CallR} (hc:HC P call) {ops:Array Oper} {Q:Env→PH→Prop} {Qx:Exit→Act→World→Prop} {σ0:PH} {w0:World}
   (hQ:∀ e τ a w,Q e τ→ER e a→PH.le τ w→Fr σ0 w0 τ w→Qx .normal a w) :
   ∀ (os:List Oper) (k:Nat),(∀ i,os[i]?=ops[k + i]?)→∀ (e:Env) (σ:PH) (a:Act) (w:World),iops P call ops os Q e σ→ER e a→PH.le σ w→Fr σ0 w0 σ w →
     wpOps P ops Qx (List.range' k os.length) a w:=by
 intro os
 induction os with
 | nil => intro k _ e σ a w h he hw hf; exact hQ _ _ _ _ h he hw hf
 | cons o os ih =>
   intro k hk e σ a w h he hw hf
   have ho:ops[k]?=some o:=by have:=hk 0; simpa using this.symm
   have hk':∀ i,os[i]?=ops[k + 1 + i]?:=fun i => by have:=hk (i + 1); rw [List.getElem?_cons_succ] at this; rw [this]; congr 1; omega
   simp only [List.length_cons,List.range'_succ,wpOps,ho]
   have run:∀ e':Env,ER e' a→Region.wanted o (yielded ops a.tmps)=true→eknown e' o.op.operands.toList=true →
       iop P call o (erho e') (fun v τ => iops P call ops os Q (eputO e' o.dst v) τ) σ →
       (if Region.wanted o (yielded ops a.tmps) then o.wp P a w (wpOps P ops Qx (List.range' (k + 1) os.length)) Qx ∨ (o.asks P a w∧LetsOut Qx)
         else wpOps P ops Qx (List.range' (k + 1) os.length) (a.put o.dst undef) w):=by
     intro e' he' hwant hkn hop
     rw [if_pos hwant]
     exact .inl (iop_sound hc hop he' hkn hw fun v τ w' hv hl hfr => ih (k + 1) hk' _ _ _ _ hv (he'.put _ _) hl (hf.trans hfr))
   have skip:∀ e':Env,ER e' a→Region.wanted o (yielded ops a.tmps)=false→iops P call ops os Q (eputO e' o.dst undef) σ →
       (if Region.wanted o (yielded ops a.tmps) then o.wp P a w (wpOps P ops Qx (List.range' (k + 1) os.length)) Qx ∨ (o.asks P a w∧LetsOut Qx)
         else wpOps P ops Qx (List.range' (k + 1) os.length) (a.put o.dst undef) w):=by
     intro e' he' hwant hop
     rw [if_neg (by rw [hwant]; simp)]
     exact ih (k + 1) hk' _ _ _ _ hop (he'.put _ _) hw hf
   unfold iops at h
   split at h
   · rename_i hg
     split at h
     · rename_i hkn
       exact run e he (by unfold Region.wanted; rw [hg]) hkn h
     · exact h.elim
   · rename_i j want hg
     split at h
     · exact h.elim
     · rename_i d hd
       split at h
       · rename_i b hb
         have hwant:=wanted_of he hg hd hb
         cases b
         · have he':=he.bool hb (b':=false) rfl
           simp only [br] at h
           cases want
           · dsimp only at h
             split at h
             · rename_i hkn; exact run _ he' hwant hkn h
             · exact h.elim
           · exact skip _ he' hwant h
         · have he':=he.bool hb (b':=true) rfl
           simp only [br] at h
           cases want
           · exact skip _ he' hwant h
           · dsimp only at h
             split at h
             · rename_i hkn; exact run _ he' hwant hkn h
             · exact h.elim
       · rename_i vs hb
         exact skip _ he (wanted_not he hg hd hb) h
       · exact h.elim
theorem iregion_sound {P:Program} {call:CallR} (hc:HC P call) {id:Nat} {ops:Array Oper} {Q:IX→Env→PH→Prop} {e:Env} {σ:PH} {a:Act} {w:World}
   (h:iops P call ops ops.toList (fun e τ => Q .normal e τ) e σ) (he:ER e a) (hw:PH.le σ w):(Code.region id ops false).wp P (W Q σ w) a w:=by
 refine wp_region ?_
 have:=iops_sound hc (Qx:=W Q σ w) (σ0:=σ) (w0:=w) (fun e τ a w' h1 h2 h3 h4 => ⟨.normal,e,τ,rfl,h1,h2,h3,h4⟩) ops.toList 0 (fun i => by simp) e σ a w h he hw (Fr.refl _ _)
 rw [List.range_eq_range']
 simpa using this
def LoopW (P:Program) (c:Code) (Q:Exit→Act→World→Prop) (a:Act) (w:World):Prop :=
 ∀ (b:Frame) (k:List Item) (cs:List Frame),∃ e a' w',Q e a' w'∧Arrives P (lone (b.at a (.code c :: .inLoop c :: k)) cs w) b k cs e a' w'
theorem wp_of_loopW {P:Program} {c:Code} {Q:Exit→Act→World→Prop} {a:Act} {w:World} (h:LoopW P c Q a w):(Code.loop c).wp P Q a w:=by
 intro b k cs
 obtain ⟨e,a',w',hq,harr⟩:=h b k cs
 exact ⟨e,a',w',hq,.of_steps (.one step_loop) harr⟩
theorem loopW_of_round {P:Program} {c:Code} {Q:Exit→Act→World→Prop} {a:Act} {w:World} (h:c.wp P (Exit.then (LoopW P c Q) Q) a w):LoopW P c Q a w:=by
 intro b k cs
 obtain ⟨e,a₁,w₁,hq,harr⟩:=h b (.inLoop c :: k) cs
 cases e with
 | normal =>
   obtain ⟨e₂,a₂,w₂,hq₂,harr₂⟩:=hq b k cs
   exact ⟨e₂,a₂,w₂,hq₂,.of_steps (Steps.trans harr (.one step_inLoop)) harr₂⟩
 | exit id => exact ⟨_,a₁,w₁,hq,.pass (x:=.inLoop c) rfl (fun _ _ => .inl (by simp)) harr⟩
 | goto l => exact ⟨_,a₁,w₁,hq,.pass (x:=.inLoop c) rfl (fun _ _ => .inl (by simp)) harr⟩
 | ret => exact ⟨_,a₁,w₁,hq,.pass (x:=.inLoop c) rfl (fun _ _ => .inl (by simp)) harr⟩
 | panic ch => exact ⟨_,a₁,w₁,hq,.pass (x:=.inLoop c) rfl (fun _ _ => .inl (by simp)) harr⟩
 | outgrown => exact ⟨_,a₁,w₁,hq,.pass (x:=.inLoop c) rfl (fun _ _ => .inl (by simp)) harr⟩
theorem LoopW.mono {P:Program} {c:Code} {Q Q':Exit→Act→World→Prop} {a:Act} {w:World} (h:LoopW P c Q a w) (hq:∀ e a w,Q e a w→Q' e a w):LoopW P c Q' a w :=
 fun b k cs => let ⟨e,a',w',q,r⟩:=h b k cs; ⟨e,a',w',hq _ _ _ q,r⟩
def DrawSound (P:Program) (call:CallR):Prop :=
 ∀ (id:Nat) (ops:Array Oper) (Q:IX→Env→PH→Prop) (e:Env) (σ:PH) (a:Act) (w:World),idrawn P call ops (fun e τ => Q .normal e τ) e σ ∨ idrawnE P call ops (fun e τ => Q .normal e τ) e σ→ER e a→PH.le σ w →
   (Code.region id ops true).wp P (W Q σ w) a w
theorem icode_sound {P:Program} {call:CallR} (hc:HC P call) (hd:DrawSound P call):∀ (c:Code) {n:Ann} {Q:IX→Env→PH→Prop} {e:Env} {σ:PH} {a:Act} {w:World},
   icode P call c n Q e σ→ER e a→PH.le σ w→c.wp P (W Q σ w) a w:=by
 intro c
 induction c with
 | skip => intro n Q e σ a w h he hw; exact wp_skip ⟨.normal,e,σ,rfl,h,he,hw,Fr.refl _ _⟩
 | label l => intro n Q e σ a w h he hw; exact wp_label ⟨.normal,e,σ,rfl,h,he,hw,Fr.refl _ _⟩
 | region id ops d =>
   intro n Q e σ a w h he hw
   cases d
   · exact iregion_sound hc h he hw
   · simp only [icode] at h
     split at h
     · exact hd _ _ _ _ _ _ _ (.inr h) he hw
     · exact hd _ _ _ _ _ _ _ (.inl h) he hw
 | seq x y ihx ihy =>
   intro n Q e σ a w h he hw
   refine wp_seq (wp_mono (ihx h he hw) ?_)
   rintro ex a1 w1 ⟨ix,e1,τ,rfl,hq,he1,hl,hf⟩
   cases ix
   · exact wp_mono (ihy hq (he1.cut _) hl) (W.weaken hf fun _ _ _ h => h)
   · exact ⟨.exit _,e1,τ,rfl,hq,he1,hl,hf⟩
   · exact ⟨.ret,e1,τ,rfl,hq,he1,hl,hf⟩
 | cond cnd x y ihx ihy =>
   intro n Q e σ a w h he hw
   simp only [icode] at h
   split at h
   · rename_i t ht
     refine wp_cond (he.eval ht) ?_
     cases t
     · exact ihy h he hw
     · exact ihx h he hw
   · exact h.elim
 | block id x ihx =>
   intro n Q e σ a w h he hw
   refine wp_block (wp_mono (ihx h he hw) ?_)
   rintro ex a1 w1 ⟨ix,e1,τ,rfl,hq,he1,hl,hf⟩
   cases ix with
   | normal => exact ⟨.normal,e1,τ,rfl,hq,he1,hl,hf⟩
   | exit i =>
     show (if i=id then _ else _)
     simp only [blockK] at hq
     split at hq
     · rename_i hi
       rw [if_pos (by simpa using hi)]
       exact ⟨.normal,e1,τ,rfl,hq,he1,hl,hf⟩
     · rename_i hi
       rw [if_neg (by simpa using hi)]
       exact ⟨.exit i,e1,τ,rfl,hq,he1,hl,hf⟩
   | ret => exact ⟨.ret,e1,τ,rfl,hq,he1,hl,hf⟩
 | loop x ihx =>
   intro n Q e σ a w h he hw
   refine wp_of_loopW ?_
   have h:=h (fun e σ => ∀ a w,ER e a→PH.le σ w→LoopW P x (W Q σ w) a w) ?_
   · exact h a w (he.cut _) hw
   · intro e σ hb a w he hw
     refine loopW_of_round (wp_mono (ihx hb he hw) ?_)
     rintro ex a1 w1 ⟨ix,e1,τ,rfl,hq,he1,hl,hf⟩
     cases ix
     · exact (hq a1 w1 (he1.cut _) hl).mono (W.weaken hf fun _ _ _ h => h)
     · exact ⟨.exit _,e1,τ,rfl,hq,he1,hl,hf⟩
     · exact ⟨.ret,e1,τ,rfl,hq,he1,hl,hf⟩
 | rangeFunc f p x y ihx ihy => intro n Q e σ a w h; exact h.elim
 | exit i => intro n Q e σ a w h he hw; exact wp_exit ⟨.exit i,e,σ,rfl,h,he,hw,Fr.refl _ _⟩
 | scope x ihx =>
   intro n Q e σ a w h he hw
   refine wp_scope_straight (wp_mono (ihx h he hw) ?_)
   rintro ex a1 w1 ⟨ix,e1,τ,rfl,hq,he1,hl,hf⟩
   cases ix
   · exact ⟨.normal,e1,τ,rfl,hq,he1,hl,hf⟩
   · exact ⟨.exit _,e1,τ,rfl,hq,he1,hl,hf⟩
   · exact ⟨.ret,e1,τ,rfl,hq,he1,hl,hf⟩
 | goto l => intro n Q e σ a w h; exact h.elim
 | ret => intro n Q e σ a w h he hw; exact wp_ret ⟨.ret,e,σ,rfl,h,he,hw,Fr.refl _ _⟩
 | refuse s => intro n Q e σ a w h; exact h.elim
theorem iretL_mono {P:Program} {e:Env} {σ:PH}:∀ {l:List ResultVar} {K K':List Value→Prop},(∀ vs,K vs→K' vs)→iretL P e l K σ→iretL P e l K' σ
 | [],_,_,hk,h => hk _ h
 | .tmp t :: rs,K,K',hk,h => by
   unfold iretL at h ⊢
   split at h
   · exact iretL_mono (fun vs hv => hk _ hv) h
   · exact h.elim
 | .cell a t :: rs,K,K',hk,h => by
   unfold iretL at h ⊢
   split at h
   · exact irun_mono _ h fun v _ hv => iretL_mono (fun vs hv => hk _ hv) hv
   · exact h.elim
theorem iret_mono {P:Program} {fn:Func} {Q Q':Value→PH→Prop} {e:Env} {σ:PH} (hq:∀ v τ,Q v τ→Q' v τ) (h:iret P fn Q e σ):iret P fn Q' e σ:=by
 refine iretL_mono ?_ h
 intro vs hv
 split at hv <;> exact hq _ _ hv
theorem ibody_mono {P:Program} {anns:FuncId→Ann} {call call':CallR} (hc:CMono call call') {f:FuncId} {args:Array Value} {Q Q':Value→PH→Prop} {σ:PH}
   (hq:∀ v τ,Q v τ→Q' v τ) (h:ibody P anns call f args Q σ):ibody P anns call' f args Q' σ:=by
 unfold ibody at h ⊢
 split at h
 · exact h.elim
 · split at h
   · exact h.elim
   · refine icode_mono hc ?_ h
     intro x e τ hx
     cases x
     · exact iret_mono hq hx
     · exact hx
     · exact iret_mono hq hx
theorem ICall.intro {P:Program} {anns:FuncId→Ann} {base:CallR} (hb:CMono base base) {f:FuncId} {args:Array Value} {Q:Value→PH→Prop} {σ:PH} (h:ibody P anns (ICall P anns base) f args Q σ):ICall P anns base f args Q σ:=by
 intro R hB hR
 refine hR _ _ _ _ (ibody_mono ?_ (fun _ _ h => h) h)
 intro f args K K' σ hk hcall
 have:∀ K',(∀ v τ,K v τ→K' v τ)→R f args K' σ:=by
   refine hcall (fun f args K σ => ∀ K',(∀ v τ,K v τ→K' v τ)→R f args K' σ) ?_ ?_
   · intro f args Q σ h K' hk
     exact hB _ _ _ _ (hb _ _ _ _ _ hk h)
   · intro f args Q σ hb K' hk
     exact hR _ _ _ _ (ibody_mono (fun f args K K' σ hk h => h K' hk) hk hb)
 exact this K' hk
theorem ICall.ofBase {P:Program} {anns:FuncId→Ann} {base:CallR} {f:FuncId} {args:Array Value} {Q:Value→PH→Prop} {σ:PH} (h:base f args Q σ):ICall P anns base f args Q σ :=
 fun _ hB _ => hB _ _ _ _ h
theorem ICall.mono {P:Program} {anns:FuncId→Ann} {base:CallR} (hb:CMono base base) {f:FuncId} {args:Array Value} {K K':Value→PH→Prop} {σ:PH} (h:ICall P anns base f args K σ) (hk:∀ v τ,K v τ→K' v τ) :
   ICall P anns base f args K' σ:=by
 refine h (fun f args K σ => ∀ K',(∀ v τ,K v τ→K' v τ)→ICall P anns base f args K' σ) ?_ ?_ K' hk
 · intro f args Q σ h K' hk
   exact ICall.ofBase (hb _ _ _ _ _ hk h)
 · intro f args Q σ h K' hk
   exact ICall.intro hb (ibody_mono (fun f args K K' σ hk h => h K' hk) hk h)
theorem eget_map:∀ (l:List Value) (r:List (Option Value)) (t:Nat) (v:Value),eget (l.map some ++ r) t=some v→(l ++ r.map (·.getD undef))[t]?=some v
 | [],r,t,v,h => by
   simp only [List.map_nil,List.nil_append] at h ⊢
   induction r generalizing t with
   | nil => cases h
   | cons x xs ih =>
     cases t with
     | zero => simp only [eget] at h; subst h; rfl
     | succ t => exact ih t h
 | x :: xs,r,0,v,h => by simpa [eget] using h
 | x :: xs,r,t + 1,v,h => by
   have:=eget_map xs r t v h
   simpa using this
theorem startER (fn:Func) (args:Array Value):ER (startEnv fn args) { tmps:=args ++ Array.replicate (fn.ntmps - args.size) undef,defers:=[] }:=by
 refine ⟨by simp [startEnv],?_,rfl⟩
 intro t v h
 have:=eget_map args.toList _ t v h
 have e:(args ++ Array.replicate (fn.ntmps - args.size) undef)[t]?=(args.toList ++ (List.replicate (fn.ntmps - args.size) (some undef)).map (·.getD undef))[t]?:=by
   rw [← Array.getElem?_toList]
   congr 1
   simp
 show (args ++ Array.replicate (fn.ntmps - args.size) undef)[t]?=some v
 rw [e]; exact this
def Looks {α:Type} (P:Program):Sem α→Prop
 | .pure _ | .halt _ => True
 | .program k => Looks P (k P)
 | .load _ _ k => ∀ v,Looks P (k v)
 | _ => False
theorem Looks.bind {α β:Type} {P:Program} {s:Sem α} {f:α→Sem β} (h:Looks P s) (hf:∀ a,Looks P (f a)):Looks P (s >>= f):=by
 show Looks P (s.bind f)
 induction s with
 | pure a => exact hf a
 | load m a k ih => exact fun v => ih v (h v)
 | program k ih => exact ih P h
 | halt h => trivial
 | _ => exact h.elim
theorem Looks.run {α:Type} {P:Program}:∀ {s:Sem α} {Q:α→PH→Prop} {σ:PH} {w:World},Looks P s→irun P s Q σ→PH.le σ w→∃ v τ,s.run P w=.ok v w∧Q v τ:=by
 intro s
 induction s with
 | pure a => intro Q σ w _ h _; exact ⟨a,σ,rfl,h⟩
 | load m a k ih =>
   rintro Q σ w hl ⟨v,hc,h⟩ hw
   obtain ⟨u,τ,hr,hq⟩:=ih v (hl v) h hw
   exact ⟨u,τ,by simp only [Sem.run,hw.cell hc]; exact hr,hq⟩
 | program k ih =>
   intro Q σ w hl h hw
   obtain ⟨u,τ,hr,hq⟩:=ih P hl h hw
   exact ⟨u,τ,hr,hq⟩
 | halt x => intro Q σ w _ h; exact h.elim
 | _ => intro Q σ w hl; exact hl.elim
theorem looks_typeInfo {P:Program} (t:TypeId):Looks P (typeInfo t):=by
 show Looks P (match P.info? t with | some i => pure i | none => stuck "no such type" : Sem TypeInfo)
 split <;> trivial
theorem looks_loadFrom {P:Program} {a:Addr}:∀ (n i:Nat) (acc:Array Value),Looks P (loadCellsFrom a i n acc)
 | 0,_,_ => trivial
 | n + 1,i,_ => fun _ => looks_loadFrom n (i + 1) _
theorem looks_loadVar {P:Program} (t:TypeId) (a:Addr):Looks P (loadVar t a):=by
 unfold loadVar isAgg
 refine Looks.bind ?_ fun b => ?_
 · show Looks P ((match P.underlying t with | some d => pure d | none => stuck "no such type" : Sem TypeDesc) >>= _)
   refine Looks.bind ?_ fun d => ?_
   · split <;> trivial
   · split <;> trivial
 · split
   · exact Looks.bind (Looks.bind (looks_typeInfo t) fun _ => trivial) fun n => Looks.bind (looks_loadFrom n 0 #[]) fun _ => trivial
   · exact fun _ => trivial
theorem results_go {P:Program} {e:Env} {a:Act} {σ:PH} {w:World} (he:ER e a) (hw:PH.le σ w):∀ {l:List ResultVar} {K:List Value→Prop},iretL P e l K σ →
   ∃ vs,K vs∧(l.mapM (fun r => match r with
     | .tmp t => pure (a.tmps.getD t undef)
     | .cell x t => do loadVar t (← asAddr (a.tmps.getD x undef))):Sem (List Value)).run P w=.ok vs w
 | [],K,h => ⟨[],h,rfl⟩
 | .tmp t :: rs,K,h => by
   unfold iretL at h
   split at h
   · rename_i v hv
     obtain ⟨vs,hk,hr⟩:=results_go he hw h
     have hg:a.tmps.getD t undef=v:=by
       have:=he.slot _ _ hv
       rw [Array.getD_eq_getD_getElem?,this]; rfl
     refine ⟨v :: vs,hk,?_⟩
     rw [List.mapM_cons,Sem.run_bind]
     show Result.andThen (.ok (a.tmps.getD t undef) w) _=_
     rw [hg]
     simp only [Result.andThen_ok,Sem.run_bind,hr]
     rfl
   · exact h.elim
 | .cell x t :: rs,K,h => by
   unfold iretL at h
   split at h
   · rename_i p hp
     obtain ⟨v,τ,hr,h⟩:=(looks_loadVar t p).run h hw
     obtain ⟨vs,hk,hr'⟩:=results_go he hw h
     have hg:a.tmps.getD x undef=.pointer (some p):=by
       have:=he.slot _ _ hp
       rw [Array.getD_eq_getD_getElem?,this]; rfl
     refine ⟨v :: vs,hk,?_⟩
     rw [List.mapM_cons,Sem.run_bind]
     have:(do loadVar t (← asAddr (.pointer (some p))):Sem Value)=loadVar t p:=rfl
     show Result.andThen ((do loadVar t (← asAddr (a.tmps.getD x undef)):Sem Value).run P w) _=_
     rw [hg]
     rw [this,hr]
     simp only [Result.andThen_ok,Sem.run_bind,hr']
     rfl
   · exact h.elim
theorem results_run {P:Program} {fn:Func} {e:Env} {a:Act} {σ:PH} {w:World} (he:ER e a) (hw:PH.le σ w) {K:List Value→Prop} (h:iretL P e fn.results.toList K σ) :
   ∃ vs,K vs∧(results fn a.tmps).run P w=.ok (if h:vs.toArray.size=1 then vs.toArray[0] else .tuple vs.toArray) w:=by
 obtain ⟨vs,hk,hr⟩:=results_go he hw h
 refine ⟨vs,hk,?_⟩
 unfold results
 rw [Array.mapM_eq_mapM_toList,Sem.run_bind,map_eq_pure_bind,Sem.run_bind]
 refine Eq.trans (congrArg (fun r => Result.andThen (Result.andThen r _) _) hr) ?_
 rfl
theorem calls_of_ibody {P:Program} {anns:FuncId→Ann} {call:CallR} (hc:HC P call) (hd:DrawSound P call) {f:FuncId} {args:Array Value} {Q:Value→PH→Prop} {σ:PH} {w:World}
   (h:ibody P anns call f args Q σ) (hw:PH.le σ w):Calls P f args w (CP Q σ w):=by
 unfold ibody at h
 split at h
 · exact h.elim
 · rename_i fn hf
   split at h
   · exact h.elim
   · rename_i c hb
     refine calls_of_wp hf hb (wp_mono (icode_sound hc hd c h (startER fn args) hw) ?_)
     rintro x a w' ⟨ix,e,τ,rfl,hq,he,hl,hfr⟩
     have key:iret P fn Q e τ→a.defers=[]∧∃ v,(results fn a.tmps).run P w'=.ok v w'∧CP Q σ w (.returned v) w':=by
       intro hr
       refine ⟨he.defers,?_⟩
       obtain ⟨vs,hk,hrun⟩:=results_run he hl hr
       refine ⟨_,hrun,_,τ,rfl,?_,hl,hfr⟩
       cases vs with
       | nil => exact hk
       | cons x xs =>
         cases xs with
         | nil => exact hk
         | cons y ys => rw [dif_neg (by simp)]; exact hk
     cases ix with
     | normal => exact key hq
     | exit i => exact hq.elim
     | ret => exact key hq
theorem ICall.sound {P:Program} {anns:FuncId→Ann} {base:CallR} (hB:HC P base) (hd:∀ call,HC P call→DrawSound P call):HC P (ICall P anns base):=by
 intro f args Q σ w h hw
 refine h (fun f args Q σ => ∀ w,PH.le σ w→Calls P f args w (CP Q σ w)) ?_ ?_ w hw
 · intro f args Q σ h w hw
   exact hB _ _ _ _ _ h hw
 · intro f args Q σ hb w hw
   have hc:HC P (fun f args Q σ => ∀ w,PH.le σ w→Calls P f args w (CP Q σ w)):=fun f args Q σ w h hw => h w hw
   exact calls_of_ibody hc (hd _ hc) hb hw
def iloopS {L:Type} (S:(L→PH→Prop)→L→PH→Prop) (x:L) (σ:PH):Prop:=∀ R:L→PH→Prop,(∀ y τ,S R y τ→R y τ)→R x σ
theorem iloop_eq {L:Type} (mk:L→Env) (inj:∀ x y,mk x=mk y→x=y) (body:(IX→Env→PH→Prop)→Env→PH→Prop) (cut:Env→Env) (Q:IX→Env→PH→Prop)
   (S:(L→PH→Prop)→L→PH→Prop) (h:∀ (R:Env→PH→Prop) x σ,body (loopK cut R Q) (mk x) σ=S (fun y τ => R (mk y) τ) x σ) (x:L) (σ:PH) :
   iloop body cut Q (mk x) σ=iloopS S x σ:=by
 refine propext ⟨fun hd R hR => ?_,fun hs R hR => ?_⟩
 · refine hd (fun e σ => ∀ x,e=mk x→R x σ) ?_ x rfl
   rintro e τ hb y rfl
   refine hR y τ ?_
   rw [h] at hb
   have e1:(fun (y:L) (τ:PH) => ∀ x,mk y=mk x→R x τ)=R:=by
     funext y τ
     exact propext ⟨fun k => k y rfl,fun k z hz => inj _ _ hz ▸ k⟩
   rw [e1] at hb
   exact hb
 · refine hs (fun y τ => R (mk y) τ) ?_
   intro y τ hy
   refine hR _ _ ?_
   rw [h]; exact hy
def Fin' (σ:PH):Prop:=∃ N,∀ b,N≤b→σ b=none
theorem Fin'.of_le {σ:PH} {w:World} (h:σ.le w):Fin' σ:=⟨w.heap.size,fun _ hb => h.fresh hb⟩
theorem Fin'.set {σ:PH} (h:Fin' σ) (b:Nat) (o:Obj):Fin' (σ.set b o):=by
 obtain ⟨N,h⟩:=h
 refine ⟨max N (b + 1),fun c hc => ?_⟩
 have h1:N≤c:=Nat.le_trans (Nat.le_max_left _ _) hc
 have h2:b + 1≤c:=Nat.le_trans (Nat.le_max_right _ _) hc
 unfold PH.set
 rw [if_neg (by omega)]
 exact h c h1
theorem setCell_none {σ:PH} {a:Addr} {v:Value} {b:Nat}:(σ.setCell a v) b=none ↔ σ b=none:=by
 unfold PH.setCell
 by_cases e:b=a.block
 · rw [if_pos e]; cases σ b <;> simp
 · rw [if_neg e]
theorem Fin'.setCell {σ:PH} (h:Fin' σ) (a:Addr) (v:Value):Fin' (σ.setCell a v):=by
 obtain ⟨N,h⟩:=h
 exact ⟨N,fun c hc => setCell_none.2 (h c hc)⟩
theorem Fin'.empty:Fin' (fun _ => none):=⟨0,fun _ _ => rfl⟩
theorem Fin'.fresh {σ:PH} (h:Fin' σ) (l:List Nat):∃ b,σ b=none∧b ∉ l:=by
 obtain ⟨N,h⟩:=h
 have:∃ M,∀ x ∈ l,x < M:=by
   induction l with
   | nil => exact ⟨0,fun _ h => by cases h⟩
   | cons x xs ih =>
     obtain ⟨M,hM⟩:=ih
     refine ⟨max M (x + 1),fun y hy => ?_⟩
     cases hy with
     | head => exact Nat.lt_of_lt_of_le (Nat.lt_succ_self _) (Nat.le_max_right _ _)
     | tail _ hm => exact Nat.lt_of_lt_of_le (hM y hm) (Nat.le_max_left _ _)
 obtain ⟨M,hM⟩:=this
 refine ⟨max N M,h _ (Nat.le_max_left _ _),fun hm => ?_⟩
 have:=hM _ hm
 have:=Nat.le_max_right N M
 omega
def same (a b:Addr):Prop:=a.block=b.block∧a.off=b.off
theorem cell?_setCell_ne {σ:PH} {a b:Addr} {v:Value} (h:¬ same a b):(σ.setCell a v).cell? b=σ.cell? b:=by
 unfold PH.cell? PH.setCell
 by_cases e:b.block=a.block
 · rw [if_pos e]
   cases σ b.block with
   | none => rfl
   | some o =>
     cases o <;> try rfl
     rename_i c t f
     simp only [Option.map_some,objSet]
     by_cases hb:b.spot.isSome=true
     · rw [if_pos hb,if_pos hb]
     · rw [if_neg hb,if_neg hb]
       by_cases ha:a.spot.isSome=true
       · rw [if_pos ha]
       · rw [if_neg ha,Array.getElem?_setIfInBounds_ne]
         exact fun h' => h ⟨e.symm,h'⟩
 · rw [if_neg e]
theorem cell?_dom {σ:PH} {a:Addr} {v:Value} (h:σ.cell? a=some v):σ a.block ≠ none:=by
 intro e; unfold PH.cell? at h; rw [e] at h; cases h
theorem cell?_set_ne {σ:PH} {a:Addr} {b:Nat} {o:Obj} (h:a.block ≠ b):(σ.set b o).cell? a=σ.cell? a:=by
 unfold PH.cell? PH.set; rw [if_neg h]
theorem froz_set_ne {σ:PH} {a:Addr} {b:Nat} {o:Obj} (h:a.block ≠ b):(σ.set b o).froz a=σ.froz a:=by
 unfold PH.froz PH.set; rw [if_neg h]
theorem set_setCell {σ:PH} {a:Addr} {v:Value} {b:Nat} {o:Obj} (h:a.block ≠ b):(σ.set b o).setCell a v=(σ.setCell a v).set b o:=by
 funext x
 unfold PH.setCell PH.set
 by_cases e:x=b
 · subst e; rw [if_neg (Ne.symm h),if_pos rfl,if_pos rfl]
 · by_cases e':x=a.block
   · subst e'; rw [if_pos rfl,if_neg e,if_neg e]; exact (if_pos rfl).symm
   · rw [if_neg e',if_neg e,if_neg e]; exact (if_neg e').symm
theorem set_comm {σ:PH} {b c:Nat} {o o':Obj} (h:b ≠ c):(σ.set b o).set c o'=(σ.set c o').set b o:=by
 funext x
 unfold PH.set
 by_cases e:x=c
 · subst e; rw [if_pos rfl,if_neg (Ne.symm h),if_pos rfl]
 · rw [if_neg e]
   by_cases e':x=b
   · rw [if_pos e',if_pos e']
   · rw [if_neg e',if_neg e',if_neg e]
theorem setCell_comm {σ:PH} {a b:Addr} {u v:Value} (h:¬ same a b):(σ.setCell a u).setCell b v=(σ.setCell b v).setCell a u:=by
 funext x
 unfold PH.setCell
 by_cases e:x=b.block
 · rw [if_pos e,if_pos e]
   by_cases e':x=a.block
   · rw [if_pos e',if_pos e']
     cases σ x with
     | none => rfl
     | some o =>
       simp only [Option.map_some,Option.some.injEq]
       cases o <;> try rfl
       rename_i c t f
       simp only [objSet,Obj.cells.injEq,and_true]
       by_cases ha:a.spot.isSome=true
       · simp only [if_pos ha]
       · by_cases hb:b.spot.isSome=true
         · simp only [if_pos hb]
         · simp only [if_neg ha,if_neg hb]
           exact Array.setIfInBounds_comm _ _ (fun h' => h ⟨e'.symm.trans e,h'⟩)
   · rw [if_neg e',if_neg e']
 · rw [if_neg e,if_neg e]
def irunF {α:Type} (P:Program) (R W:Addr→Prop):Sem α→(α→PH→Prop)→PH→Prop
 | .pure a,Q,σ => Q a σ
 | .load _ a k,Q,σ => R a∧∃ v,σ.cell? a=some v∧irunF P R W (k v) Q σ
 | .store _ a v k,Q,σ => W a∧plainCell v∧(∃ u,σ.cell? a=some u)∧σ.froz a=some false∧irunF P R W k Q (σ.setCell a v)
 | .new o k,Q,σ => ∀ b,σ b=none→irunF P R W (k b) Q (σ.set b o)
 | .choose q k,Q,σ => match q.forced with | true => irunF P R W (k 0) Q σ | false => ∀ t,irunF P R W (k (q.cut t)) Q σ
 | .program k,Q,σ => irunF P R W (k P) Q σ
 | .mark _ k,Q,σ => irunF P R W k Q σ
 | _,_,_ => False
theorem irunF_mono {α:Type} {P:Program} {R W R' W':Addr→Prop} (hR:∀ a,R a→R' a) (hW:∀ a,W a→W' a):∀ (s:Sem α) {Q Q':α→PH→Prop} {σ:PH},irunF P R W s Q σ→(∀ v τ,Q v τ→Q' v τ)→irunF P R' W' s Q' σ:=by
 intro s
 induction s with
 | pure a => intro Q Q' σ h k; exact k _ _ h
 | load m a k ih => rintro Q Q' σ ⟨h0,v,hc,h⟩ hk; exact ⟨hR _ h0,v,hc,ih v h hk⟩
 | store m a v k ih => rintro Q Q' σ ⟨h0,h1,h2,h3,h⟩ hk; exact ⟨hW _ h0,h1,h2,h3,ih h hk⟩
 | new o k ih => intro Q Q' σ h hk b hb; exact ih b (h b hb) hk
 | choose q k ih =>
   intro Q Q' σ h hk
   simp only [irunF] at h ⊢
   cases hf:q.forced with
   | true => rw [hf] at h; exact ih 0 h hk
   | false => rw [hf] at h; exact fun t => ih _ (h t) hk
 | program k ih => intro Q Q' σ h hk; exact ih P h hk
 | mark m k ih => intro Q Q' σ h hk; exact ih h hk
 | shape r k ih => intro Q Q' σ h hk; exact h.elim
 | freeze a n k ih => intro Q Q' σ h hk; exact h.elim
 | frozen r k ih => intro Q Q' σ h hk; exact h.elim
 | getObj r k ih => intro Q Q' σ h hk; exact h.elim
 | setObj r o k ih => intro Q Q' σ h hk; exact h.elim
 | sys c k ih => intro Q Q' σ h hk; exact h.elim
 | halt h => intro Q Q' σ h hk; exact h.elim
theorem irunF_irun {α:Type} {P:Program} {R W:Addr→Prop}:∀ (s:Sem α) {Q:α→PH→Prop} {σ:PH},irunF P R W s Q σ→irun P s Q σ:=by
 intro s
 induction s with
 | pure a => intro Q σ h; exact h
 | load m a k ih => rintro Q σ ⟨h0,v,hc,h⟩; exact ⟨v,hc,ih v h⟩
 | store m a v k ih =>
   rintro Q σ ⟨h0,h1,h2,h3,h⟩
   cases v
   case agg => exact h1.elim
   case tuple => exact h1.elim
   all_goals exact ⟨h2,h3,ih h⟩
 | new o k ih => intro Q σ h b hb; exact ih b (h b hb)
 | choose q k ih =>
   intro Q σ h
   simp only [irunF,irun] at h ⊢
   cases hf:q.forced with
   | true => rw [hf] at h; exact ih 0 h
   | false => rw [hf] at h; exact fun t => ih _ (h t)
 | program k ih => intro Q σ h; exact ih P h
 | mark m k ih => intro Q σ h; exact ih h
 | shape r k ih => intro Q σ h; exact h.elim
 | freeze a n k ih => intro Q σ h; exact h.elim
 | frozen r k ih => intro Q σ h; exact h.elim
 | getObj r k ih => intro Q σ h; exact h.elim
 | setObj r o k ih => intro Q σ h; exact h.elim
 | sys c k ih => intro Q σ h; exact h.elim
 | halt h => intro Q σ h; exact h.elim
theorem irunF_bind {α β:Type} {P:Program} {R W:Addr→Prop}:∀ (s:Sem α) (f:α→Sem β) {Q:β→PH→Prop} {σ:PH},irunF P R W s (fun v τ => irunF P R W (f v) Q τ) σ→irunF P R W (s >>= f) Q σ:=by
 intro s f
 show ∀ {Q:β→PH→Prop} {σ:PH},irunF P R W s (fun v τ => irunF P R W (f v) Q τ) σ→irunF P R W (s.bind f) Q σ
 induction s with
 | pure a => intro Q σ h; exact h
 | load m a k ih => rintro Q σ ⟨h0,v,hc,h⟩; exact ⟨h0,v,hc,ih v h⟩
 | store m a v k ih => rintro Q σ ⟨h0,h1,h2,h3,h⟩; exact ⟨h0,h1,h2,h3,ih h⟩
 | new o k ih => intro Q σ h b hb; exact ih b (h b hb)
 | choose q k ih =>
   intro Q σ h
   simp only [irunF,Sem.bind] at h ⊢
   cases hf:q.forced with
   | true => rw [hf] at h; exact ih 0 h
   | false => rw [hf] at h; exact fun t => ih _ (h t)
 | program k ih => intro Q σ h; exact ih P h
 | mark m k ih => intro Q σ h; exact ih h
 | shape r k ih => intro Q σ h; exact h.elim
 | freeze a n k ih => intro Q σ h; exact h.elim
 | frozen r k ih => intro Q σ h; exact h.elim
 | getObj r k ih => intro Q σ h; exact h.elim
 | setObj r o k ih => intro Q σ h; exact h.elim
 | sys c k ih => intro Q σ h; exact h.elim
 | halt h => intro Q σ h; exact h.elim
theorem irunF_keep {α:Type} {P:Program} {R W:Addr→Prop} {bs:List Nat} (hW:∀ a,W a→a.block ∉ bs):∀ (s:Sem α) {Q:α→PH→Prop} {σ:PH},irunF P R W s Q σ→Fin' σ→(∀ b ∈ bs,σ b ≠ none) →
   irunF P R W s (fun v τ => Q v τ∧Fin' τ∧∀ b ∈ bs,τ b=σ b) σ:=by
 intro s
 induction s with
 | pure a => intro Q σ h hf hb; exact ⟨h,hf,fun _ _ => rfl⟩
 | load m a k ih => rintro Q σ ⟨h0,v,hc,h⟩ hf hb; exact ⟨h0,v,hc,ih v h hf hb⟩
 | store m a v k ih =>
   rintro Q σ ⟨h0,h1,h2,h3,h⟩ hf hb
   have e:∀ b ∈ bs,(σ.setCell a v) b=σ b:=fun b hm => by
     unfold PH.setCell; rw [if_neg]; intro e; exact hW a h0 (e ▸ hm)
   exact ⟨h0,h1,h2,h3,irunF_mono (fun _ h => h) (fun _ h => h) _ (ih h (hf.setCell _ _) (fun b hm => by rw [e b hm]; exact hb b hm)) fun u τ ⟨q,f,k⟩ => ⟨q,f,fun b hm => (k b hm).trans (e b hm)⟩⟩
 | new o k ih =>
   intro Q σ h hf hb c hc
   have e:∀ b ∈ bs,(σ.set c o) b=σ b:=fun b hm => by
     unfold PH.set; rw [if_neg]; intro e; subst e; exact hb b hm hc
   exact irunF_mono (fun _ h => h) (fun _ h => h) _ (ih c (h c hc) (hf.set _ _) (fun b hm => by rw [e b hm]; exact hb b hm)) fun u τ ⟨q,f,k⟩ => ⟨q,f,fun b hm => (k b hm).trans (e b hm)⟩
 | choose q k ih =>
   intro Q σ h hf' hb
   simp only [irunF] at h ⊢
   cases hf:q.forced with
   | true => rw [hf] at h; exact ih 0 h hf' hb
   | false => rw [hf] at h; exact fun t => ih _ (h t) hf' hb
 | program k ih => intro Q σ h hf hb; exact ih P h hf hb
 | mark m k ih => intro Q σ h hf hb; exact ih h hf hb
 | shape r k ih => intro Q σ h; exact h.elim
 | freeze a n k ih => intro Q σ h; exact h.elim
 | frozen r k ih => intro Q σ h; exact h.elim
 | getObj r k ih => intro Q σ h; exact h.elim
 | setObj r o k ih => intro Q σ h; exact h.elim
 | sys c k ih => intro Q σ h; exact h.elim
 | halt h => intro Q σ h; exact h.elim
theorem irunF_some {α:Type} {P:Program} {R W:Addr→Prop} {bs:List Nat} (hW:∀ a,W a→a.block ∉ bs):∀ (s:Sem α) {Q:α→PH→Prop} {σ:PH},irunF P R W s Q σ→Fin' σ →
   ∃ v τ,Q v τ∧Fin' τ∧∀ b ∈ bs,τ b=σ b:=by
 intro s
 induction s with
 | pure a => intro Q σ h hf; exact ⟨a,σ,h,hf,fun _ _ => rfl⟩
 | load m a k ih => rintro Q σ ⟨h0,v,hc,h⟩ hf; exact ih v h hf
 | store m a v k ih =>
   rintro Q σ ⟨h0,h1,h2,h3,h⟩ hf
   obtain ⟨u,τ,q,f,k⟩:=ih h (hf.setCell _ _)
   refine ⟨u,τ,q,f,fun b hm => (k b hm).trans ?_⟩
   unfold PH.setCell; rw [if_neg]; intro e; exact hW a h0 (e ▸ hm)
 | new o k ih =>
   intro Q σ h hf
   obtain ⟨c,hc,hn⟩:=hf.fresh bs
   obtain ⟨u,τ,q,f,k⟩:=ih c (h c hc) (hf.set _ _)
   refine ⟨u,τ,q,f,fun b hm => (k b hm).trans ?_⟩
   unfold PH.set; rw [if_neg]; intro e; subst e; exact hn hm
 | choose q k ih =>
   intro Q σ h hf'
   simp only [irunF] at h
   cases hf:q.forced with
   | true => rw [hf] at h; exact ih 0 h hf'
   | false => rw [hf] at h; exact ih _ (h 0) hf'
 | program k ih => intro Q σ h hf; exact ih P h hf
 | mark m k ih => intro Q σ h hf; exact ih h hf
 | shape r k ih => intro Q σ h; exact h.elim
 | freeze a n k ih => intro Q σ h; exact h.elim
 | frozen r k ih => intro Q σ h; exact h.elim
 | getObj r k ih => intro Q σ h; exact h.elim
 | setObj r o k ih => intro Q σ h; exact h.elim
 | sys c k ih => intro Q σ h; exact h.elim
 | halt h => intro Q σ h; exact h.elim
theorem irun_some {α:Type} {P:Program}:∀ (s:Sem α) {Q:α→PH→Prop} {σ:PH},irun P s Q σ→Fin' σ→∃ v τ,Q v τ:=by
 intro s
 induction s with
 | pure a => intro Q σ h hf; exact ⟨a,σ,h⟩
 | load m a k ih => rintro Q σ ⟨v,hc,h⟩ hf; exact ih v h hf
 | store m a v k ih =>
   intro Q σ h hf
   cases v
   case agg => exact h.elim
   case tuple => exact h.elim
   all_goals exact ih h.2.2 (hf.setCell _ _)
 | new o k ih =>
   intro Q σ h hf
   obtain ⟨c,hc,hn⟩:=hf.fresh []
   exact ih c (h c hc) (hf.set _ _)
 | choose q k ih =>
   intro Q σ h hf'
   simp only [irun] at h
   cases hf:q.forced with
   | true => rw [hf] at h; exact ih 0 h hf'
   | false => rw [hf] at h; exact ih _ (h 0) hf'
 | program k ih => intro Q σ h hf; exact ih P h hf
 | mark m k ih => intro Q σ h hf; exact ih h hf
 | shape r k ih => rintro Q σ ⟨v,hc,h⟩ hf; exact ih v h hf
 | freeze a n k ih => intro Q σ h; exact h.elim
 | frozen r k ih => rintro Q σ ⟨v,hc,h⟩ hf; exact ih v h hf
 | getObj r k ih => rintro Q σ ⟨v,hc,h⟩ hf; exact ih v h hf
 | setObj r o k ih => rintro Q σ ⟨hc,h⟩ hf; exact ih h (hf.set _ _)
 | sys c k ih => intro Q σ h; exact h.elim
 | halt h => intro Q σ h; exact h.elim
theorem irunF_all {α ι:Type} [hι:Nonempty ι] {P:Program} {R W:Addr→Prop}:∀ (s:Sem α) {Q:ι→α→PH→Prop} {σ:PH},(∀ i,irunF P R W s (Q i) σ)→irunF P R W s (fun v τ => ∀ i,Q i v τ) σ:=by
 intro s
 obtain ⟨i0⟩:=hι
 induction s with
 | pure a => intro Q σ h; exact h
 | load m a k ih =>
   intro Q σ h
   obtain ⟨h0,v,hc,_⟩:=h i0
   refine ⟨h0,v,hc,ih v fun i => ?_⟩
   obtain ⟨_,v',hc',h'⟩:=h i
   rw [hc] at hc'; cases hc'; exact h'
 | store m a v k ih => intro Q σ h; exact ⟨(h i0).1,(h i0).2.1,(h i0).2.2.1,(h i0).2.2.2.1,ih fun i => (h i).2.2.2.2⟩
 | new o k ih => intro Q σ h b hb; exact ih b fun i => h i b hb
 | choose q k ih =>
   intro Q σ h
   simp only [irunF] at h ⊢
   cases hf:q.forced with
   | true => rw [hf] at h; exact ih 0 h
   | false => rw [hf] at h; exact fun t => ih _ fun i => h i t
 | program k ih => intro Q σ h; exact ih P h
 | mark m k ih => intro Q σ h; exact ih h
 | shape r k ih => intro Q σ h; exact (h i0).elim
 | freeze a n k ih => intro Q σ h; exact (h i0).elim
 | frozen r k ih => intro Q σ h; exact (h i0).elim
 | getObj r k ih => intro Q σ h; exact (h i0).elim
 | setObj r o k ih => intro Q σ h; exact (h i0).elim
 | sys c k ih => intro Q σ h; exact (h i0).elim
 | halt h => intro Q σ h; exact (h i0).elim
theorem irun_all {α ι:Type} [hι:Nonempty ι] {P:Program}:∀ (s:Sem α) {Q:ι→α→PH→Prop} {σ:PH},(∀ i,irun P s (Q i) σ)→irun P s (fun v τ => ∀ i,Q i v τ) σ:=by
 intro s
 obtain ⟨i0⟩:=hι
 induction s with
 | pure a => intro Q σ h; exact h
 | load m a k ih =>
   intro Q σ h
   obtain ⟨v,hc,_⟩:=h i0
   refine ⟨v,hc,ih v fun i => ?_⟩
   obtain ⟨v',hc',h'⟩:=h i
   rw [hc] at hc'; cases hc'; exact h'
 | store m a v k ih =>
   intro Q σ h
   cases v
   case agg => exact (h i0).elim
   case tuple => exact (h i0).elim
   all_goals exact ⟨(h i0).1,(h i0).2.1,ih fun i => (h i).2.2⟩
 | new o k ih => intro Q σ h b hb; exact ih b fun i => h i b hb
 | choose q k ih =>
   intro Q σ h
   simp only [irun] at h ⊢
   cases hf:q.forced with
   | true => rw [hf] at h; exact ih 0 h
   | false => rw [hf] at h; exact fun t => ih _ fun i => h i t
 | program k ih => intro Q σ h; exact ih P h
 | mark m k ih => intro Q σ h; exact ih h
 | shape r k ih =>
   intro Q σ h
   obtain ⟨v,hc,_⟩:=h i0
   refine ⟨v,hc,ih v fun i => ?_⟩
   obtain ⟨v',hc',h'⟩:=h i
   rw [hc] at hc'; cases hc'; exact h'
 | freeze a n k ih => intro Q σ h; exact (h i0).elim
 | frozen r k ih =>
   intro Q σ h
   obtain ⟨v,hc,_⟩:=h i0
   refine ⟨v,hc,ih v fun i => ?_⟩
   obtain ⟨v',hc',h'⟩:=h i
   rw [hc] at hc'; cases hc'; exact h'
 | getObj r k ih =>
   intro Q σ h
   obtain ⟨v,hc,_⟩:=h i0
   refine ⟨v,hc,ih v fun i => ?_⟩
   obtain ⟨v',hc',h'⟩:=h i
   rw [hc] at hc'; cases hc'; exact h'
 | setObj r o k ih => intro Q σ h; exact ⟨(h i0).1,ih fun i => (h i).2⟩
 | sys c k ih => intro Q σ h; exact (h i0).elim
 | halt h => intro Q σ h; exact (h i0).elim
theorem irunF_load {α:Type} {P:Program} {R W:Addr→Prop} {a:Addr} {u:Value} (hW:∀ b,W b→¬ same b a):∀ (s:Sem α) {Q:α→PH→Prop} {σ:PH},irunF P R W s Q σ→σ.cell? a=some u →
   irunF P R W s (fun v τ => Q v τ∧τ.cell? a=some u) σ:=by
 intro s
 induction s with
 | pure a => intro Q σ h hc; exact ⟨h,hc⟩
 | load m b k ih => rintro Q σ ⟨h0,v,hc',h⟩ hc; exact ⟨h0,v,hc',ih v h hc⟩
 | store m b v k ih =>
   rintro Q σ ⟨h0,h1,h2,h3,h⟩ hc
   exact ⟨h0,h1,h2,h3,ih h (by rw [cell?_setCell_ne (hW b h0)]; exact hc)⟩
 | new o k ih =>
   intro Q σ h hc b hb
   refine ih b (h b hb) ?_
   rw [cell?_set_ne]; exact hc
   intro e; subst e; exact cell?_dom hc hb
 | choose q k ih =>
   intro Q σ h hc
   simp only [irunF] at h ⊢
   cases hf:q.forced with
   | true => rw [hf] at h; exact ih 0 h hc
   | false => rw [hf] at h; exact fun t => ih _ (h t) hc
 | program k ih => intro Q σ h hc; exact ih P h hc
 | mark m k ih => intro Q σ h hc; exact ih h hc
 | shape r k ih => intro Q σ h; exact h.elim
 | freeze a n k ih => intro Q σ h; exact h.elim
 | frozen r k ih => intro Q σ h; exact h.elim
 | getObj r k ih => intro Q σ h; exact h.elim
 | setObj r o k ih => intro Q σ h; exact h.elim
 | sys c k ih => intro Q σ h; exact h.elim
 | halt h => intro Q σ h; exact h.elim
theorem irunF_store {α:Type} {P:Program} {R W:Addr→Prop} {a:Addr} {u:Value} (hR:∀ b,R b→¬ same a b) (hW:∀ b,W b→¬ same b a):∀ (s:Sem α) {Q:α→PH→Prop} {σ:PH},
   irunF P R W s Q (σ.setCell a u)→(∃ x,σ.cell? a=some x)→σ.froz a=some false →
   irunF P R W s (fun v τ => (∃ x,τ.cell? a=some x)∧τ.froz a=some false∧Q v (τ.setCell a u)) σ:=by
 intro s
 induction s with
 | pure a => intro Q σ h hc hf; exact ⟨hc,hf,h⟩
 | load m b k ih =>
   rintro Q σ ⟨h0,v,hc',h⟩ hc hf
   rw [cell?_setCell_ne (hR b h0)] at hc'
   exact ⟨h0,v,hc',ih v h hc hf⟩
 | store m b v k ih =>
   rintro Q σ ⟨h0,h1,⟨x,h2⟩,h3,h⟩ ⟨y,hc⟩ hf
   rw [cell?_setCell_ne (fun e => hW b h0 ⟨e.1.symm,e.2.symm⟩)] at h2
   rw [setCell_froz] at h3
   rw [setCell_comm (fun e => hW b h0 ⟨e.1.symm,e.2.symm⟩)] at h
   exact ⟨h0,h1,⟨x,h2⟩,h3,ih h ⟨y,by rw [cell?_setCell_ne (hW b h0)]; exact hc⟩ (by rw [setCell_froz]; exact hf)⟩
 | new o k ih =>
   rintro Q σ h ⟨y,hc⟩ hf b hb
   have hne:a.block ≠ b:=by intro e; subst e; exact cell?_dom hc hb
   have h':=h b (setCell_none.2 hb)
   rw [← set_setCell hne] at h'
   exact ih b h' ⟨y,by rw [cell?_set_ne hne]; exact hc⟩ (by rw [froz_set_ne hne]; exact hf)
 | choose q k ih =>
   intro Q σ h hc hf'
   simp only [irunF] at h ⊢
   cases hf:q.forced with
   | true => rw [hf] at h; exact ih 0 h hc hf'
   | false => rw [hf] at h; exact fun t => ih _ (h t) hc hf'
 | program k ih => intro Q σ h hc hf; exact ih P h hc hf
 | mark m k ih => intro Q σ h hc hf; exact ih h hc hf
 | shape r k ih => intro Q σ h; exact h.elim
 | freeze a n k ih => intro Q σ h; exact h.elim
 | frozen r k ih => intro Q σ h; exact h.elim
 | getObj r k ih => intro Q σ h; exact h.elim
 | setObj r o k ih => intro Q σ h; exact h.elim
 | sys c k ih => intro Q σ h; exact h.elim
 | halt h => intro Q σ h; exact h.elim
theorem irunF_new {α:Type} {P:Program} {R W:Addr→Prop} {ob:Obj}:∀ (s:Sem α) {Q:Nat→α→PH→Prop} {σ:PH},Fin' σ →
   (∀ b,σ b=none→irunF P R W s (Q b) (σ.set b ob))→irunF P R W s (fun v τ => ∀ b,τ b=none→Q b v (τ.set b ob)) σ:=by
 intro s
 induction s with
 | pure a => intro Q σ hf h; exact h
 | load m a k ih =>
   intro Q σ hf h
   obtain ⟨b0,hb0,hn⟩:=hf.fresh [a.block]
   have hne:a.block ≠ b0:=fun e => hn (e ▸ List.mem_cons_self)
   obtain ⟨h0,v,hc,_⟩:=h b0 hb0
   rw [cell?_set_ne hne] at hc
   refine ⟨h0,v,hc,ih v hf fun b hb => ?_⟩
   obtain ⟨_,v',hc',h'⟩:=h b hb
   have hne':a.block ≠ b:=by intro e; subst e; exact cell?_dom hc hb
   rw [cell?_set_ne hne',hc] at hc'; cases hc'; exact h'
 | store m a v k ih =>
   intro Q σ hf h
   obtain ⟨b0,hb0,hn⟩:=hf.fresh [a.block]
   have hne:a.block ≠ b0:=fun e => hn (e ▸ List.mem_cons_self)
   obtain ⟨h0,h1,⟨x,h2⟩,h3,_⟩:=h b0 hb0
   rw [cell?_set_ne hne] at h2
   rw [froz_set_ne hne] at h3
   refine ⟨h0,h1,⟨x,h2⟩,h3,ih (hf.setCell _ _) fun b hb => ?_⟩
   have hb:=setCell_none.1 hb
   have hne':a.block ≠ b:=by intro e; subst e; exact cell?_dom h2 hb
   have h':=(h b hb).2.2.2.2
   rw [set_setCell hne'] at h'
   exact h'
 | new o k ih =>
   intro Q σ hf h b1 hb1
   refine ih b1 (hf.set _ _) fun b hb => ?_
   have hne:b ≠ b1:=by intro e; subst e; simp [PH.set] at hb
   have hb':σ b=none:=by unfold PH.set at hb; rw [if_neg hne] at hb; exact hb
   have h':=h b hb' b1 (by unfold PH.set; rw [if_neg (Ne.symm hne)]; exact hb1)
   rw [set_comm hne] at h'
   exact h'
 | choose q k ih =>
   intro Q σ hf' h
   simp only [irunF] at h ⊢
   cases hf:q.forced with
   | true => rw [hf] at h; exact ih 0 hf' h
   | false => rw [hf] at h; exact fun t => ih _ hf' fun b hb => h b hb t
 | program k ih => intro Q σ hf h; exact ih P hf h
 | mark m k ih => intro Q σ hf h; exact ih hf h
 | shape r k ih => intro Q σ hf h; obtain ⟨b,hb,_⟩:=hf.fresh []; exact (h b hb).elim
 | freeze a n k ih => intro Q σ hf h; obtain ⟨b,hb,_⟩:=hf.fresh []; exact (h b hb).elim
 | frozen r k ih => intro Q σ hf h; obtain ⟨b,hb,_⟩:=hf.fresh []; exact (h b hb).elim
 | getObj r k ih => intro Q σ hf h; obtain ⟨b,hb,_⟩:=hf.fresh []; exact (h b hb).elim
 | setObj r o k ih => intro Q σ hf h; obtain ⟨b,hb,_⟩:=hf.fresh []; exact (h b hb).elim
 | sys c k ih => intro Q σ hf h; obtain ⟨b,hb,_⟩:=hf.fresh []; exact (h b hb).elim
 | halt x => intro Q σ hf h; obtain ⟨b,hb,_⟩:=hf.fresh []; exact (h b hb).elim
theorem swapFF {α β:Type} {P:Program} {R W R' W':Addr→Prop} (h1:∀ a b,W a→R' b→¬ same a b) (h2:∀ a b,W' a→R b→¬ same a b) (h3:∀ a b,W' a→W b→¬ same a b) (o:Sem β) :
   ∀ (p:Sem α) {K:α→β→PH→Prop} {σ:PH},Fin' σ→irunF P R W p (fun x τ => irunF P R' W' o (fun y υ => K x y υ) τ) σ→irunF P R' W' o (fun y τ => irunF P R W p (fun x υ => K x y υ) τ) σ:=by
 intro p
 induction p with
 | pure a => intro K σ hf h; exact h
 | load m a k ih =>
   rintro K σ hf ⟨h0,v,hc,h⟩
   refine irunF_mono (fun _ h => h) (fun _ h => h) _ (irunF_load (fun b hb => h2 b a hb h0) o (ih v hf h) hc) ?_
   rintro y τ ⟨q,hc'⟩
   exact ⟨h0,v,hc',q⟩
 | store m a v k ih =>
   rintro K σ hf ⟨h0,hp,hc,hz,h⟩
   refine irunF_mono (fun _ h => h) (fun _ h => h) _ (irunF_store (fun b hb => h1 a b h0 hb) (fun b hb => h3 b a hb h0) o (ih (hf.setCell _ _) h) hc hz) ?_
   rintro y τ ⟨hc',hz',q⟩
   exact ⟨h0,hp,hc',hz',q⟩
 | new ob k ih =>
   intro K σ hf h
   exact irunF_new o hf fun b hb => ih b (hf.set _ _) (h b hb)
 | choose q k ih =>
   intro K σ hf' h
   simp only [irunF] at h ⊢
   cases hf:q.forced with
   | true => rw [hf] at h; exact ih 0 hf' h
   | false => rw [hf] at h; exact irunF_all o fun t => ih _ hf' (h t)
 | program k ih => intro K σ hf h; exact ih P hf h
 | mark m k ih => intro K σ hf h; exact ih hf h
 | shape r k ih => intro K σ hf h; exact h.elim
 | freeze a n k ih => intro K σ hf h; exact h.elim
 | frozen r k ih => intro K σ hf h; exact h.elim
 | getObj r k ih => intro K σ hf h; exact h.elim
 | setObj r o k ih => intro K σ hf h; exact h.elim
 | sys c k ih => intro K σ hf h; exact h.elim
 | halt h => intro K σ hf h; exact h.elim
theorem swapPF {α β:Type} {P:Program} {R W:Addr→Prop} (o:Sem β) {σ:PH} :
   ∀ (p:Sem α) {K:α→β→PH→Prop} {η:PH},Fin' η→irun P p (fun x _ => irunF P R W o (fun y υ => K x y υ) σ) η→irunF P R W o (fun y υ => irun P p (fun x _ => K x y υ) η) σ:=by
 intro p
 have mono:=fun {Q Q':β→PH→Prop} (hk:∀ v τ,Q v τ→Q' v τ) (h:irunF P R W o Q σ) => irunF_mono (fun _ h => h) (fun _ h => h) o h hk
 induction p with
 | pure a => intro K η hf h; exact h
 | load m a k ih => rintro K η hf ⟨v,hc,h⟩; exact mono (fun _ _ q => ⟨v,hc,q⟩) (ih v hf h)
 | store m a v k ih =>
   intro K η hf h
   cases v
   case agg => exact h.elim
   case tuple => exact h.elim
   all_goals exact mono (fun _ _ q => ⟨h.1,h.2.1,q⟩) (ih (hf.setCell _ _) h.2.2)
 | new ob k ih =>
   intro K η hf h
   obtain ⟨b0,hb0,_⟩:=hf.fresh []
   haveI:Nonempty { b // η b=none }:=⟨⟨b0,hb0⟩⟩
   refine mono ?_ (irunF_all (ι:={ b // η b=none }) o fun b => ih b.1 (hf.set _ _) (h b.1 b.2))
   intro y υ q b hb
   exact q ⟨b,hb⟩
 | choose q k ih =>
   intro K η hf' h
   simp only [irun] at h ⊢
   cases hf:q.forced with
   | true => rw [hf] at h; exact ih 0 hf' h
   | false => rw [hf] at h; exact irunF_all o fun t => ih _ hf' (h t)
 | program k ih => intro K η hf h; exact ih P hf h
 | mark m k ih => intro K η hf h; exact ih hf h
 | shape r k ih => rintro K η hf ⟨v,hc,h⟩; exact mono (fun _ _ q => ⟨v,hc,q⟩) (ih v hf h)
 | freeze a n k ih => intro K η hf h; exact h.elim
 | frozen r k ih => rintro K η hf ⟨v,hc,h⟩; exact mono (fun _ _ q => ⟨v,hc,q⟩) (ih v hf h)
 | getObj r k ih => rintro K η hf ⟨v,hc,h⟩; exact mono (fun _ _ q => ⟨v,hc,q⟩) (ih v hf h)
 | setObj r ob k ih => rintro K η hf ⟨hc,h⟩; exact mono (fun _ _ q => ⟨hc,q⟩) (ih (hf.set _ _) h)
 | sys c k ih => intro K η hf h; exact h.elim
 | halt h => intro K η hf h; exact h.elim
theorem swapFP {α β:Type} {P:Program} {R W:Addr→Prop} (o:Sem β) {η:PH} :
   ∀ (p:Sem α) {K:α→β→PH→Prop} {σ:PH},Fin' σ→irunF P R W p (fun x τ => irun P o (fun y _ => K x y τ) η) σ→irun P o (fun y _ => irunF P R W p (fun x τ => K x y τ) σ) η:=by
 intro p
 have mono:=fun {Q Q':β→PH→Prop} (hk:∀ v τ,Q v τ→Q' v τ) (h:irun P o Q η) => irun_mono o h hk
 induction p with
 | pure a => intro K σ hf h; exact h
 | load m a k ih => rintro K σ hf ⟨h0,v,hc,h⟩; exact mono (fun _ _ q => ⟨h0,v,hc,q⟩) (ih v hf h)
 | store m a v k ih => rintro K σ hf ⟨h0,hp,hc,hz,h⟩; exact mono (fun _ _ q => ⟨h0,hp,hc,hz,q⟩) (ih (hf.setCell _ _) h)
 | new ob k ih =>
   intro K σ hf h
   obtain ⟨b0,hb0,_⟩:=hf.fresh []
   haveI:Nonempty { b // σ b=none }:=⟨⟨b0,hb0⟩⟩
   refine mono ?_ (irun_all (ι:={ b // σ b=none }) o fun b => ih b.1 (hf.set _ _) (h b.1 b.2))
   intro y υ q b hb
   exact q ⟨b,hb⟩
 | choose q k ih =>
   intro K σ hf' h
   simp only [irunF] at h ⊢
   cases hf:q.forced with
   | true => rw [hf] at h; exact ih 0 hf' h
   | false => rw [hf] at h; exact irun_all o fun t => ih _ hf' (h t)
 | program k ih => intro K σ hf h; exact ih P hf h
 | mark m k ih => intro K σ hf h; exact ih hf h
 | shape r k ih => intro K σ hf h; exact h.elim
 | freeze a n k ih => intro K σ hf h; exact h.elim
 | frozen r k ih => intro K σ hf h; exact h.elim
 | getObj r k ih => intro K σ hf h; exact h.elim
 | setObj r o k ih => intro K σ hf h; exact h.elim
 | sys c k ih => intro K σ hf h; exact h.elim
 | halt h => intro K σ hf h; exact h.elim
theorem swapPP {α β:Type} {P:Program} (o:Sem β) {η:PH} :
   ∀ (p:Sem α) {K:α→β→Prop} {σ:PH},Fin' σ→irun P p (fun x _ => irun P o (fun y _ => K x y) η) σ→irun P o (fun y _ => irun P p (fun x _ => K x y) σ) η:=by
 intro p
 have mono:=fun {Q Q':β→PH→Prop} (hk:∀ v τ,Q v τ→Q' v τ) (h:irun P o Q η) => irun_mono o h hk
 induction p with
 | pure a => intro K σ hf h; exact h
 | load m a k ih => rintro K σ hf ⟨v,hc,h⟩; exact mono (fun _ _ q => ⟨v,hc,q⟩) (ih v hf h)
 | store m a v k ih =>
   intro K σ hf h
   cases v
   case agg => exact h.elim
   case tuple => exact h.elim
   all_goals exact mono (fun _ _ q => ⟨h.1,h.2.1,q⟩) (ih (hf.setCell _ _) h.2.2)
 | new ob k ih =>
   intro K σ hf h
   obtain ⟨b0,hb0,_⟩:=hf.fresh []
   haveI:Nonempty { b // σ b=none }:=⟨⟨b0,hb0⟩⟩
   refine mono ?_ (irun_all (ι:={ b // σ b=none }) o fun b => ih b.1 (hf.set _ _) (h b.1 b.2))
   intro y υ q b hb
   exact q ⟨b,hb⟩
 | choose q k ih =>
   intro K σ hf' h
   simp only [irun] at h ⊢
   cases hf:q.forced with
   | true => rw [hf] at h; exact ih 0 hf' h
   | false => rw [hf] at h; exact irun_all o fun t => ih _ hf' (h t)
 | program k ih => intro K σ hf h; exact ih P hf h
 | mark m k ih => intro K σ hf h; exact ih hf h
 | shape r k ih => rintro K σ hf ⟨v,hc,h⟩; exact mono (fun _ _ q => ⟨v,hc,q⟩) (ih v hf h)
 | freeze a n k ih => intro K σ hf h; exact h.elim
 | frozen r k ih => rintro K σ hf ⟨v,hc,h⟩; exact mono (fun _ _ q => ⟨v,hc,q⟩) (ih v hf h)
 | getObj r k ih => rintro K σ hf ⟨v,hc,h⟩; exact mono (fun _ _ q => ⟨v,hc,q⟩) (ih v hf h)
 | setObj r ob k ih => rintro K σ hf ⟨hc,h⟩; exact mono (fun _ _ q => ⟨hc,q⟩) (ih (hf.set _ _) h)
 | sys c k ih => intro K σ hf h; exact h.elim
 | halt h => intro K σ hf h; exact h.elim
inductive SK where
 | skip
 | pure (s:Sem Next)
 | heap (lg:Log) (s:Sem Next)
 | call (g:FuncId) (args:Array Value) (x:Told)
 | gen (s:Sem Next)
def SK.ok:SK→Prop
 | .gen _ => False
 | _ => True
def SK.log:SK→Option Log
 | .heap lg _ => some lg
 | .call _ _ x => some (toldLog x)
 | _ => none
def nval:Next→Option Value
 | .value v => some v
 | .skip => some undef
 | _ => none
def Lo.hits:Lo→Addr→Prop
 | .cell b o,a => a.block=b∧a.off=o
 | .blk p,a => ∃ q:Addr,p=some q∧a.block=q.block
 | .many bs,a => a.block ∈ bs
def Log.R (l:Log) (a:Addr):Prop:=∃ r ∈ l.reads,r.hits a
def Log.W (l:Log) (a:Addr):Prop:=∃ r ∈ l.writes,r.hits a
theorem Lo.ne_hits {r w:Lo} {a b:Addr} (h:r.ne w) (ha:r.hits a) (hb:w.hits b):¬ same a b:=by
 rintro ⟨e1,e2⟩
 cases r <;> cases w <;> simp only [Lo.ne,Lo.hits] at h ha hb
 · exact h ⟨ha.1.symm.trans (e1.trans hb.1),ha.2.symm.trans (e2.trans hb.2)⟩
 · obtain ⟨q,rfl,hq⟩:=hb; exact h q rfl (ha.1.symm.trans (e1.trans hq))
 · exact h (ha.1 ▸ e1 ▸ hb)
 · obtain ⟨q,rfl,hq⟩:=ha; exact h q rfl (hq.symm.trans (e1.trans hb.1))
 · obtain ⟨q,rfl,hq⟩:=ha; obtain ⟨q',rfl,hq'⟩:=hb; exact h q q' rfl rfl (hq.symm.trans (e1.trans hq'))
 · obtain ⟨q,rfl,hq⟩:=ha; exact h q rfl (hq ▸ e1 ▸ hb)
 · exact h (hb.1 ▸ e1 ▸ ha)
 · obtain ⟨q,rfl,hq⟩:=hb; exact h q rfl (hq ▸ e1 ▸ ha)
 · exact h _ ha (e1 ▸ hb)
def NoClash (x y:Log):Prop:=∀ p ∈ clash x y,p
theorem NoClash.rw {x y:Log} (h:NoClash x y):∀ a b,x.R a→y.W b→¬ same a b:=by
 rintro a b ⟨r,hr,ha⟩ ⟨w,hw,hb⟩
 refine Lo.ne_hits (h _ ?_) ha hb
 unfold clash
 exact List.mem_append_left _ (List.mem_append_left _ (List.mem_flatMap.2 ⟨r,hr,List.mem_map.2 ⟨w,hw,rfl⟩⟩))
theorem NoClash.wr {x y:Log} (h:NoClash x y):∀ a b,x.W a→y.R b→¬ same a b:=by
 rintro a b ⟨r,hr,ha⟩ ⟨w,hw,hb⟩
 refine Lo.ne_hits (h _ ?_) ha hb
 unfold clash
 exact List.mem_append_left _ (List.mem_append_right _ (List.mem_flatMap.2 ⟨r,hr,List.mem_map.2 ⟨w,hw,rfl⟩⟩))
theorem NoClash.ww {x y:Log} (h:NoClash x y):∀ a b,x.W a→y.W b→¬ same a b:=by
 rintro a b ⟨r,hr,ha⟩ ⟨w,hw,hb⟩
 refine Lo.ne_hits (h _ ?_) ha hb
 unfold clash
 exact List.mem_append_right _ (List.mem_flatMap.2 ⟨r,hr,List.mem_map.2 ⟨w,hw,rfl⟩⟩)
def Apart:Option Log→Option Log→Prop
 | some x,some y => NoClash x y
 | _,_ => True
def stepF (P:Program) (call:CallR):SK→(Value→PH→Prop)→PH→Prop
 | .skip,K,σ => K undef σ
 | .pure s,K,σ => irun P s (fun n _ => ∃ v,nval n=some v∧K v σ) (fun _ => none)
 | .heap lg s,K,σ => irunF P lg.R lg.W s (fun n τ => ∃ v,nval n=some v∧K v τ) σ
 | .call g args x,K,σ => quiet call g args x.v x.bs σ∧K x.v σ
 | .gen s,K,σ => irun P s (fun n τ => ∃ v,nval n=some v∧K v τ) σ
theorem stepF_mono {P:Program} {call:CallR} {k:SK} {K K':Value→PH→Prop} {σ:PH} (h:stepF P call k K σ) (hk:∀ v τ,K v τ→K' v τ):stepF P call k K' σ:=by
 cases k with
 | skip => exact hk _ _ h
 | pure s => exact irun_mono s h fun n _ ⟨v,h1,h2⟩ => ⟨v,h1,hk _ _ h2⟩
 | heap lg s => exact irunF_mono (fun _ h => h) (fun _ h => h) s h fun n _ ⟨v,h1,h2⟩ => ⟨v,h1,hk _ _ h2⟩
 | call g args x => exact ⟨h.1,hk _ _ h.2⟩
 | gen s => exact irun_mono s h fun n _ ⟨v,h1,h2⟩ => ⟨v,h1,hk _ _ h2⟩
theorem stepF_some {P:Program} {call:CallR} {k:SK} {K:Value→PH→Prop} {σ:PH} (hk:k.ok) (hf:Fin' σ) (h:stepF P call k K σ):∃ v τ,K v τ:=by
 cases k with
 | skip => exact ⟨_,_,h⟩
 | pure s => obtain ⟨n,τ,v,_,hv⟩:=irun_some s h Fin'.empty; exact ⟨v,σ,hv⟩
 | heap lg s => obtain ⟨n,τ,v,_,hv⟩:=irun_some s (irunF_irun s h) hf; exact ⟨v,τ,hv⟩
 | call g args x => exact ⟨_,_,h.2⟩
 | gen s => exact hk.elim
theorem stepF_fin {P:Program} {call:CallR} {k:SK} {K:Value→PH→Prop} {σ:PH} (hk:k.ok) (hf:Fin' σ) (h:stepF P call k K σ):stepF P call k (fun v τ => K v τ∧Fin' τ) σ:=by
 cases k with
 | skip => exact ⟨h,hf⟩
 | pure s => exact irun_mono s h fun n _ ⟨v,h1,h2⟩ => ⟨v,h1,h2,hf⟩
 | heap lg s =>
   refine irunF_mono (fun _ h => h) (fun _ h => h) s (irunF_keep (bs:=[]) (fun _ _ h => by cases h) s h hf (fun _ h => by cases h)) ?_
   rintro n τ ⟨⟨v,h1,h2⟩,h3,_⟩
   exact ⟨v,h1,h2,h3⟩
 | call g args x => exact ⟨h.1,h.2,hf⟩
 | gen s => exact hk.elim
theorem quiet_same {call:CallR} {g:FuncId} {args:Array Value} {v:Value} {bs:List Nat} {σ τ:PH} (h:quiet call g args v bs σ) (he:∀ b ∈ bs,τ b=σ b):quiet call g args v bs τ:=by
 have e:PH.only bs τ=PH.only bs σ:=by
   funext b
   unfold PH.only
   cases hb:bs.contains b with
   | false => rfl
   | true => exact he b (by simpa using hb)
 unfold quiet at h ⊢
 rw [e]
 exact ⟨fun b hb => by rw [he b hb]; exact h.1 b hb,h.2⟩
theorem told_W {lg:Log} {x:Told} (h:NoClash lg (toldLog x)):∀ a,lg.W a→a.block ∉ x.bs:=by
 intro a ha hm
 exact h.wr a a ha ⟨.many x.bs,List.mem_cons_self,hm⟩ ⟨rfl,rfl⟩
theorem told_W' {lg:Log} {x:Told} (h:NoClash (toldLog x) lg):∀ a,lg.W a→a.block ∉ x.bs:=by
 intro a ha hm
 exact h.rw a a ⟨.many x.bs,List.mem_cons_self,hm⟩ ha ⟨rfl,rfl⟩
theorem stepF_swap {P:Program} {call:CallR} {A B:SK} (hoA:A.ok) (hoB:B.ok) (hap:Apart A.log B.log) {K:Value→Value→PH→Prop} {σ:PH} (hf:Fin' σ)
   (h:stepF P call A (fun x τ => stepF P call B (fun y υ => K x y υ) τ) σ):stepF P call B (fun y τ => stepF P call A (fun x υ => K x y υ) τ) σ:=by
 cases A with
 | gen s => exact hoA.elim
 | skip => exact h
 | pure s =>
   cases B with
   | gen s => exact hoB.elim
   | skip => exact h
   | pure s' =>
     have h':=irun_mono s h (Q':=fun n _ => irun P s' (fun m _ => ∃ x y,nval n=some x∧nval m=some y∧K x y σ) (fun _ => none)) fun n _ ⟨x,hx,hy⟩ =>
       irun_mono s' hy fun m _ ⟨y,hy,hk⟩ => ⟨x,y,hx,hy,hk⟩
     have h'':=swapPP s' s Fin'.empty h'
     refine irun_mono s' h'' fun m _ hm => ?_
     obtain ⟨n,_,x,y,hx,hy,hk⟩:=irun_some s hm Fin'.empty
     exact ⟨y,hy,irun_mono s hm fun n _ ⟨x,y',hx,hy',hk⟩ => ⟨x,hx,by rw [hy] at hy'; cases hy'; exact hk⟩⟩
   | heap lg s' =>
     have h':=irun_mono s h (Q':=fun n _ => irunF P lg.R lg.W s' (fun m υ => ∃ x y,nval n=some x∧nval m=some y∧K x y υ) σ) fun n _ ⟨x,hx,hy⟩ =>
       irunF_mono (fun _ h => h) (fun _ h => h) s' hy fun m _ ⟨y,hy,hk⟩ => ⟨x,y,hx,hy,hk⟩
     have h'':=swapPF s' s Fin'.empty h'
     refine irunF_mono (fun _ h => h) (fun _ h => h) s' h'' fun m υ hm => ?_
     obtain ⟨n,_,x,y,hx,hy,hk⟩:=irun_some s hm Fin'.empty
     exact ⟨y,hy,irun_mono s hm fun n _ ⟨x,y',hx,hy',hk⟩ => ⟨x,hx,by rw [hy] at hy'; cases hy'; exact hk⟩⟩
   | call g args x =>
     obtain ⟨n,_,v,hv,hq,_⟩:=irun_some s h Fin'.empty
     exact ⟨hq,irun_mono s h fun n _ ⟨v,hv,_,hk⟩ => ⟨v,hv,hk⟩⟩
 | heap lg s =>
   cases B with
   | gen s => exact hoB.elim
   | skip => exact h
   | pure s' =>
     have h':=irunF_mono (fun _ h => h) (fun _ h => h) s h (Q':=fun n τ => irun P s' (fun m _ => ∃ x y,nval n=some x∧nval m=some y∧K x y τ) (fun _ => none)) fun n _ ⟨x,hx,hy⟩ =>
       irun_mono s' hy fun m _ ⟨y,hy,hk⟩ => ⟨x,y,hx,hy,hk⟩
     have h'':=swapFP s' s hf h'
     refine irun_mono s' h'' fun m _ hm => ?_
     obtain ⟨n,_,x,y,hx,hy,hk⟩:=irun_some s (irunF_irun s hm) hf
     exact ⟨y,hy,irunF_mono (fun _ h => h) (fun _ h => h) s hm fun n _ ⟨x,y',hx,hy',hk⟩ => ⟨x,hx,by rw [hy] at hy'; cases hy'; exact hk⟩⟩
   | heap lg' s' =>
     have hap:NoClash lg lg':=hap
     have h':=irunF_mono (fun _ h => h) (fun _ h => h) s (irunF_keep (bs:=[]) (fun _ _ h => by cases h) s h hf (fun _ h => by cases h)) (Q':=fun n τ => irunF P lg'.R lg'.W s' (fun m υ => (∃ x y,nval n=some x∧nval m=some y∧K x y υ)) τ) fun n τ ⟨⟨x,hx,hy⟩,hft,_⟩ =>
       irunF_mono (fun _ h => h) (fun _ h => h) s' hy fun m _ ⟨y,hy,hk⟩ => ⟨x,y,hx,hy,hk⟩
     have h'':=swapFF (fun a b ha hb => hap.wr a b ha hb) (fun a b ha hb e => hap.rw b a hb ha ⟨e.1.symm,e.2.symm⟩) (fun a b ha hb e => hap.ww b a hb ha ⟨e.1.symm,e.2.symm⟩) s' s hf h'
     have h3:=irunF_keep (bs:=[]) (fun _ _ h => by cases h) s' h'' hf (fun _ h => by cases h)
     refine irunF_mono (fun _ h => h) (fun _ h => h) s' h3 fun m υ ⟨hm,hfu,_⟩ => ?_
     obtain ⟨n,_,x,y,hx,hy,hk⟩:=irun_some s (irunF_irun s hm) hfu
     exact ⟨y,hy,irunF_mono (fun _ h => h) (fun _ h => h) s hm fun n _ ⟨x,y',hx,hy',hk⟩ => ⟨x,hx,by rw [hy] at hy'; cases hy'; exact hk⟩⟩
   | call g args x =>
     have hap:NoClash lg (toldLog x):=hap
     obtain ⟨n,τ,⟨v,hv,hq,_⟩,_,hk⟩:=irunF_some (told_W hap) s h hf
     exact ⟨quiet_same hq fun b hb => (hk b hb).symm,irunF_mono (fun _ h => h) (fun _ h => h) s h fun n _ ⟨v,hv,_,hk⟩ => ⟨v,hv,hk⟩⟩
 | call g args x =>
   cases B with
   | gen s => exact hoB.elim
   | skip => exact h
   | pure s => exact irun_mono s h.2 fun n _ ⟨v,hv,hk⟩ => ⟨v,hv,h.1,hk⟩
   | heap lg s =>
     have hap:NoClash (toldLog x) lg:=hap
     refine irunF_mono (fun _ h => h) (fun _ h => h) s (irunF_keep (told_W' hap) s h.2 hf h.1.1) ?_
     rintro n τ ⟨⟨v,hv,hk⟩,_,he⟩
     exact ⟨v,hv,quiet_same h.1 he,hk⟩
   | call g' args' x' => exact ⟨h.2.1,h.1,h.2.2⟩
def NoH {α:Type} (P:Program):Sem α→Prop
 | .pure _ | .halt _ => True
 | .program k => NoH P (k P)
 | .choose _ k => ∀ n,NoH P (k n)
 | .mark _ k => NoH P k
 | .new _ k => ∀ b,NoH P (k b)
 | _ => False
theorem NoH.bind {α β:Type} {P:Program} {s:Sem α} {f:α→Sem β} (h:NoH P s) (hf:∀ a,NoH P (f a)):NoH P (s >>= f):=by
 show NoH P (s.bind f)
 induction s with
 | pure a => exact hf a
 | load m a k ih => exact h.elim
 | store m a v k ih => exact h.elim
 | new o k ih => exact fun b => ih b (h b)
 | choose q k ih => exact fun n => ih n (h n)
 | program k ih => exact ih P h
 | mark m k ih => exact ih h
 | shape r k ih => exact h.elim
 | freeze a n k ih => exact h.elim
 | frozen r k ih => exact h.elim
 | getObj r k ih => exact h.elim
 | setObj r o k ih => exact h.elim
 | sys c k ih => exact h.elim
 | halt h => trivial
theorem NoH.irunF {α:Type} {P:Program} {R W:Addr→Prop}:∀ {s:Sem α} {Q:α→PH→Prop} {σ:PH},NoH P s→irun P s Q σ→irunF P R W s Q σ:=by
 intro s
 induction s with
 | pure a => intro Q σ _ h; exact h
 | load m a k ih => intro Q σ hn h; exact hn.elim
 | store m a v k ih => intro Q σ hn h; exact hn.elim
 | new o k ih => intro Q σ hn h b hb; exact ih b (hn b) (h b hb)
 | choose q k ih =>
   intro Q σ hn h
   simp only [irun,Sl.irunF] at h ⊢
   cases hf:q.forced with
   | true => rw [hf] at h; exact ih 0 (hn 0) h
   | false => rw [hf] at h; exact fun t => ih _ (hn _) (h t)
 | program k ih => intro Q σ hn h; exact ih P hn h
 | mark m k ih => intro Q σ hn h; exact ih hn h
 | shape r k ih => intro Q σ hn h; exact hn.elim
 | freeze a n k ih => intro Q σ hn h; exact hn.elim
 | frozen r k ih => intro Q σ hn h; exact hn.elim
 | getObj r k ih => intro Q σ hn h; exact hn.elim
 | setObj r o k ih => intro Q σ hn h; exact hn.elim
 | sys c k ih => intro Q σ hn h; exact hn.elim
 | halt x => intro Q σ hn h; exact h.elim
theorem noH_typeInfo {P:Program} (t:TypeId):NoH P (typeInfo t):=by
 show NoH P (match P.info? t with | some i => pure i | none => stuck "no such type" : Sem TypeInfo)
 split <;> trivial
theorem noH_underlying {P:Program} (t:TypeId):NoH P (underlying t):=by
 show NoH P (match P.underlying t with | some d => pure d | none => stuck "no such type" : Sem TypeDesc)
 split <;> trivial
theorem noH_sizeOf {P:Program} (t:TypeId):NoH P (sizeOf t):=NoH.bind (noH_typeInfo t) fun _ => trivial
theorem noH_zeroValue {P:Program} (t:TypeId):NoH P (zeroValue t):=NoH.bind (noH_typeInfo t) fun i => by
 show NoH P (match i.zero with | some v => pure v | none => unsupported _:Sem Value)
 split <;> trivial
theorem noH_newRow {P:Program} (t:TypeId) (c:Array Value):NoH P (newRow t c):=NoH.bind (fun _ => trivial) fun _ => trivial
theorem noH_asIntOf {P:Program} (v:Value):NoH P (asIntOf v):=by
 unfold asIntOf
 split <;> trivial
theorem noH_asInt {P:Program} (v:Value):NoH P (asInt v):=NoH.bind (noH_asIntOf v) fun _ => trivial
theorem noH_askRoom {P:Program} (n:Nat):NoH P (askRoom n):=by
 unfold askRoom
 split <;> trivial
theorem noH_panic {P:Program} {α:Type} (m:String):NoH P (runtimePanic (.error m):Sem α):=trivial
theorem noH_unit {P:Program} {α:Type} {s:Sem α} {f:α→Next} (h:NoH P s):NoH P (do pure (f (← s)):Sem Next):=NoH.bind h fun _ => trivial
theorem noH_alloc {P:Program} (t:TypeId):NoH P (Instr.alloc t true (.tuple #[])):=NoH.bind (noH_zeroValue t) fun _ => NoH.bind (noH_newRow _ _) fun _ => trivial
theorem noH_box {P:Program} (t:TypeId) (v:Value):NoH P (Instr.box t v):=NoH.bind (noH_newRow _ _) fun _ => trivial
theorem noH_buildSlice {P:Program} (t:TypeId) (n:Nat) (ps:Array (Nat × Value)):NoH P (Instr.buildSlice t n ps):=by
 unfold Instr.buildSlice
 refine NoH.bind (noH_underlying t) fun d => ?_
 split
 · refine NoH.bind (noH_sizeOf _) fun size => ?_
   have jp:∀ (e:TypeId) (zero:Array Value),NoH P (match Instr.fill (fun i => some (i * size,size)) ((Array.range (n * size)).map (zero[· % zero.size]!)) ps.toList with
       | some cells => do pure (.slice (some (← newRow e cells)) n n)
       | _ => stuck "buildSlice: a part of the wrong size" : Sem Value) := by
     intro e zero
     split
     · exact NoH.bind (noH_newRow _ _) fun _ => trivial
     · trivial
   by_cases h1:n * size > 2 ^ 24
   · rw [if_pos h1]; trivial
   · rw [if_neg h1]
     by_cases h2:n * size=0
     · simp only [h2,if_true]
       have:=jp
       simp only [h2] at this
       exact this _ _
     · simp only [h2,if_false]
       exact NoH.bind (noH_zeroValue _) fun _ => jp _ _
 · trivial
theorem noH_makeMap {P:Program} (t:TypeId) (r:Option Value):NoH P (Instr.makeMap t r):=by
 unfold Instr.makeMap
 split
 · refine NoH.bind (noH_underlying t) fun d => ?_
   split
   · exact NoH.bind (noH_asInt _) fun _ => fun _ => trivial
   · trivial
 · exact fun _ => trivial
theorem noH_makeSlice {P:Program} (t:TypeId) (l c:Value):NoH P (Instr.makeSlice t l c):=by
 unfold Instr.makeSlice
 refine NoH.bind (noH_underlying t) fun d => ?_
 split
 · refine NoH.bind (noH_asInt _) fun l => NoH.bind (noH_asInt _) fun c => NoH.bind (noH_typeInfo _) fun i => ?_
   dsimp only
   split
   · split
     · exact noH_panic _
     · split
       · exact noH_panic _
       · intro n
         exact noH_panic _
   · refine NoH.bind (noH_askRoom _) fun _ => NoH.bind (noH_sizeOf _) fun size => ?_
     split
     · exact NoH.bind (s:=pure _) trivial fun _ => NoH.bind (noH_newRow _ _) fun _ => trivial
     · exact NoH.bind (noH_zeroValue _) fun _ => NoH.bind (s:=pure _) trivial fun _ => NoH.bind (noH_newRow _ _) fun _ => trivial
 · trivial
theorem loadFrom_F {β:Type} {P:Program} {R W:Addr→Prop} {p:Addr} {f:Array Value→Sem β} {Q:β→PH→Prop} (hf:∀ vs τ,irun P (f vs) Q τ→irunF P R W (f vs) Q τ) :
   ∀ (n i:Nat) (acc:Array Value) (σ:PH),(∀ j,i≤j→j < i + n→R (p.add j))→irun P (loadCellsFrom p i n acc >>= f) Q σ→irunF P R W (loadCellsFrom p i n acc >>= f) Q σ:=by
 intro n
 induction n with
 | zero => intro i acc σ _ h; exact hf _ _ h
 | succ n ih =>
   rintro i acc σ hR ⟨v,hc,h⟩
   exact ⟨hR i (Nat.le_refl _) (by omega),v,hc,ih (i + 1) _ σ (fun j h1 h2 => hR j (by omega) (by omega)) h⟩
theorem storeCells_F {β:Type} {P:Program} {R W:Addr→Prop} {p:Addr} {f:Unit→Sem β} {Q:β→PH→Prop} (hf:∀ τ,irun P (f ()) Q τ→irunF P R W (f ()) Q τ) :
   ∀ (vs:List Value) (i:Nat) (σ:PH),(∀ j,i≤j→j < i + vs.length→W (p.add j))→irun P (storeCells p vs i >>= f) Q σ→irunF P R W (storeCells p vs i >>= f) Q σ:=by
 intro vs
 induction vs with
 | nil => intro i σ _ h; exact hf _ h
 | cons v vs ih =>
   intro i σ hW h
   have h:irun P (.store .plain (p.add i) v (storeCells p vs (i + 1) >>= f)) Q σ:=h
   show irunF P R W (.store .plain (p.add i) v (storeCells p vs (i + 1) >>= f)) Q σ
   have hw:=hW i (Nat.le_refl _) (by simp)
   have ih':=fun (τ:PH) (h:irun P (storeCells p vs (i + 1) >>= f) Q τ) => ih (i + 1) τ (fun j h1 h2 => hW j (by omega) (by simp only [List.length_cons]; omega)) h
   cases v
   case agg => exact h.elim
   case tuple => exact h.elim
   all_goals exact ⟨hw,trivial,h.1,h.2.1,ih' _ h.2.2⟩
theorem loCells_mem {p:Addr}:∀ {n i j:Nat},i≤j→j < i + n→Lo.cell (p.add j).block (p.add j).off ∈ loCells p i n
 | 0,i,j,h1,h2 => by omega
 | n + 1,i,j,h1,h2 => by
   unfold loCells
   by_cases e:i=j
   · subst e; exact List.mem_cons_self
   · exact List.mem_cons_of_mem _ (loCells_mem (by omega) (by omega))
theorem irun_asRun {α β:Type} {P:Program} {s:Sem α} {f:α→Sem β} {Q:β→PH→Prop} {σ:PH} (h:irun P (s >>= f) Q σ):irun P s (fun v τ => irun P (f v) Q τ) σ:=by
 revert h
 show irun P (s.bind f) Q σ→_
 induction s generalizing σ with
 | pure a => exact fun h => h
 | load m a k ih => rintro ⟨v,hc,h⟩; exact ⟨v,hc,ih v h⟩
 | store m a v k ih =>
   intro h
   cases v
   case agg => exact h.elim
   case tuple => exact h.elim
   all_goals exact ⟨h.1,h.2.1,ih h.2.2⟩
 | new o k ih => intro h b hb; exact ih b (h b hb)
 | choose q k ih =>
   intro h
   simp only [irun,Sem.bind] at h ⊢
   cases hf:q.forced with
   | true => rw [hf] at h; exact ih 0 h
   | false => rw [hf] at h; exact fun t => ih _ (h t)
 | program k ih => intro h; exact ih P h
 | mark m k ih => intro h; exact ih h
 | shape r k ih => rintro ⟨v,hc,h⟩; exact ⟨v,hc,ih v h⟩
 | freeze a n k ih => intro h; exact h.elim
 | frozen r k ih => rintro ⟨v,hc,h⟩; exact ⟨v,hc,ih v h⟩
 | getObj r k ih => rintro ⟨v,hc,h⟩; exact ⟨v,hc,ih v h⟩
 | setObj r o k ih => rintro ⟨hc,h⟩; exact ⟨hc,ih h⟩
 | sys c k ih => intro h; exact h.elim
 | halt x => intro h; exact h.elim
theorem irunF_asRun {α β:Type} {P:Program} {R W:Addr→Prop} {s:Sem α} {f:α→Sem β} {Q:β→PH→Prop} {σ:PH} (h:irunF P R W (s >>= f) Q σ):irunF P R W s (fun v τ => irunF P R W (f v) Q τ) σ:=by
 revert h
 show irunF P R W (s.bind f) Q σ→_
 induction s generalizing σ with
 | pure a => exact fun h => h
 | load m a k ih => rintro ⟨h0,v,hc,h⟩; exact ⟨h0,v,hc,ih v h⟩
 | store m a v k ih => rintro ⟨h0,h1,h2,h3,h⟩; exact ⟨h0,h1,h2,h3,ih h⟩
 | new o k ih => intro h b hb; exact ih b (h b hb)
 | choose q k ih =>
   intro h
   simp only [irunF,Sem.bind] at h ⊢
   cases hf:q.forced with
   | true => rw [hf] at h; exact ih 0 h
   | false => rw [hf] at h; exact fun t => ih _ (h t)
 | program k ih => intro h; exact ih P h
 | mark m k ih => intro h; exact ih h
 | shape r k ih => intro h; exact h.elim
 | freeze a n k ih => intro h; exact h.elim
 | frozen r k ih => intro h; exact h.elim
 | getObj r k ih => intro h; exact h.elim
 | setObj r o k ih => intro h; exact h.elim
 | sys c k ih => intro h; exact h.elim
 | halt x => intro h; exact h.elim
theorem irunF_underlying {α:Type} {P:Program} {R W:Addr→Prop} {t:TypeId} {d:TypeDesc} (hd:P.underlying t=some d) {f:TypeDesc→Sem α} {Q:α→PH→Prop} {σ:PH}
   (h:irunF P R W (f d) Q σ):irunF P R W (underlying t >>= f) Q σ:=by
 refine irunF_bind _ _ ?_
 show irunF P R W ((match P.underlying t with | some d => pure d | none => stuck "no such type" : Sem TypeDesc)) _ _
 rw [hd]; exact h
theorem irunF_underlying' {P:Program} {R W:Addr→Prop} {t:TypeId} {d:TypeDesc} (hd:P.underlying t=some d) {Q:TypeDesc→PH→Prop} {σ:PH}
   (h:Q d σ):irunF P R W (underlying t) Q σ:=by
 show irunF P R W ((match P.underlying t with | some d => pure d | none => stuck "no such type" : Sem TypeDesc)) _ _
 rw [hd]; exact h
theorem irunF_pure {α:Type} {P:Program} {R W:Addr→Prop} {a:α} {Q:α→PH→Prop} {σ:PH} (h:Q a σ):irunF P R W (pure a) Q σ:=h
theorem irunF_typeInfo {α:Type} {P:Program} {R W:Addr→Prop} {t:TypeId} {i:TypeInfo} (hd:P.info? t=some i) {f:TypeInfo→Sem α} {Q:α→PH→Prop} {σ:PH}
   (h:irunF P R W (f i) Q σ):irunF P R W (typeInfo t >>= f) Q σ:=by
 refine irunF_bind _ _ ?_
 show irunF P R W ((match P.info? t with | some i => pure i | none => stuck "no such type" : Sem TypeInfo)) _ _
 rw [hd]; exact h
theorem irunF_sizeOf {α:Type} {P:Program} {R W:Addr→Prop} {t:TypeId} {n:Nat} (hd:sizeT P t=some n) {f:Nat→Sem α} {Q:α→PH→Prop} {σ:PH}
   (h:irunF P R W (f n) Q σ):irunF P R W (sizeOf t >>= f) Q σ:=by
 unfold sizeT at hd
 cases hi:P.info? t with
 | none => rw [hi] at hd; cases hd
 | some i =>
   rw [hi] at hd; cases hd
   refine irunF_bind _ _ ?_
   show irunF P R W (typeInfo t >>= fun i => pure i.size) _ _
   exact irunF_typeInfo hi h
theorem irunF_zeroValue {α:Type} {P:Program} {R W:Addr→Prop} {t:TypeId} {v:Value} (hd:zeroT P t=some v) {f:Value→Sem α} {Q:α→PH→Prop} {σ:PH}
   (h:irunF P R W (f v) Q σ):irunF P R W (zeroValue t >>= f) Q σ:=by
 refine irunF_bind _ _ ?_
 unfold zeroT at hd
 cases hi:P.info? t with
 | none => rw [hi] at hd; cases hd
 | some i =>
   rw [hi] at hd
   unfold zeroValue
   refine irunF_typeInfo hi ?_
   simp only [Option.bind_some] at hd
   rw [hd]; exact h
theorem irun_info' {P:Program} {t:TypeId} {Q:TypeInfo→PH→Prop} {σ:PH} (h:irun P (typeInfo t) Q σ):∃ i,P.info? t=some i∧Q i σ:=by
 have h : irun P ((match P.info? t with | some i => pure i | none => stuck "no such type" : Sem TypeInfo)) Q σ := h
 split at h
 · rename_i i hi; exact ⟨i,hi,h⟩
 · exact h.elim
theorem irun_und {α:Type} {P:Program} {t:TypeId} {f:TypeDesc→Sem α} {Q:α→PH→Prop} {σ:PH} (h:irun P (underlying t >>= f) Q σ):∃ i,P.underlying t=some i∧irun P (f i) Q σ:=by
 have h:=irun_asRun h
 have h : irun P ((match P.underlying t with | some i => pure i | none => stuck "no such type" : Sem TypeDesc)) (fun v τ => irun P (f v) Q τ) σ := h
 split at h
 · rename_i i hi; exact ⟨i,hi,h⟩
 · exact h.elim
theorem loadVar_F {β:Type} {P:Program} {R W:Addr→Prop} {p:Addr} {t:TypeId} {f:Value→Sem β} {Q:β→PH→Prop} {σ:PH} (hf:∀ v τ,irun P (f v) Q τ→irunF P R W (f v) Q τ)
   (h0:R p) (hR:∀ n,sizeT P t=some n→∀ j,j < n→R (p.add j)) (h:irun P (loadVar t p >>= f) Q σ):irunF P R W (loadVar t p >>= f) Q σ:=by
 have h:=irun_asRun h
 refine irunF_bind _ _ ?_
 unfold loadVar at h ⊢
 have h:=irun_asRun h
 refine irunF_bind _ _ ?_
 unfold isAgg at h ⊢
 obtain ⟨d,hd,h⟩:=irun_und h
 refine irunF_underlying hd ?_
 have agg:irun P (do pure (.agg (← loadCells p (← sizeOf t)))) (fun v τ => irun P (f v) Q τ) σ→irunF P R W (do pure (.agg (← loadCells p (← sizeOf t)))) (fun v τ => irunF P R W (f v) Q τ) σ:=by
   intro h
   have h:=irun_asRun h
   have h:=irun_asRun h
   obtain ⟨i,hi,h⟩:=irun_info' h
   have hs:sizeT P t=some i.size:=by unfold sizeT; rw [hi]; rfl
   refine irunF_sizeOf hs ?_
   have h:irun P (loadCells p i.size >>= fun cs => pure (.agg cs)) (fun v τ => irun P (f v) Q τ) σ:=h
   have h:irun P (loadCellsFrom p 0 i.size #[] >>= fun cs => pure (Value.agg cs)) (fun v τ => irun P (f v) Q τ) σ:=h
   refine irunF_mono (fun _ h => h) (fun _ h => h) _ (loadFrom_F (R:=R) (W:=W) (f:=fun cs => pure (Value.agg cs)) (Q:=fun v τ => irun P (f v) Q τ) (fun vs τ h => h) i.size 0 #[] σ (fun j _ hj => hR _ hs j (by omega)) h) ?_
   exact fun v τ hv => hf _ _ hv
 have one:irun P (load p) (fun v τ => irun P (f v) Q τ) σ→irunF P R W (load p) (fun v τ => irunF P R W (f v) Q τ) σ:=by
   rintro ⟨v,hc,h⟩
   exact ⟨h0,v,hc,hf _ _ h⟩
 cases d <;> first | exact agg h | exact one h
theorem storeVar_F {β:Type} {P:Program} {R W:Addr→Prop} {p:Addr} {t:TypeId} {v:Value} {f:Unit→Sem β} {Q:β→PH→Prop} {σ:PH} (hf:∀ τ,irun P (f ()) Q τ→irunF P R W (f ()) Q τ)
   (hW:∀ n,sizeT P t=some n→∀ j,j < n→W (p.add j)) (h:irun P (storeVar t p v >>= f) Q σ):irunF P R W (storeVar t p v >>= f) Q σ:=by
 have h:=irun_asRun h
 refine irunF_bind _ _ ?_
 unfold storeVar at h ⊢
 have h:=irun_asRun h
 have h:=irun_asRun h
 obtain ⟨i,hi,h⟩:=irun_info' h
 have hs:sizeT P t=some i.size:=by unfold sizeT; rw [hi]; rfl
 refine irunF_sizeOf hs ?_
 have h : irun P (if v.cells.size ≠ i.size then (stuck "storeVar: the value has not the size of the variable" >>= fun (_ : Unit) => storeCells p v.cells.toList) else storeCells p v.cells.toList) (fun v τ => irun P (f v) Q τ) σ := h
 show irunF P R W (if v.cells.size ≠ i.size then (stuck "storeVar: the value has not the size of the variable" >>= fun (_ : Unit) => storeCells p v.cells.toList) else storeCells p v.cells.toList) (fun v τ => irunF P R W (f v) Q τ) σ
 by_cases e:v.cells.size ≠ i.size
 · rw [if_pos e] at h; exact h.elim
 · rw [if_neg e] at h ⊢
   have h:irun P (storeCells p v.cells.toList >>= f) Q σ:=irun_bind _ _ h
   exact irunF_asRun (storeCells_F (R:=R) (W:=W) hf v.cells.toList 0 σ (fun j _ hj => hW _ hs j (by simp at hj; simp at e; omega)) h)
theorem irunF_loadFrom {P:Program} {R W:Addr→Prop} {a:Addr} {Q:Array Value→PH→Prop} {σ:PH} (hR:∀ j,R (a.add j)):∀ (vs:List Value) (i:Nat) (acc:Array Value),
   rowAt σ a i vs→Q (acc ++ vs.toArray) σ→irunF P R W (loadCellsFrom a i vs.length acc) Q σ:=by
 intro vs
 induction vs with
 | nil => intro i acc _ h; exact (by simpa using h:Q acc σ)
 | cons v vs ih =>
   rintro i acc ⟨h1,h2⟩ h
   exact ⟨hR i,v,h1,ih (i + 1) (acc.push v) h2 (by simpa using h)⟩
theorem irunF_firstCells {P:Program} {R W:Addr→Prop} {size n:Nat} {a:Option Addr} {m c:Nat} {Q:Array Value→PH→Prop} {σ:PH} {vs:List Value} (hR:∀ p,a=some p→∀ j,R (p.add j)) (hn:vs.length=n * size) (h:readsRow σ a vs) (hq:Q vs.toArray σ) :
   irunF P R W (Builtin.firstCells size n (.slice a m c)) Q σ:=by
 cases a with
 | none => have:vs=[]:=h; subst this; exact hq
 | some a =>
   show irunF P R W (loadCellsFrom a 0 (n * size) #[]) Q σ
   rw [← hn]
   exact irunF_loadFrom (hR a rfl) vs 0 #[] h (by simpa using hq)
theorem irunF_storeCells {P:Program} {R W:Addr→Prop} {a:Addr} (hW:∀ j,W (a.add j)) {Q:Unit→PH→Prop}:∀ (vs:List Value) (i:Nat) (σ:PH),(∀ v ∈ vs,plainCell v)→notFrozen σ a i vs.length →
   Q () (putRow σ a i vs)→irunF P R W (storeCells a vs i) Q σ:=by
 intro vs
 induction vs with
 | nil => intro i σ _ _ h; exact h
 | cons v vs ih =>
   rintro i σ hp ⟨h1,h2,h3⟩ h
   exact ⟨hW i,hp v List.mem_cons_self,h2,h1,ih (i + 1) _ (fun u hu => hp u (List.mem_cons_of_mem _ hu)) (notFrozen_setCell h3) h⟩
theorem add_block (a:Addr) (n:Nat):(a.add n).block=a.block:=by unfold Addr.add; split <;> rfl
theorem irunF_append {P:Program} {R W:Addr→Prop} {e t t':TypeId} {l:List TypeId} {e':TypeId} {T:TypeId} {s x:Value} {Q:Value→PH→Prop} {σ:PH}
   (ht:P.underlying t=some (.slice e)) (ht':P.underlying t'=some (.slice e')) (h:iappend P e s x Q σ)
   (hRs:∀ a n c,s=.slice a n c→∀ p,a=some p→∀ q:Addr,q.block=p.block→R q∧W q) (hRx:∀ a n c,x=.slice a n c→∀ p,a=some p→∀ q:Addr,q.block=p.block→R q) :
   irunF P R W (Builtin.append_ (t :: t' :: l).toArray T #[s,x]) Q σ:=by
 unfold iappend at h
 split at h
 rotate_left
 · exact h.elim
 rename_i size bytes z base len cap xb n xc h1 h2 h3
 split at h
 · exact h.elim
 rename_i hz
 have hz:z.cells.size=size:=by simpa using hz
 obtain ⟨olds,news,ho,hn,ro,rn,hin,hout⟩:=h
 have kRs:∀ p,base=some p→∀ j,R (p.add j):=fun p hp j => (hRs _ _ _ rfl p hp _ (add_block _ _)).1
 have kRx:∀ p,xb=some p→∀ j,R (p.add j):=fun p hp j => hRx _ _ _ rfl p hp _ (add_block _ _)
 unfold Builtin.append_
 simp only [List.getElem?_toArray,List.getElem?_cons_zero,List.getElem?_cons_succ]
 refine irunF_underlying ht ?_
 refine irunF_sizeOf h1 ?_
 refine irunF_bind _ _ ?_
 refine irunF_underlying' ht' ?_
 refine irunF_bind _ _ ?_
 refine irunF_pure ?_
 refine irunF_bind _ _ ?_
 refine irunF_pure ?_
 have h1':=h1
 unfold sizeT at h1; unfold bytesT at h2
 cases hi:P.info? e with
 | none => rw [hi] at h1; cases h1
 | some i =>
 rw [hi] at h1 h2
 simp only [Option.map_some,Option.some.injEq] at h1 h2
 have hzT:zeroT P e=some z:=h3
 by_cases hc:len + n≤cap
 · rw [if_pos hc]
   simp only [Bool.not_false,if_true]
   refine irunF_bind _ _ ?_
   refine irunF_firstCells kRx hn rn ?_
   have hin:=hin hc
   cases base with
   | none => exact hin
   | some a =>
     obtain ⟨hp,hf,hq⟩:=hin
     refine irunF_bind _ _ ?_
     exact irunF_storeCells (fun j => (hRs _ _ _ rfl a rfl _ (by rw [add_block,add_block])).2) news 0 σ hp (by rw [hn]; exact hf) hq
 · rw [if_neg hc]
   obtain ⟨hb,hcap,hq⟩:=hout (by omega)
   refine irunF_typeInfo hi ?_
   rw [h2]
   rw [if_neg (by simp; omega)]
   refine irunF_typeInfo hi ?_
   rw [h2]
   rw [if_neg (by omega)]
   refine irunF_bind _ _ ?_
   show ∀ t,_
   intro tt
   show irunF P R W _ _ _
   refine irunF_typeInfo hi ?_
   rw [h2]
   refine irunF_bind _ _ ?_
   have hroom:∀ (m:Nat) (K:Unit→PH→Prop) (τ:PH),K () τ→irunF P R W (askRoom m) K τ:=by
     intro m K τ hk
     unfold askRoom
     split
     · exact hk
     · exact hk
   refine hroom _ _ _ ?_
   refine irunF_bind _ _ ?_
   refine irunF_firstCells kRs ho ro ?_
   refine irunF_bind _ _ ?_
   simp only [Bool.not_false,if_true]
   refine irunF_firstCells kRx hn rn ?_
   refine irunF_zeroValue hzT ?_
   refine irunF_bind _ _ ?_
   unfold newRow
   refine irunF_bind _ _ ?_
   intro b hb'
   exact hq _ b (Nat.le_add_right _ _) hb'
theorem opLog_congr {P:Program} {o:Op} {ρ ρ':Operand→Value} (h:∀ x ∈ o.operands,ρ x=ρ' x):opLog P o ρ=opLog P o ρ':=by
 cases o <;> try rfl
 case load t a => simp only [opLog,h a (by simp [Op.operands])]
 case store t a v => simp only [opLog,h a (by simp [Op.operands])]
 case call c =>
   have e:c.args.toList.map ρ=c.args.toList.map ρ':=List.map_congr_left fun x hx => h x (by simp [Op.operands,Call.operands]; exact .inr (Array.mem_toList_iff.1 hx))
   simp only [opLog,e]
theorem callTo_congr {P:Program} {o:Op} {ρ ρ':Operand→Value} (h:∀ x ∈ o.operands,ρ x=ρ' x):callTo P o ρ=callTo P o ρ':=by
 cases o <;> try rfl
 case call c =>
   have e:c.args.map ρ=c.args.map ρ':=Array.map_congr_left fun x hx => h x (by simp [Op.operands,Call.operands,hx])
   simp only [callTo]
   cases hc:c.callee <;> try rfl
   rename_i f
   have hf:ρ f=ρ' f:=h f (by simp [Op.operands,Call.operands,hc])
   simp only [hf,e]
theorem callTo_run {P:Program} {o:Oper} {ρ:Operand→Value} {g:FuncId} {args:Array Value} (h:callTo P o.op ρ=some (g,args)) (w:World):(execOp ρ o).run P w=.ok (.enter g args) w:=by
 obtain ⟨dst,op,type,pos,after,guard⟩:=o
 cases op <;> try cases h
 rename_i c
 simp only [callTo] at h
 split at h
 · rename_i x hx
   split at h
   · rename_i g' first cap hf
     split at h
     · rename_i fn hfn
       split at h
       · rename_i h1 h2
         cases h
         simp only [execOp,resolve,hx,hf]
         show (callFunc g (first ++ c.args.map ρ ++ cap)).run P w=_
         unfold callFunc
         show ((match P.funcs[g]? with
           | none => stuck "call: no such function"
           | some fn => _:Sem Next)).run P w=_
         rw [hfn]
         simp only [h1,h2]
         rfl
       · cases h
     · cases h
   · cases h
 · cases h
theorem heap_F {P:Program} {o:Oper} {ρ:Operand→Value} {Q:Value→PH→Prop} {σ:PH} (hd:dkind o.op=.heap) (h:iop P noCall o ρ Q σ) :
   irunF P (opLog P o.op ρ).R (opLog P o.op ρ).W (execOp ρ o) (fun n τ => ∃ v,nval n=some v∧Q v τ) σ:=by
 have hg:irun P (execOp ρ o) (fun n τ => ∃ v,nval n=some v∧Q v τ) σ:=by
   refine irun_mono _ (iop_gen h) ?_
   intro n τ hn
   cases n <;> try exact hn.elim
   · dsimp only at hn
     split at hn
     · obtain ⟨u,rfl,hu⟩:=enumT_ex hn; exact ⟨_,rfl,hu⟩
     · exact ⟨_,rfl,hn⟩
   · exact ⟨_,rfl,hn⟩
 obtain ⟨dst,op,type,pos,after,guard⟩:=o
 cases op
 case alloc t => exact NoH.irunF (noH_unit (noH_alloc t)) hg
 case box t v => exact NoH.irunF (noH_unit (noH_box t _)) hg
 case buildSlice t n ps => exact NoH.irunF (noH_unit (noH_buildSlice t n _)) hg
 case makeMap t r => exact NoH.irunF (noH_unit (noH_makeMap t _)) hg
 case makeSlice t l c => exact NoH.irunF (noH_unit (noH_makeSlice t _ _)) hg
 case load t a =>
   simp only [execOp] at hg ⊢
   cases ha:ρ a <;> (try (rw [ha] at hg; exact hg.elim))
   rename_i q
   cases q with
   | none => rw [ha] at hg; exact hg.elim
   | some p =>
     rw [ha] at hg
     show irunF P _ _ (loadVar t p >>= fun v => pure (Next.value v)) _ σ
     have hs:∃ n,sizeT P t=some n:=by
       have h1:=irun_asRun (show irun P (loadVar t p >>= fun v => pure (Next.value v)) _ σ from hg)
       unfold loadVar isAgg at h1
       obtain ⟨d,hd,_⟩:=irun_und (irun_asRun h1)
       unfold Program.underlying at hd
       unfold sizeT
       cases hi:P.info? t with
       | none => rw [hi] at hd; cases hd
       | some i => exact ⟨_,rfl⟩
     obtain ⟨n,hn⟩:=hs
     have hlog:∀ j,j < n + (1 - n)→(opLog P (.load t a) ρ).R (p.add j):=by
       intro j hj
       unfold opLog Log.R
       simp only [ha,hn]
       cases n with
       | zero => exact ⟨_,loCells_mem (Nat.zero_le _) (by omega),rfl,rfl⟩
       | succ n => exact ⟨_,loCells_mem (Nat.zero_le _) (by omega),rfl,rfl⟩
     refine loadVar_F (fun v τ h => h) ?_ ?_ hg
     · have:=hlog 0 (by omega)
       simpa [Addr.add] using this
     · intro m hm j hj
       rw [hn] at hm; cases hm
       exact hlog j (by omega)
 case store t a v =>
   simp only [execOp] at hg ⊢
   cases ha:ρ a <;> (try (rw [ha] at hg; exact hg.elim))
   rename_i q
   cases q with
   | none => rw [ha] at hg; exact hg.elim
   | some p =>
     rw [ha] at hg
     show irunF P _ _ (storeVar t p (ρ v) >>= fun _ => pure Next.skip) _ σ
     refine storeVar_F (fun τ h => h) ?_ hg
     intro n hn j hj
     unfold opLog Log.W
     simp only [ha,hn]
     exact ⟨_,loCells_mem (Nat.zero_le _) (by omega),rfl,rfl⟩
 case call c =>
   obtain ⟨callee,args,argTypes⟩:=c
   simp only [iop] at h
   split at h
   · split at h
     · rename_i s x t t' l h2 h3
       split at h
       · rename_i e e' h4 h5
         simp only at h2 h3 ⊢
         have e1:args.map ρ=#[s,x]:=by
           apply Array.toList_inj.1
           rw [Array.toList_map,h2]
         have e2:argTypes=(t :: t' :: l).toArray:=by
           apply Array.toList_inj.1
           rw [h3]
         show irunF P _ _ (Builtin.append_ argTypes type (args.map ρ) >>= fun v => pure (Next.value v)) _ σ
         refine irunF_bind _ _ ?_
         rw [e1,e2]
         refine irunF_append h4 h5 (iappend_mono (Q':=fun v τ => ∃ u,nval (Next.value v)=some u∧Q u τ) (fun v τ ⟨a,n,c,hv,hq⟩ => ⟨_,rfl,hv ▸ hq⟩) h) ?_ ?_
         · rintro a n c rfl p rfl q hq
           cases x with
           | slice xa xn xc =>
             unfold opLog Log.R Log.W
             simp only [h2]
             exact ⟨⟨_,List.mem_cons_self,p,rfl,hq⟩,⟨_,List.mem_cons_self,p,rfl,hq⟩⟩
           | _ => unfold iappend at h; simp at h
         · rintro a n c rfl p rfl q hq
           cases s with
           | slice xa xn xc =>
             unfold opLog Log.R
             simp only [h2]
             exact ⟨_,List.mem_cons_of_mem _ List.mem_cons_self,p,rfl,hq⟩
           | _ => unfold iappend at h; simp at h
       · exact h.elim
     · exact h.elim
   · cases hd
   · rename_i hne _
     exfalso
     cases callee with
     | value f => cases hd
     | invoke r m => cases hd
     | builtin b => cases b <;> first | (cases hd; done) | exact hne rfl
 all_goals cases hd
def skOf (P:Program) (ops:Array Oper) (o:Oper) (x:Told) (a:Act):Option SK :=
 match Region.wanted o (yielded ops a.tmps) with
 | false => some .skip
 | true => (match dkind o.op with
   | .pure => some (.pure (execOp a.eval o))
   | .heap => some (.heap (opLog P o.op a.eval) (execOp a.eval o))
   | .call => (match callTo P o.op a.eval with
     | some (g,args) => some (.call g args x)
     | none => none)
   | .no => some (.gen (execOp a.eval o)))
theorem looks_operand {ops:Array Oper} {o:Oper} {d:Tmp} (h:Operand.tmp d ∈ o.op.operands):d ∈ o.looksAt ops :=
 List.mem_append_left _ (List.mem_filterMap.2 ⟨.tmp d,by simpa using h,rfl⟩)
theorem eval_put_operand {ops:Array Oper} {o:Oper} {a:Act} {dst:Option Tmp} {v:Value} (h:∀ d,dst=some d→d ∉ o.looksAt ops):∀ x ∈ o.op.operands,(a.put dst v).eval x=a.eval x :=
 fun x hx => Act.eval_put fun d hd hxd => h d hd (looks_operand (hxd ▸ hx))
theorem skOf_put {P:Program} {ops:Array Oper} {o:Oper} {x:Told} {a:Act} {dst:Option Tmp} {v:Value} (hs:∀ cs b,o.op ≠ .select cs b) (h:∀ d,dst=some d→d ∉ o.looksAt ops) :
   skOf P ops o x (a.put dst v)=skOf P ops o x a:=by
 unfold skOf
 rw [wanted_put o a dst v h,execOp_put o hs a dst v h,opLog_congr (eval_put_operand h),callTo_congr (eval_put_operand h)]
def Conds (bj:Nat) (done:List (Nat × Log)):Option Log→Prop
 | none => True
 | some l => ∀ iy ∈ done,bj.testBit iy.1=false→NoClash l iy.2
def GenOk (n:Nat) (bef:List Nat) (j:Nat):SK→Prop
 | .gen _ => lastAt n bef j=true
 | _ => True
theorem GenOk.okk {n:Nat} {bef:List Nat} {i j:Nat} {k:SK} (h:GenOk n bef j k) (hi:i < n) (hij:i ≠ j) (hb:(bef.getD j 0).testBit i=false):k.ok:=by
 cases k <;> try trivial
 simp only [GenOk,lastAt,Bool.and_eq_true,beq_iff_eq] at h
 have:bef.getD j 0=2 ^ j - 1:=by omega
 rw [this,Nat.testBit_two_pow_sub_one] at hb
 simp at hb
 omega
def TR (P:Program) (call:CallR) (ops:Array Oper) (bef:List Nat) (X:Nat→SK→Prop):List (Nat × Oper × Told)→List (Nat × Log)→(List (Nat × Log)→Act→PH→Prop)→Act→PH→Prop
 | [],done,Q,a,σ => Q done a σ
 | (j,o,x) :: r,done,Q,a,σ => ∃ k,skOf P ops o x a=some k∧(GenOk ops.size bef j k∧X j k)∧Conds (bef.getD j 0) done k.log∧stepF P call k (fun v τ => TR P call ops bef X r (addLog j done k.log) Q (a.put o.dst v) τ) σ
def DMono (Q:List (Nat × Log)→Act→PH→Prop):Prop:=∀ done done' a σ,(∀ x,x ∈ done'→x ∈ done)→Q done a σ→Q done' a σ
def ApartP (ops:Array Oper) (x y:Oper):Prop:=(∀ d,x.dst=some d→d ∉ y.looksAt ops)∧(∀ d,x.dst=some d→y.dst ≠ some d)∧(∀ d,y.dst=some d→d ∉ x.looksAt ops)
theorem ApartP.symm {ops:Array Oper} {x y:Oper} (h:ApartP ops x y):ApartP ops y x:=⟨h.2.2,fun d hd hx => h.2.1 d hx hd,h.1⟩
theorem addLog_sub {j:Nat} {done done':List (Nat × Log)} (h:∀ x,x ∈ done'→x ∈ done) (l:Option Log):∀ x,x ∈ addLog j done' l→x ∈ addLog j done l:=by
 intro x hx
 cases l with
 | none => exact h x hx
 | some l =>
   cases hx with
   | head => exact List.mem_cons_self
   | tail _ hm => exact List.mem_cons_of_mem _ (h x hm)
theorem TR_done {P:Program} {call:CallR} {ops:Array Oper} {bef:List Nat} {X:Nat→SK→Prop} {Q:List (Nat × Log)→Act→PH→Prop} (hQ:DMono Q):∀ {r:List (Nat × Oper × Told)} {done done':List (Nat × Log)} {a:Act} {σ:PH},(∀ x,x ∈ done'→x ∈ done) →
   TR P call ops bef X r done Q a σ→TR P call ops bef X r done' Q a σ
 | [],_,_,_,_,hs,h => hQ _ _ _ _ hs h
 | (j,o,x) :: r,done,done',a,σ,hs,⟨k,h1,hg,h2,h3⟩ => by
   refine ⟨k,h1,hg,?_,stepF_mono h3 fun v τ hv => TR_done hQ (addLog_sub hs _) hv⟩
   cases hk:k.log with
   | none => trivial
   | some l => rw [hk] at h2; exact fun iy hm hb => h2 iy (hs _ hm) hb
theorem Lo.ne_symm {r w:Lo} (h:r.ne w):w.ne r:=by
 cases r <;> cases w <;> simp only [Lo.ne] at h ⊢
 · exact fun e => h ⟨e.1.symm,e.2.symm⟩
 · exact fun p hp e => h p hp e.symm
 · exact h
 · exact fun p hp e => h p hp e.symm
 · exact fun p p' hp hp' e => h p' p hp' hp e.symm
 · exact h
 · exact h
 · exact h
 · exact fun b hb hb' => h b hb' hb
theorem NoClash.symm {x y:Log} (h:NoClash x y):NoClash y x:=by
 intro p hp
 unfold clash at hp
 rcases List.mem_append.1 hp with hp | hp
 · rcases List.mem_append.1 hp with hp | hp
   · obtain ⟨r,hr,hp⟩:=List.mem_flatMap.1 hp
     obtain ⟨w,hw,rfl⟩:=List.mem_map.1 hp
     exact Lo.ne_symm (h _ (List.mem_append_left _ (List.mem_append_right _ (List.mem_flatMap.2 ⟨w,hw,List.mem_map.2 ⟨r,hr,rfl⟩⟩))))
   · obtain ⟨r,hr,hp⟩:=List.mem_flatMap.1 hp
     obtain ⟨w,hw,rfl⟩:=List.mem_map.1 hp
     exact Lo.ne_symm (h _ (List.mem_append_left _ (List.mem_append_left _ (List.mem_flatMap.2 ⟨w,hw,List.mem_map.2 ⟨r,hr,rfl⟩⟩))))
 · obtain ⟨r,hr,hp⟩:=List.mem_flatMap.1 hp
   obtain ⟨w,hw,rfl⟩:=List.mem_map.1 hp
   exact Lo.ne_symm (h _ (List.mem_append_right _ (List.mem_flatMap.2 ⟨w,hw,List.mem_map.2 ⟨r,hr,rfl⟩⟩)))
theorem TR_swap {P:Program} {call:CallR} {ops:Array Oper} {bef:List Nat} {X:Nat→SK→Prop} {i j:Nat} {p o:Oper} {y x:Told} {r:List (Nat × Oper × Told)} {done:List (Nat × Log)} {Q:List (Nat × Log)→Act→PH→Prop} (hQ:DMono Q) {a:Act} {σ:PH}
   (hsp:∀ cs b,p.op ≠ .select cs b) (hso:∀ cs b,o.op ≠ .select cs b) (hap:ApartP ops p o) (hb:(bef.getD j 0).testBit i=false) (hb':(bef.getD i 0).testBit j=false) (hij:i ≠ j) (hi:i < ops.size) (hj:j < ops.size) (hf:Fin' σ)
   (h:TR P call ops bef X ((i,p,y) :: (j,o,x) :: r) done Q a σ):TR P call ops bef X ((j,o,x) :: (i,p,y) :: r) done Q a σ:=by
 obtain ⟨a1,a2,a3⟩:=hap
 obtain ⟨k1,hk1,hg1,hc1,h⟩:=h
 have ho1:=hg1.1.okk hj (Ne.symm hij) hb'
 obtain ⟨v0,τ0,k2,hk2,hg2,hc2,_⟩:=stepF_some ho1 hf h
 have ho2:=hg2.1.okk hi hij hb
 rw [skOf_put hso a1] at hk2
 have h':stepF P call k1 (fun v τ => stepF P call k2 (fun u υ => TR P call ops bef X r (addLog j (addLog i done k1.log) k2.log) Q ((a.put p.dst v).put o.dst u) υ) τ) σ:=by
   refine stepF_mono h ?_
   rintro v τ ⟨k2',hk2',_,_,h⟩
   rw [skOf_put hso a1,hk2] at hk2'
   cases hk2'; exact h
 have hA:Apart k1.log k2.log:=by
   cases h1:k1.log with
   | none => trivial
   | some l1 =>
     cases h2:k2.log with
     | none => trivial
     | some l2 =>
       rw [h1,h2] at hc2
       exact (hc2 (i,l1) List.mem_cons_self hb).symm
 have h3:=stepF_swap ho1 ho2 hA hf h'
 refine ⟨k2,hk2,hg2,?_,stepF_mono h3 ?_⟩
 · cases h2:k2.log with
   | none => trivial
   | some l2 =>
     rw [h2] at hc2
     intro iy hm hb'
     refine hc2 iy ?_ hb'
     cases k1.log with
     | none => exact hm
     | some l1 => exact List.mem_cons_of_mem _ hm
 · intro u τ hu
   refine ⟨k1,by rw [skOf_put hsp a3]; exact hk1,hg1,?_,stepF_mono hu ?_⟩
   · cases h1:k1.log with
     | none => trivial
     | some l1 =>
       rw [h1] at hc1 hA
       intro iy hm hb'
       cases h2:k2.log with
       | none => rw [h2] at hm; exact hc1 iy hm hb'
       | some l2 =>
         rw [h2] at hm hA
         cases hm with
         | head => exact hA
         | tail _ hm => exact hc1 iy hm hb'
   · intro v υ hv
     rw [← Act.put_comm a v u a2]
     refine TR_done hQ ?_ hv
     generalize k1.log=g1
     generalize k2.log=g2
     intro z hz
     cases g1 with
     | none => exact hz
     | some l1 =>
       cases g2 with
       | none => exact hz
       | some l2 =>
         rcases List.mem_cons.1 hz with rfl | hz
         · exact List.mem_cons_of_mem _ List.mem_cons_self
         · rcases List.mem_cons.1 hz with rfl | hz
           · exact List.mem_cons_self
           · exact List.mem_cons_of_mem _ (List.mem_cons_of_mem _ hz)
theorem TR_front {P:Program} {call:CallR} {ops:Array Oper} {bef:List Nat} {X:Nat→SK→Prop} {j:Nat} {o:Oper} {x:Told} {post:List (Nat × Oper × Told)} {Q:List (Nat × Log)→Act→PH→Prop} (hQ:DMono Q) (hso:∀ cs b,o.op ≠ .select cs b) (hj:j < ops.size) :
   ∀ {pre:List (Nat × Oper × Told)} {done:List (Nat × Log)} {a:Act} {σ:PH},(∀ z ∈ pre,(∀ cs b,z.2.1.op ≠ .select cs b)∧ApartP ops z.2.1 o∧(bef.getD j 0).testBit z.1=false∧(bef.getD z.1 0).testBit j=false∧z.1 ≠ j∧z.1 < ops.size)→Fin' σ →
   TR P call ops bef X (pre ++ (j,o,x) :: post) done Q a σ→TR P call ops bef X ((j,o,x) :: (pre ++ post)) done Q a σ
 | [],_,_,_,_,_,h => h
 | (i,p,y) :: pre,done,a,σ,hp,hf,⟨k,h1,hg,h2,h3⟩ => by
   obtain ⟨q1,q2,q3,q4,q5,q6⟩:=hp _ List.mem_cons_self
   refine TR_swap hQ q1 hso q2 q3 q4 q5 q6 hj hf ⟨k,h1,hg,h2,stepF_mono (stepF_fin (hg.1.okk hj (Ne.symm q5) q4) hf h3) ?_⟩
   rintro v τ ⟨hv,hft⟩
   exact TR_front hQ hso hj (fun z hz => hp z (List.mem_cons_of_mem _ hz)) hft hv
theorem only_le {bs:List Nat} {σ:PH} {w:World} (h:PH.le σ w):PH.le (PH.only bs σ) w:=by
 intro b o hb
 unfold PH.only at hb
 split at hb
 · exact h b o hb
 · cases hb
theorem step_sound {P:Program} {call:CallR} (hc:HC P call) {ops:Array Oper} {i:Nat} {o:Oper} {x:Told} {a:Act} {σ:PH} {w:World} {k:SK} {K:Value→PH→Prop} {N:Act→World→Prop} {Qx:Exit→Act→World→Prop}
   (ho:ops[i]?=some o) (hk:skOf P ops o x a=some k) (hw:PH.le σ w) (h:stepF P call k K σ)
   (hn:∀ v τ w',K v τ→PH.le τ w'→Fr σ w τ w'→N (a.put o.dst v) w'):wpOp P ops Qx i N a w:=by
 unfold wpOp
 simp only [ho]
 unfold skOf at hk
 split at hk
 · rename_i hwant
   cases hk
   rw [if_neg (by rw [hwant]; simp)]
   exact hn _ _ _ h hw (Fr.refl _ _)
 · rename_i hwant
   rw [if_pos hwant]
   refine .inl ?_
   split at hk
   · cases hk
     obtain ⟨n,w',τ,hr,⟨v,hv,hkv⟩,_,hfr⟩:=irun_sound _ h (w:=w) (fun b o hb => by cases hb)
     have hle:PH.le σ w':=by
       intro b ob hb
       have hlt:b < w.heap.size:=by
         rcases Nat.lt_or_ge b w.heap.size with h' | h'
         · exact h'
         · rw [hw.fresh h'] at hb; cases hb
       rw [hfr.block b hlt rfl]
       exact hw b ob hb
     have hF:Fr σ w σ w':=⟨hfr.os,hfr.tape,hfr.output,hfr.size,fun b hb _ => hfr.block b hb rfl,fun _ _ h => h⟩
     unfold Oper.wp
     rw [hr]
     cases n <;> cases hv <;> exact hn _ _ _ hkv hle hF
   · cases hk
     obtain ⟨n,w',τ,hr,⟨v,hv,hkv⟩,hl,hfr⟩:=irun_sound _ (irunF_irun _ h) hw
     unfold Oper.wp
     rw [hr]
     cases n <;> cases hv <;> exact hn _ _ _ hkv hl hfr
   · split at hk
     · rename_i g args hct
       cases hk
       obtain ⟨⟨hdom,hcall⟩,hkv⟩:=h
       unfold Oper.wp
       rw [callTo_run hct w]
       refine (hc _ _ _ _ _ hcall (only_le hw)).mono ?_
       rintro e w' ⟨v,τ,rfl,⟨rfl,hsub⟩,hl,hfr⟩
       refine hn _ σ _ hkv ?_ ?_
       · intro b ob hb
         by_cases hm:b ∈ x.bs
         · exact hl b ob (hsub b ob (by unfold PH.only; rw [List.contains_iff_mem.2 hm]; exact hb))
         · have hlt:b < w.heap.size:=by
             rcases Nat.lt_or_ge b w.heap.size with h' | h'
             · exact h'
             · rw [hw.fresh h'] at hb; cases hb
           have hnone:PH.only x.bs σ b=none:=by
             unfold PH.only
             cases hcb:x.bs.contains b with
             | false => rfl
             | true => exact absurd (List.contains_iff_mem.1 hcb) hm
           rw [hfr.block b hlt hnone]
           exact hw b ob hb
       · refine ⟨hfr.os,hfr.tape,hfr.output,hfr.size,fun b hb hnb => hfr.block b hb ?_,fun _ _ h => h⟩
         unfold PH.only
         split
         · exact hnb
         · rfl
     · cases hk
   · cases hk
     obtain ⟨n,w',τ,hr,⟨v,hv,hkv⟩,hl,hfr⟩:=irun_sound _ h hw
     unfold Oper.wp
     rw [hr]
     cases n <;> cases hv <;> exact hn _ _ _ hkv hl hfr
structure Left (ops:Array Oper) (bef:List Nat) (rem:List (Nat × Oper × Told)) (listed:Array Bool):Prop where
 ord:rem.Pairwise fun x y => (bef.getD x.1 0).testBit y.1=false∧x.1 ≠ y.1
 mem:∀ j,(∃ z ∈ rem,z.1=j) ↔ listed.getD j true=false
 at':∀ z ∈ rem,ops[z.1]?=some z.2.1
 size:listed.size=ops.size
 closed:∀ j,listed.getD j false=true→∀ i,(bef.getD j 0).testBit i=true→listed.getD i false=true
structure DOk (ops:Array Oper) (bef:List Nat):Prop where
 sel:∀ (j:Nat) (o:Oper) cs b,ops[j]?=some o→o.op ≠ .select cs b
 back:∀ (j:Nat) (o:Oper),ops[j]?=some o→∀ e ∈ o.after,Region.binds .any e=true→e.on < j
 apart:∀ (i j:Nat) (p o:Oper),i < j→ops[i]?=some p→ops[j]?=some o→(bef.getD j 0).testBit i=true ∨ p.apart ops o=true
 bef':∀ (j:Nat) (o:Oper) (e:Edge),ops[j]?=some o→e ∈ o.after→Region.binds .any e=true→(bef.getD j 0).testBit e.on=true
 bef:∀ (j:Nat) (o:Oper) (i:Nat),ops[j]?=some o→(bef.getD j 0).testBit i=true→∃ e ∈ o.after,Region.binds .any e=true∧(i=e.on ∨ (bef.getD e.on 0).testBit i=true)
theorem getD_tf {l:Array Bool} {j:Nat} (h:l.getD j true=false):j < l.size∧l.getD j false=false:=by
 have hlt:j < l.size:=by
   rcases Nat.lt_or_ge j l.size with h' | h'
   · exact h'
   · rw [Array.getD_eq_getD_getElem?,Array.getElem?_eq_none h'] at h; cases h
 refine ⟨hlt,?_⟩
 rw [Array.getD_eq_getD_getElem?,Array.getElem?_eq_getElem hlt] at h ⊢
 exact h
theorem getD_ft {l:Array Bool} {j:Nat} (hlt:j < l.size) (h:¬ l.getD j true=false):l.getD j false=true:=by
 rw [Array.getD_eq_getD_getElem?,Array.getElem?_eq_getElem hlt] at h ⊢
 simpa using h
theorem DOk.apart' {ops:Array Oper} {bef:List Nat} (h:DOk ops bef) {i j:Nat} {p o:Oper} (hij:i ≠ j) (hi:ops[i]?=some p) (hj:ops[j]?=some o) (h1:(bef.getD j 0).testBit i=false) (h2:(bef.getD i 0).testBit j=false):ApartP ops p o:=by
 rcases Nat.lt_or_gt_of_ne hij with hlt | hlt
 · rcases h.apart i j p o hlt hi hj with hb | hb
   · rw [h1] at hb; cases hb
   · exact Oper.apart_spec hb
 · rcases h.apart j i o p hlt hj hi with hb | hb
   · rw [h2] at hb; cases hb
   · exact ApartP.symm (Oper.apart_spec hb)
theorem TR_sound {P:Program} {call:CallR} (hc:HC P call) {ops:Array Oper} {bef:List Nat} (hok:DOk ops bef) {Q:Act→PH→Prop} {Qx:Exit→Act→World→Prop} {σ0:PH} {w0:World}
   (hQ:∀ a τ w,Q a τ→PH.le τ w→Fr σ0 w0 τ w→Qx .normal a w) :
   ∀ (fuel:Nat) (rem:List (Nat × Oper × Told)) (listed:Array Bool) (done:List (Nat × Log)) (a:Act) (σ:PH) (w:World),TR P call ops bef (fun _ _ => True) rem done (fun _ => Q) a σ→PH.le σ w→Fr σ0 w0 σ w→rem.length≤fuel →
     Left ops bef rem listed→wpAny P .any ops Qx fuel listed a w:=by
 intro fuel
 have empty:∀ (rem:List (Nat × Oper × Told)) (listed:Array Bool),Left ops bef rem listed→Region.ready .any ops listed=[]→rem=[]:=by
   intro rem listed hl hr
   cases rem with
   | nil => rfl
   | cons z rest =>
     exfalso
     have hm:z.1 ∈ Region.ready .any ops listed:=by
       rw [mem_ready]
       refine ⟨(hl.mem z.1).1 ⟨z,List.mem_cons_self,rfl⟩,z.2.1,hl.at' z List.mem_cons_self,fun e he hb => ?_⟩
       have hlt:=hok.back z.1 z.2.1 (hl.at' z List.mem_cons_self) e he hb
       have hsz:e.on < listed.size:=by
         have:=(getD_tf ((hl.mem z.1).1 ⟨z,List.mem_cons_self,rfl⟩)).1
         omega
       refine getD_ft hsz fun hu => ?_
       obtain ⟨z',hz',he'⟩:=(hl.mem e.on).2 hu
       cases hz' with
       | head => omega
       | tail _ hm =>
         have:=(List.pairwise_cons.1 hl.ord).1 z' hm
         have h2:=hok.bef' z.1 z.2.1 e (hl.at' z List.mem_cons_self) he hb
         rw [he'] at this
         rw [this.1] at h2; cases h2
     rw [hr] at hm; cases hm
 induction fuel with
 | zero =>
   intro rem listed done a σ w h hw hf hlen hl
   have:rem=[]:=List.length_eq_zero_iff.1 (by omega)
   subst this
   refine ⟨?_,hQ _ _ _ h hw hf⟩
   rw [List.eq_nil_iff_forall_not_mem]
   intro j hj
   rw [mem_ready] at hj
   obtain ⟨z,hz,_⟩:=(hl.mem j).2 hj.1
   cases hz
 | succ fuel ih =>
   intro rem listed done a σ w h hw hf hlen hl
   refine ⟨fun hr => ?_,fun i hi => ?_⟩
   · have:=empty rem listed hl hr
     subst this
     exact hQ _ _ _ h hw hf
   · have hi':=hi
     rw [mem_ready] at hi
     obtain ⟨hun,o',ho',hafter⟩:=hi
     obtain ⟨z,hz,rfl⟩:=(hl.mem i).2 hun
     obtain ⟨pre,post,rfl⟩:=List.append_of_mem hz
     obtain ⟨j,o,x⟩:=z
     have ho:=hl.at' _ hz
     simp only at ho ho' hun hi' hafter ⊢
     obtain rfl:o=o':=Option.some.inj (ho.symm.trans ho')
     have hord:=hl.ord
     rw [List.pairwise_append] at hord
     have hbefore:∀ i',(bef.getD j 0).testBit i'=true→listed.getD i' false=true:=by
       intro i' hb
       obtain ⟨e,he,hbi,hor⟩:=hok.bef j o i' ho hb
       rcases hor with rfl | hor
       · exact hafter e he hbi
       · exact hl.closed e.on (hafter e he hbi) i' hor
     have h:=TR_front (fun _ _ _ _ _ h => h) (hok.sel j o · · ho) (getD_tf hun |>.1 |> (hl.size ▸ ·)) (pre:=pre) (fun z hz' => by
       have hzr:z ∈ pre ++ (j,o,x) :: post:=List.mem_append_left _ hz'
       have hat:=hl.at' z hzr
       have hR:=hord.2.2 z hz' _ List.mem_cons_self
       simp only at hR
       have hzu:=(hl.mem z.1).1 ⟨z,hzr,rfl⟩
       have hnb:(bef.getD j 0).testBit z.1=false:=by
         cases hb:(bef.getD j 0).testBit z.1 with
         | false => rfl
         | true => have:=hbefore _ hb; rw [(getD_tf hzu).2] at this; cases this
       exact ⟨fun cs b => hok.sel z.1 z.2.1 cs b hat,hok.apart' hR.2 hat ho hnb hR.1,hnb,hR.1,hR.2,hl.size ▸ (getD_tf hzu).1⟩) (Fin'.of_le hw) h
     obtain ⟨k,hk,_,_,h⟩:=h
     refine step_sound hc ho hk hw h ?_
     intro v τ w' hv hle hfr
     refine ih (pre ++ post) _ _ _ _ _ hv hle (hf.trans hfr) (by simp at hlen ⊢; omega) ?_
     have hjlt:=(getD_tf hun).1
     have hne:∀ z ∈ pre ++ post,z.1 ≠ j:=by
       intro z hz' e
       rcases List.mem_append.1 hz' with hz' | hz'
       · have:=hord.2.2 z hz' _ List.mem_cons_self; simp only at this; omega
       · have:=(List.pairwise_cons.1 hord.2.1).1 z hz'; simp only at this; omega
     refine ⟨?_,?_,?_,by simp [hl.size],?_⟩
     · rw [List.pairwise_append]
       exact ⟨hord.1,(List.pairwise_cons.1 hord.2.1).2,fun z hz' z' hz'' => hord.2.2 z hz' z' (List.mem_cons_of_mem _ hz'')⟩
     · intro i'
       by_cases e:j=i'
       · subst e
         constructor
         · rintro ⟨z,hz',e⟩; exact absurd e (hne z hz')
         · intro hu
           have:(listed.setIfInBounds j true).getD j true=true:=by simp [hjlt]
           rw [this] at hu; cases hu
       · rw [getD_set_ne true e,← hl.mem i']
         constructor
         · rintro ⟨z,hz',e'⟩
           refine ⟨z,?_,e'⟩
           rcases List.mem_append.1 hz' with h' | h'
           · exact List.mem_append_left _ h'
           · exact List.mem_append_right _ (List.mem_cons_of_mem _ h')
         · rintro ⟨z,hz',e'⟩
           refine ⟨z,?_,e'⟩
           rcases List.mem_append.1 hz' with h' | h'
           · exact List.mem_append_left _ h'
           · cases h' with
             | head => exact absurd e' e
             | tail _ hm => exact List.mem_append_right _ hm
     · intro z hz'
       refine hl.at' z ?_
       rcases List.mem_append.1 hz' with h' | h'
       · exact List.mem_append_left _ h'
       · exact List.mem_append_right _ (List.mem_cons_of_mem _ h')
     · intro q hq i' hb
       by_cases e:j=q
       · subst e; exact getD_set_true (hbefore i' hb)
       · rw [getD_set_ne false e] at hq
         exact getD_set_true (hl.closed q hq i' hb)
end Go.Sl
