/- A part of the proof: see the last text, YthfnjogadngfiaaXi14. -/
import Derived.Orders
import Derived.KernelRfl
import Derived.Laws.BitsLemmas
import Derived.Scope
set_option maxRecDepth 100000
set_option linter.unusedVariables false
set_option linter.unusedSimpArgs false
namespace Go.Sl
abbrev PH:=Nat→Option Obj
def PH.le (σ:PH) (w:World):Prop:=∀ b o,σ b=some o→w.heap[b]?=some o
def PH.sub (σ τ:PH):Prop:=∀ b o,σ b=some o→τ b=some o
def PH.set (σ:PH) (b:Nat) (o:Obj):PH:=fun x => if x=b then some o else σ x
def PH.cell? (σ:PH) (a:Addr):Option Value :=
 match σ a.block with
 | some (.cells c _ _) => if a.spot.isSome then none else c[a.off]?
 | _ => none
def objSet (a:Addr) (v:Value):Obj→Obj
 | .cells c e f => .cells (if a.spot.isSome then c else c.setIfInBounds a.off v) e f
 | o => o
def PH.setCell (σ:PH) (a:Addr) (v:Value):PH:=fun x => if x=a.block then (σ x).map (objSet a v) else σ x
def PH.froz (σ:PH) (a:Addr):Option Bool :=
 match σ a.block with
 | some (.cells _ _ (lo,hi)) => some (lo≤a.off && a.off < hi)
 | some _ => some false
 | none => none
def PH.shape (σ:PH) (r:Nat):Option (Option (TypeId × Nat)) :=
 match σ r with
 | some (.cells c e _) => some (some (e,c.size))
 | some _ => some none
 | none => none
def PH.obj (σ:PH) (r:Nat):Option Obj :=
 match σ r with
 | some (.cells ..) => none
 | o => o
theorem PH.le.cell {σ:PH} {w:World} (h:σ.le w) {a:Addr} {v:Value} (hc:σ.cell? a=some v):w.cell? a=some v:=by
 unfold PH.cell? at hc
 cases hb:σ a.block with
 | none => rw [hb] at hc; cases hc
 | some o =>
   rw [hb] at hc
   have:=h _ _ hb
   unfold World.cell?
   rw [this]
   cases o <;> first | exact hc | cases hc
theorem PH.le.froz {σ:PH} {w:World} (h:σ.le w) {a:Addr} {v:Bool} (hc:σ.froz a=some v):w.frozen? a=v:=by
 unfold PH.froz at hc
 cases hb:σ a.block with
 | none => rw [hb] at hc; cases hc
 | some o =>
   rw [hb] at hc
   have:=h _ _ hb
   unfold World.frozen?
   rw [this]
   cases o <;> simp_all
theorem PH.le.shape {σ:PH} {w:World} (h:σ.le w) {r:Nat} {v:Option (TypeId × Nat)} (hc:σ.shape r=some v):w.shape? r=v:=by
 unfold PH.shape at hc
 cases hb:σ r with
 | none => rw [hb] at hc; cases hc
 | some o =>
   rw [hb] at hc
   have:=h _ _ hb
   unfold World.shape?
   rw [this]
   cases o <;> simp_all
theorem PH.le.setCell {σ:PH} {w:World} (h:σ.le w) (a:Addr) (v:Value):(σ.setCell a v).le (w.setCell a v):=by
 intro b o hb
 unfold PH.setCell at hb
 unfold World.setCell
 simp only [Array.getElem?_modify]
 by_cases e:b=a.block
 · subst e
   rw [if_pos rfl] at hb ⊢
   cases hs:σ a.block with
   | none => rw [hs] at hb; cases hb
   | some o' =>
     rw [hs] at hb
     rw [h _ _ hs]
     simp only [Option.map_some,Option.some.injEq] at hb ⊢
     rw [← hb]
     cases o' <;> rfl
 · rw [if_neg e] at hb
   rw [if_neg (Ne.symm e)]
   exact h _ _ hb
theorem PH.le.fresh {σ:PH} {w:World} (h:σ.le w) {b:Nat} (hb:w.heap.size≤b):σ b=none:=by
 cases hs:σ b with
 | none => rfl
 | some o =>
   have:=h _ _ hs
   rw [Array.getElem?_eq_none hb] at this
   cases this
theorem PH.le.push {σ:PH} {w w':World} (h:σ.le w) (o:Obj) (hw:w'.heap=w.heap.push o):(σ.set w.heap.size o).le w':=by
 intro b o' hb
 unfold PH.set at hb
 rw [hw,Array.getElem?_push]
 by_cases e:b=w.heap.size
 · rw [if_pos e] at hb ⊢; exact hb
 · rw [if_neg e] at hb ⊢; exact h _ _ hb
theorem PH.le.put {σ:PH} {w w':World} (h:σ.le w) {r:Nat} (o:Obj) (hr:r < w.heap.size) (hw:w'.heap=w.heap.setIfInBounds r o):(σ.set r o).le w':=by
 intro b o' hb
 unfold PH.set at hb
 rw [hw,Array.getElem?_setIfInBounds]
 by_cases e:b=r
 · subst e; rw [if_pos rfl] at hb ⊢; rw [if_pos hr]; exact hb
 · rw [if_neg e] at hb; rw [if_neg (Ne.symm e)]; exact h _ _ hb
theorem PH.sub.le {σ τ:PH} {w:World} (h:σ.sub τ) (hw:τ.le w):σ.le w:=fun b o hb => hw _ _ (h _ _ hb)
theorem PH.sub.refl (σ:PH):σ.sub σ:=fun _ _ h => h
theorem PH.sub.trans {σ τ υ:PH} (h:σ.sub τ) (k:τ.sub υ):σ.sub υ:=fun _ _ x => k _ _ (h _ _ x)
structure Fr (σ:PH) (w:World) (τ:PH) (w':World):Prop where
 os:w'.os=w.os
 tape:w'.tape=w.tape
 output:w'.output=w.output
 size:w.heap.size≤w'.heap.size
 block:∀ b,b < w.heap.size→σ b=none→w'.heap[b]?=w.heap[b]?
 dom:∀ b,b < w.heap.size→σ b=none→τ b=none
theorem Fr.refl (σ:PH) (w:World):Fr σ w σ w:=⟨rfl,rfl,rfl,Nat.le_refl _,fun _ _ _ => rfl,fun _ _ h => h⟩
theorem Fr.trans {σ τ υ:PH} {a b c:World} (h:Fr σ a τ b) (k:Fr τ b υ c):Fr σ a υ c :=
 ⟨k.os.trans h.os,k.tape.trans h.tape,k.output.trans h.output,Nat.le_trans h.size k.size,
   fun i hi hn => (k.block i (Nat.lt_of_lt_of_le hi h.size) (h.dom i hi hn)).trans (h.block i hi hn),
   fun i hi hn => k.dom i (Nat.lt_of_lt_of_le hi h.size) (h.dom i hi hn)⟩
theorem Fr.sub {σ τ υ:PH} {a b:World} (h:Fr σ a τ b) (k:υ.sub τ):Fr σ a υ b :=
 ⟨h.os,h.tape,h.output,h.size,h.block,fun i hi hn => by
   cases hs:υ i with
   | none => rfl
   | some o => have:=k _ _ hs; rw [h.dom i hi hn] at this; cases this⟩
def irun {α:Type} (P:Program):Sem α→(α→PH→Prop)→PH→Prop
 | .pure a,Q,σ => Q a σ
 | .load _ a k,Q,σ => ∃ v,σ.cell? a=some v∧irun P (k v) Q σ
 | .store _ _ (.agg _) _,_,_ | .store _ _ (.tuple _) _,_,_ => False
 | .store _ a v k,Q,σ => (∃ u,σ.cell? a=some u)∧σ.froz a=some false∧irun P k Q (σ.setCell a v)
 | .new o k,Q,σ => ∀ b,σ b=none→irun P (k b) Q (σ.set b o)
 | .shape r k,Q,σ => ∃ s,σ.shape r=some s∧irun P (k s) Q σ
 | .frozen a k,Q,σ => ∃ s,σ.froz a=some s∧irun P (k s) Q σ
 | .getObj r k,Q,σ => ∃ o,σ.obj r=some o∧irun P (k o) Q σ
 | .setObj r o k,Q,σ => (∃ u,σ.obj r=some u)∧irun P k Q (σ.set r o)
 | .choose q k,Q,σ => match q.forced with | true => irun P (k 0) Q σ | false => ∀ t,irun P (k (q.cut t)) Q σ
 | .program k,Q,σ => irun P (k P) Q σ
 | .mark _ k,Q,σ => irun P k Q σ
 | _,_,_ => False
theorem irun_sound {α:Type} {P:Program}:∀ (s:Sem α) {Q:α→PH→Prop} {σ:PH} {w:World},irun P s Q σ→σ.le w →
   ∃ v w' τ,s.run P w=.ok v w'∧Q v τ∧τ.le w'∧Fr σ w τ w':=by
 intro s
 induction s with
 | pure a => intro Q σ w h hw; exact ⟨a,w,σ,rfl,h,hw,Fr.refl _ _⟩
 | load m a k ih =>
   intro Q σ w h hw
   obtain ⟨v,hc,h⟩:=h
   obtain ⟨r,w',τ,hr,x⟩:=ih v h hw
   exact ⟨r,w',τ,by simp only [Sem.run,hw.cell hc]; exact hr,x⟩
 | store m a v k ih =>
   intro Q σ w h hw
   have key:((∃ u,σ.cell? a=some u)∧σ.froz a=some false∧irun P k Q (σ.setCell a v)) →
       ∃ r w' τ,k.run P (w.setCell a v)=.ok r w'∧Q r τ∧τ.le w'∧Fr σ w τ w':=by
     rintro ⟨⟨u0,hu0⟩,_,h⟩
     obtain ⟨r,w',τ,hr,q,l,f⟩:=ih h (hw.setCell a v)
     refine ⟨r,w',τ,hr,q,l,?_⟩
     refine Fr.trans (τ:=σ.setCell a v) (b:=w.setCell a v) ⟨rfl,rfl,rfl,?_,?_,?_⟩ f
     · simp [World.setCell]
     · intro b hb hn
       simp only [World.setCell,Array.getElem?_modify]
       by_cases e:a.block=b
       · subst e
         simp only [PH.cell?,hn] at hu0
         cases hu0
       · rw [if_neg e]
     · intro b hb hn
       simp [PH.setCell,hn]
   have cellw:(∃ u,σ.cell? a=some u)→∃ u,w.cell? a=some u:=fun ⟨u,hu⟩ => ⟨u,hw.cell hu⟩
   cases v
   case agg cs => exact h.elim
   case tuple cs => exact h.elim
   all_goals
     obtain ⟨u,hu⟩:=cellw h.1
     have hf:=hw.froz h.2.1
     obtain ⟨r,w',τ,hr,x⟩:=key h
     refine ⟨r,w',τ,?_,x⟩
     simp only [Sem.run,hu,hf]
     exact hr
 | new o k ih =>
   intro Q σ w h hw
   obtain ⟨r,w',τ,hr,q,l,f⟩:=ih w.heap.size (h _ (hw.fresh (Nat.le_refl _))) (hw.push o (w':={ w with heap:=w.heap.push o }) rfl)
   refine ⟨r,w',τ,hr,q,l,Fr.trans (τ:=σ.set w.heap.size o) (b:={ w with heap:=w.heap.push o }) ⟨rfl,rfl,rfl,?_,?_,?_⟩ f⟩
   · simp
   · intro b hb hn; show (w.heap.push o)[b]?=_; rw [Array.getElem?_push,if_neg (by omega)]
   · intro b hb hn; simp only [PH.set]; rw [if_neg (by omega)]; exact hn
 | shape r k ih =>
   intro Q σ w h hw
   obtain ⟨v,hc,h⟩:=h
   obtain ⟨r,w',τ,hr,x⟩:=ih v h hw
   exact ⟨r,w',τ,by simp only [Sem.run,hw.shape hc]; exact hr,x⟩
 | freeze a n k ih => intro Q σ w h hw; exact h.elim
 | frozen a k ih =>
   intro Q σ w h hw
   obtain ⟨v,hc,h⟩:=h
   obtain ⟨r,w',τ,hr,x⟩:=ih v h hw
   exact ⟨r,w',τ,by simp only [Sem.run,hw.froz hc]; exact hr,x⟩
 | getObj r k ih =>
   intro Q σ w h hw
   obtain ⟨o,hc,h⟩:=h
   obtain ⟨r',w',τ,hr,x⟩:=ih o h hw
   refine ⟨r',w',τ,?_,x⟩
   unfold PH.obj at hc
   cases hs:σ r with
   | none => rw [hs] at hc; cases hc
   | some o' =>
     rw [hs] at hc
     simp only [Sem.run,hw _ _ hs]
     cases o' <;> simp_all
 | setObj r o k ih =>
   intro Q σ w h hw
   obtain ⟨⟨u,hc⟩,h⟩:=h
   unfold PH.obj at hc
   cases hs:σ r with
   | none => rw [hs] at hc; cases hc
   | some o' =>
     have hlt:r < w.heap.size:=by
       rcases Nat.lt_or_ge r w.heap.size with h | h
       · exact h
       · rw [hw.fresh h] at hs; cases hs
     obtain ⟨r',w',τ,hr,q,l,f⟩:=ih h (hw.put o hlt (w':={ w with heap:=w.heap.setIfInBounds r o }) rfl)
     refine ⟨r',w',τ,?_,q,l,Fr.trans (τ:=σ.set r o) (b:={ w with heap:=w.heap.setIfInBounds r o }) ⟨rfl,rfl,rfl,?_,?_,?_⟩ f⟩
     · rw [hs] at hc
       simp only [Sem.run,hw _ _ hs]
       cases o' <;> simp_all
     · simp
     · intro b hb hn
       show (w.heap.setIfInBounds r o)[b]?=_
       rw [Array.getElem?_setIfInBounds,if_neg]
       intro e; subst e; rw [hn] at hs; cases hs
     · intro b hb hn; simp only [PH.set]; rw [if_neg]; exact hn
       intro e; subst e; rw [hn] at hs; cases hs
 | choose q k ih =>
   intro Q σ w h hw
   simp only [irun] at h
   cases hf:q.forced with
   | true =>
     rw [hf] at h
     obtain ⟨r,w',τ,hr,x⟩:=ih 0 h hw
     exact ⟨r,w',τ,by simp only [Sem.run,hf,if_true]; exact hr,x⟩
   | false =>
     rw [hf] at h
     obtain ⟨r,w',τ,hr,q',l,f⟩:=ih _ (h (w.tape w.drawn q)) (w:={ w with drawn:=w.drawn + 1 }) (by exact hw)
     exact ⟨r,w',τ,by simp only [Sem.run,hf,Bool.false_eq_true,if_false]; exact hr,q',l,⟨f.os,f.tape,f.output,f.size,f.block,f.dom⟩⟩
 | sys c k ih => intro Q σ w h hw; exact h.elim
 | program k ih =>
   intro Q σ w h hw
   obtain ⟨r,w',τ,hr,x⟩:=ih P h hw
   exact ⟨r,w',τ,hr,x⟩
 | mark m k ih =>
   intro Q σ w h hw
   obtain ⟨r,w',τ,hr,x⟩:=ih h hw
   exact ⟨r,w',τ,hr,x⟩
 | halt h => intro Q σ w h hw; exact h.elim
theorem irun_mono {α:Type} {P:Program}:∀ (s:Sem α) {Q Q':α→PH→Prop} {σ:PH},irun P s Q σ→(∀ v τ,Q v τ→Q' v τ)→irun P s Q' σ:=by
 intro s
 induction s with
 | pure a => intro Q Q' σ h k; exact k _ _ h
 | load m a k ih => rintro Q Q' σ ⟨v,hc,h⟩ hk; exact ⟨v,hc,ih v h hk⟩
 | store m a v k ih =>
   intro Q Q' σ h hk
   cases v
   case agg => exact h.elim
   case tuple => exact h.elim
   all_goals exact ⟨h.1,h.2.1,ih h.2.2 hk⟩
 | new o k ih => intro Q Q' σ h hk b hb; exact ih b (h b hb) hk
 | shape r k ih => rintro Q Q' σ ⟨v,hc,h⟩ hk; exact ⟨v,hc,ih v h hk⟩
 | freeze a n k ih => intro Q Q' σ h hk; exact h.elim
 | frozen r k ih => rintro Q Q' σ ⟨v,hc,h⟩ hk; exact ⟨v,hc,ih v h hk⟩
 | getObj r k ih => rintro Q Q' σ ⟨v,hc,h⟩ hk; exact ⟨v,hc,ih v h hk⟩
 | setObj r o k ih => rintro Q Q' σ ⟨hc,h⟩ hk; exact ⟨hc,ih h hk⟩
 | choose q k ih =>
   intro Q Q' σ h hk
   simp only [irun] at h ⊢
   cases hf:q.forced with
   | true => rw [hf] at h; exact ih 0 h hk
   | false => rw [hf] at h; exact fun t => ih _ (h t) hk
 | sys c k ih => intro Q Q' σ h hk; exact h.elim
 | program k ih => intro Q Q' σ h hk; exact ih P h hk
 | mark m k ih => intro Q Q' σ h hk; exact ih h hk
 | halt h => intro Q Q' σ h hk; exact h.elim
theorem irun_bind {α β:Type} {P:Program}:∀ (s:Sem α) (f:α→Sem β) {Q:β→PH→Prop} {σ:PH},irun P s (fun v τ => irun P (f v) Q τ) σ→irun P (s >>= f) Q σ:=by
 intro s f
 show ∀ {Q:β→PH→Prop} {σ:PH},irun P s (fun v τ => irun P (f v) Q τ) σ→irun P (s.bind f) Q σ
 induction s with
 | pure a => intro Q σ h; exact h
 | load m a k ih => rintro Q σ ⟨v,hc,h⟩; exact ⟨v,hc,ih v h⟩
 | store m a v k ih =>
   intro Q σ h
   cases v
   case agg => exact h.elim
   case tuple => exact h.elim
   all_goals exact ⟨h.1,h.2.1,ih h.2.2⟩
 | new o k ih => intro Q σ h b hb; exact ih b (h b hb)
 | shape r k ih => rintro Q σ ⟨v,hc,h⟩; exact ⟨v,hc,ih v h⟩
 | freeze a n k ih => intro Q σ h; exact h.elim
 | frozen r k ih => rintro Q σ ⟨v,hc,h⟩; exact ⟨v,hc,ih v h⟩
 | getObj r k ih => rintro Q σ ⟨v,hc,h⟩; exact ⟨v,hc,ih v h⟩
 | setObj r o k ih => rintro Q σ ⟨hc,h⟩; exact ⟨hc,ih h⟩
 | choose q k ih =>
   intro Q σ h
   simp only [irun,Sem.bind] at h ⊢
   cases hf:q.forced with
   | true => rw [hf] at h; exact ih 0 h
   | false => rw [hf] at h; exact fun t => ih _ (h t)
 | sys c k ih => intro Q σ h; exact h.elim
 | program k ih => intro Q σ h; exact ih P h
 | mark m k ih => intro Q σ h; exact ih h
 | halt h => intro Q σ h; exact h.elim
abbrev Env:=List (Option Value)
def eget:Env→Nat→Option Value
 | [],_ => none
 | x :: _,0 => x
 | _ :: xs,n + 1 => eget xs n
def eput:Env→Nat→Value→Env
 | [],_,_ => []
 | _ :: xs,0,v => some v :: xs
 | x :: xs,n + 1,v => x :: eput xs n v
def eputO (e:Env):Option Tmp→Value→Env
 | none,_ => e
 | some d,v => eput e d v
def emask:Nat→Env→Env
 | _,[] => []
 | m,x :: xs => (match m % 2 with | 0 => none | _ => x) :: emask (m / 2) xs
def eeval (e:Env):Operand→Option Value
 | .tmp t => eget e t
 | .const v => some v
 | .global g => some (.pointer (some ⟨g,0,none⟩))
 | .func f => some (.func (.func f) #[] #[])
def erho (e:Env) (x:Operand):Value:=(eeval e x).getD undef
def eknown (e:Env):List Operand→Bool
 | [] => true
 | x :: xs => match eeval e x with | some _ => eknown e xs | none => false
def leafs (P:Program):Nat→TypeId→List TypeId
 | 0,t => [t]
 | n + 1,t => match P.underlying t with
   | some (.struct fs) => fs.toList.flatMap fun f => leafs P n f.type
   | some (.array len e) => (List.replicate len (leafs P n e)).flatten
   | _ => [t]
def enum1 (P:Program) (t:TypeId) (K:Value→Prop):Prop :=
 match P.underlying t with
 | some (.int k) => ∃ n,K (.int k n)
 | some .bool => ∃ b,K (.bool b)
 | some .string => ∃ s,K (.string s)
 | some (.float k) => ∃ n,K (.float k n)
 | some (.pointer _) => ∃ a,K (.pointer a)
 | some (.slice _) => ∃ a n c,K (.slice a n c)
 | some (.map _ _) => ∃ r,K (.map r)
 | _ => ∃ v,K v
def enumL (P:Program):List TypeId→(List Value→Prop)→Prop
 | [],K => K []
 | t :: ts,K => enum1 P t fun v => enumL P ts fun vs => K (v :: vs)
def enumC (P:Program) (t:TypeId) (K:Value→Prop):Prop :=
 match P.underlying t with
 | some (.struct _) => enumL P (leafs P 8 t) fun vs => K (.agg vs.toArray)
 | some (.array _ _) => enumL P (leafs P 8 t) fun vs => K (.agg vs.toArray)
 | _ => enum1 P t K
def enumTup (P:Program):List TypeId→(List Value→Prop)→Prop
 | [],K => K []
 | t :: ts,K => enumC P t fun v => enumTup P ts fun vs => K (v :: vs)
def enumT (P:Program) (t:TypeId) (K:Value→Prop):Prop :=
 match P.underlying t with
 | some (.tuple ts) => enumTup P ts.toList fun vs => K (.tuple vs.toArray)
 | _ => enumC P t K
theorem enum1_ex {P:Program} {t:TypeId} {K:Value→Prop} (h:enum1 P t K):∃ v,K v:=by
 unfold enum1 at h
 split at h
 all_goals first
   | exact (let ⟨n,hn⟩:=h; ⟨_,hn⟩)
   | exact (let ⟨_,_,_,hn⟩:=h; ⟨_,hn⟩)
theorem enumL_ex {P:Program}:∀ {ts:List TypeId} {K:List Value→Prop},enumL P ts K→∃ v,K v
 | [],_,h => ⟨_,h⟩
 | _ :: _,_,h => let ⟨_,h1⟩:=enum1_ex h; let ⟨_,h2⟩:=enumL_ex h1; ⟨_,h2⟩
theorem enumC_ex {P:Program} {t:TypeId} {K:Value→Prop} (h:enumC P t K):∃ v,K v:=by
 unfold enumC at h
 split at h
 · exact let ⟨_,h⟩:=enumL_ex h; ⟨_,h⟩
 · exact let ⟨_,h⟩:=enumL_ex h; ⟨_,h⟩
 · exact enum1_ex h
theorem enumTup_ex {P:Program}:∀ {ts:List TypeId} {K:List Value→Prop},enumTup P ts K→∃ v,K v
 | [],_,h => ⟨_,h⟩
 | _ :: _,_,h => let ⟨_,h1⟩:=enumC_ex h; let ⟨_,h2⟩:=enumTup_ex h1; ⟨_,h2⟩
theorem enumT_ex {P:Program} {t:TypeId} {K:Value→Prop} (h:enumT P t K):∃ v,K v:=by
 unfold enumT at h
 split at h
 · exact let ⟨_,h⟩:=enumTup_ex h; ⟨_,h⟩
 · exact enumC_ex h
theorem enum1_mono {P:Program} {t:TypeId} {K K':Value→Prop} (hk:∀ v,K v→K' v) (h:enum1 P t K):enum1 P t K':=by
 unfold enum1 at h ⊢
 split at h
 all_goals first
   | exact (let ⟨_,hn⟩:=h; ⟨_,hk _ hn⟩)
   | exact (let ⟨_,_,_,hn⟩:=h; ⟨_,_,_,hk _ hn⟩)
theorem enumL_mono {P:Program}:∀ {ts:List TypeId} {K K':List Value→Prop},(∀ v,K v→K' v)→enumL P ts K→enumL P ts K'
 | [],_,_,hk,h => hk _ h
 | _ :: _,_,_,hk,h => enum1_mono (fun _ h => enumL_mono (fun _ h => hk _ h) h) h
theorem enumC_mono {P:Program} {t:TypeId} {K K':Value→Prop} (hk:∀ v,K v→K' v) (h:enumC P t K):enumC P t K':=by
 unfold enumC at h ⊢
 split at h
 · exact enumL_mono (fun _ h => hk _ h) h
 · exact enumL_mono (fun _ h => hk _ h) h
 · exact enum1_mono hk h
theorem enumTup_mono {P:Program}:∀ {ts:List TypeId} {K K':List Value→Prop},(∀ v,K v→K' v)→enumTup P ts K→enumTup P ts K'
 | [],_,_,hk,h => hk _ h
 | _ :: _,_,_,hk,h => enumC_mono (fun _ h => enumTup_mono (fun _ h => hk _ h) h) h
theorem enumT_mono {P:Program} {t:TypeId} {K K':Value→Prop} (hk:∀ v,K v→K' v) (h:enumT P t K):enumT P t K':=by
 unfold enumT at h ⊢
 split at h
 · exact enumTup_mono (fun _ h => hk _ h) h
 · exact enumC_mono hk h
abbrev CallR:=FuncId→Array Value→(Value→PH→Prop)→PH→Prop
def opens:Op→Bool
 | .load .. => true
 | _ => false
def igen (P:Program) (call:CallR) (o:Oper) (ρ:Operand→Value) (Q:Value→PH→Prop) (σ:PH):Prop :=
 irun P (execOp ρ o) (fun n τ => match n with
   | .value v => (match opens o.op with | true => enumT P o.type (fun u => v=u∧Q u τ) | false => Q v τ)
   | .skip => Q undef τ
   | .enter f args => call f args (fun v τ' => ∃ υ:PH,υ.sub τ'∧enumT P o.type (fun u => v=u∧Q u υ)) τ
   | _ => False) σ
def cutAt (a:Option Addr) (cap l size:Nat):Option Addr:=if cap=l then a else a.map (·.add (l * size))
def sizeT (P:Program) (t:TypeId):Option Nat:=(P.info? t).map (·.size)
def bytesT (P:Program) (t:TypeId):Option Nat:=(P.info? t).map (·.bytes)
def zeroT (P:Program) (t:TypeId):Option Value:=(P.info? t).bind (·.zero)
def rowAt (σ:PH) (a:Addr):Nat→List Value→Prop
 | _,[] => True
 | i,v :: vs => σ.cell? (a.add i)=some v∧rowAt σ a (i + 1) vs
def readsRow (σ:PH) (a:Option Addr) (vs:List Value):Prop :=
 match a with | some a => rowAt σ a 0 vs | none => vs=[]
def notFrozen (σ:PH) (a:Addr):Nat→Nat→Prop
 | _,0 => True
 | i,n + 1 => σ.froz (a.add i)=some false∧(∃ u,σ.cell? (a.add i)=some u)∧notFrozen σ a (i + 1) n
def putRow (σ:PH) (a:Addr):Nat→List Value→PH
 | _,[] => σ
 | i,v :: vs => putRow (σ.setCell (a.add i) v) a (i + 1) vs
def plainCell:Value→Prop
 | .agg _ | .tuple _ => False
 | _ => True
def zeros (z:Value) (n:Nat):Array Value:=Builtin.zeroCells z.cells n
def iappend (P:Program) (e:TypeId) (s x:Value) (Q:Value→PH→Prop) (σ:PH):Prop :=
 match sizeT P e,bytesT P e,zeroT P e,s,x with
 | some size,some bytes,some z,.slice base len cap,.slice xb n _ =>
   match z.cells.size == size with
   | false => False
   | true => ∃ olds news:List Value,olds.length=len * size∧news.length=n * size∧readsRow σ base olds∧readsRow σ xb news ∧
     (len + n≤cap→(match base with
       | some a => (∀ v ∈ news,plainCell v)∧notFrozen σ (a.add (len * size)) 0 (n * size)∧Q (.slice base (len + n) cap) (putRow σ (a.add (len * size)) 0 news)
       | none => Q (.slice none (len + n) cap) σ)) ∧
     (cap < len + n→bytes ≠ 0∧Builtin.nextslicecap (len + n) cap * bytes≤2 ^ 48∧∀ c b,len + n≤c→σ b=none →
       Q (.slice (some ⟨b,0,none⟩) (len + n) c) (σ.set b (.cells (olds.toArray ++ news.toArray ++ zeros z (c - (len + n))) e)))
 | _,_,_,_,_ => False
def IntKeys (k:IntKind) (es:Array MapEntry):Prop:=∀ e ∈ es.toList,∃ n,e.key=.int k n
def mIdx (n:Int):List MapEntry→Nat→Option (Nat × Value)
 | [],_ => none
 | e :: es,i => (match e.key with
   | .int _ m => (match n == m with | true => some (i,e.val) | false => mIdx n es (i + 1))
   | _ => none)
def mfind (n:Int) (es:Array MapEntry):Option Value:=(mIdx n es.toList 0).map (·.2)
def mput (es:Array MapEntry) (clock:Nat) (k:IntKind) (n:Int) (v:Value):Obj :=
 match mIdx n es.toList 0 with
 | some (i,_) => .map (es.modify i fun e => { e with key:=.int k n,val:=v }) clock
 | none => .map (es.push { key:=.int k n,val:=v,born:=clock }) (clock + 1)
def mdel (es:Array MapEntry) (clock:Nat) (n:Int):Obj :=
 match mIdx n es.toList 0 with
 | some (i,_) => .map (es.eraseIdxIfInBounds i) clock
 | none => .map es clock
def iop (P:Program) (call:CallR) (o:Oper) (ρ:Operand→Value) (Q:Value→PH→Prop) (σ:PH):Prop :=
 match o.op with
 | .nilCheck x => (match ρ x with
   | .pointer a => ∃ p,a=some p∧Q (.pointer (some p)) σ
   | _ => igen P call o ρ Q σ)
 | .indexAddr t x i => (match P.underlying t,ρ x,ρ i with
   | some (.slice e),.slice base len _,.int _ n => (match sizeT P e with
     | some size => ∃ p,base=some p∧0≤n∧n < len∧Q (.pointer (some (p.add (n.toNat * size)))) σ
     | none => False)
   | _,_,_ => igen P call o ρ Q σ)
 | .index t x i => (match P.underlying t,ρ x,ρ i with
   | some .string,.string s,.int _ n => ∃ b,0≤n∧s[n.toNat]?=some b∧Q (.int .u8 b.toNat) σ
   | _,_,_ => igen P call o ρ Q σ)
 | .slice t x lo hi mx => (match P.underlying t,ρ x,lo.map ρ,hi.map ρ,mx.map ρ with
   | some (.slice e),.slice a _ cap,none,some (.int _ h),some (.int _ m) => (match sizeT P e with
     | some _ => 0≤m∧m≤cap∧0≤h∧h≤m∧Q (.slice a h.toNat m.toNat) σ
     | none => False)
   | some (.slice e),.slice a len cap,l,h,none => (match sizeT P e,l,h with
     | some size,some (.int _ l),some (.int _ h) => 0≤h∧h≤cap∧0≤l∧l≤h∧Q (.slice (cutAt a cap l.toNat size) (h.toNat - l.toNat) (cap - l.toNat)) σ
     | some size,some (.int _ l),none => 0≤l∧l≤len∧Q (.slice (cutAt a cap l.toNat size) (len - l.toNat) (cap - l.toNat)) σ
     | some _,none,some (.int _ h) => 0≤h∧h≤cap∧Q (.slice a h.toNat cap) σ
     | some _,none,none => Q (.slice a len cap) σ
     | _,_,_ => False)
   | _,_,_,_,_ => igen P call o ρ Q σ)
 | .makeSlice t l c => (match P.underlying t,ρ l,ρ c with
   | some (.slice e),.int .i64 l,.int .i64 c => (match sizeT P e,bytesT P e,zeroT P e with
     | some size,some bytes,some z => (match z.cells.size == size with
       | false => False
       | true => 0≤l∧l≤c∧bytes * c≤2 ^ 47∧c < 2 ^ 62∧∀ b,σ b=none→Q (.slice (some ⟨b,0,none⟩) l.toNat c.toNat) (σ.set b (.cells (zeros z c.toNat) e)))
     | _,_,_ => False)
   | _,_,_ => igen P call o ρ Q σ)
 | .binOp op t x y _ => (match P.underlying t,ρ y with
   | some (.slice _),.slice none _ _ => (match op,ρ x with
     | .eql,.slice a _ _ => Q (.bool a.isNone) σ
     | .neq,.slice a _ _ => Q (.bool !a.isNone) σ
     | _,_ => False)
   | some (.pointer _),.pointer none => (match op,ρ x with
     | .eql,.pointer a => Q (.bool a.isNone) σ
     | .neq,.pointer a => Q (.bool !a.isNone) σ
     | _,_ => False)
   | _,_ => match op,ρ x,ρ y with
   | .quo,.int k a,.int .i64 b => b ≠ 0∧k=.i64∧Q (.int .i64 (IntKind.i64.wrap (a.tdiv b))) σ
   | .rem,.int k a,.int .i64 b => b ≠ 0∧k=.i64∧Q (.int .i64 (a.tmod b)) σ
   | .add,.float .f64 _,.float .f64 _ => ∀ r,Q (.float .f64 r) σ
   | .sub,.float .f64 _,.float .f64 _ => ∀ r,Q (.float .f64 r) σ
   | .mul,.float .f64 _,.float .f64 _ => ∀ r,Q (.float .f64 r) σ
   | .quo,.float .f64 _,.float .f64 _ => ∀ r,Q (.float .f64 r) σ
   | .gtr,.float .f64 _,.float .f64 _ => ∀ r,Q (.bool r) σ
   | .lss,.float .f64 _,.float .f64 _ => ∀ r,Q (.bool r) σ
   | _,_,_ => igen P call o ρ Q σ)
 | .call c => (match c.callee with
   | .builtin .append => (match c.args.toList.map ρ,c.argTypes.toList with
     | [s,x],t :: t' :: _ => (match P.underlying t,P.underlying t' with
       | some (.slice e),some (.slice _) => iappend P e s x (fun v τ => ∃ a n c,v=.slice a n c∧Q (.slice a n c) τ) σ
       | _,_ => False)
     | _,_ => False)
   | .builtin .delete => (match c.args.toList.map ρ,c.argTypes.toList with
     | [.map r,.int k n],t :: _ => (match P.underlying t with
       | some (.map kt _) => (match P.underlying kt with
         | some (.int k') => (match k == k' with
           | true => ∃ q,r=some q∧∃ es clock,σ q=some (.map es clock)∧IntKeys k es∧Q (.tuple #[]) (σ.set q (mdel es clock n))
           | false => False)
         | _ => False)
       | _ => False)
     | _,_ => False)
   | _ => igen P call o ρ Q σ)
 | .pick c a b => (match ρ c,ρ a,ρ b with
   | .bool c,.bool x,.bool y => Q (.bool (bif c then x else y)) σ
   | _,_,_ => igen P call o ρ Q σ)
 | .lookup t m x ok => (match P.underlying t,ρ m,ρ x with
   | some (.map kt et),.map r,.int k n => (match P.underlying kt,zeroT P et with
     | some (.int k'),some z => (match k == k' with
       | true => ∃ q,r=some q∧∃ es clock,σ q=some (.map es clock)∧IntKeys k es∧enumC P et (fun u => (mfind n es).getD z=u∧(match ok with
         | true => Q (.tuple #[u,.bool (mfind n es).isSome]) σ
         | false => Q u σ))
       | false => False)
     | _,_ => False)
   | _,_,_ => igen P call o ρ Q σ)
 | .mapUpdate t m x v => (match P.underlying t,ρ m,ρ x with
   | some (.map kt _),.map r,.int k n => (match P.underlying kt with
     | some (.int k') => (match k == k' with
       | true => ∃ q,r=some q∧∃ es clock,σ q=some (.map es clock)∧IntKeys k es∧Q undef (σ.set q (mput es clock k n (ρ v)))
       | false => False)
     | _ => False)
   | _,_,_ => igen P call o ρ Q σ)
 | .range t x => (match P.underlying t,ρ x with
   | some (.map _ _),.map r => ∃ q,r=some q∧∃ es clock,σ q=some (.map es clock)∧∀ b,σ b=none→Q (.pointer (some ⟨b,0,none⟩)) (σ.set b (.mapIter (some q) clock #[] clock))
   | _,_ => igen P call o ρ Q σ)
 | .next it false => (match ρ it with
   | .pointer (some p) => p.off=0∧∃ m since seen last es clock,σ p.block=some (.mapIter (some m) since seen last)∧σ m=some (.map es clock) ∧
       (∀ e ∈ es.toList,e.born < since)∧(seen.isEmpty=true ∨ es.isEmpty=true ∨ ∃ e ∈ es.toList,e.born < last) ∧
       ((∀ e ∈ es.toList,seen.contains e.born=true)→Q (.tuple #[.bool false]) σ) ∧
       (∀ e ∈ es.toList,seen.contains e.born=false→Q (.tuple #[.bool true,e.key,e.val]) (σ.set p.block (.mapIter (some m) since (seen.push e.born) clock)))
   | _ => igen P call o ρ Q σ)
 | .entry it => (match ρ it with
   | .pointer (some p) => p.off=0∧∃ m since seen stepped es clock stamp e,σ p.block=some (.mapIter (some m) since seen stepped)∧σ m=some (.map es clock) ∧
       clock=stepped∧seen.back?=some stamp∧es.find? (·.born == stamp)=some e∧∃ n,e.key=.int .i64 n∧Q (.tuple #[.int .i64 n,e.val]) σ
   | _ => igen P call o ρ Q σ)
 | .select _ _ => False
 | _ => igen P call o ρ Q σ
def br (b:Bool) (A B:Prop):Prop:=match b with | true => A | false => B
def iops (P:Program) (call:CallR) (all:Array Oper):List Oper→(Env→PH→Prop)→Env→PH→Prop
 | [],Q,e,σ => Q e σ
 | o :: os,Q,e,σ =>
   match o.guard with
   | none => (match eknown e o.op.operands.toList with
     | true => iop P call o (erho e) (fun v τ => iops P call all os Q (eputO e o.dst v) τ) σ
     | false => False)
   | some (j,want) => (match (all[j]?).bind (·.dst) with
     | none => False
     | some d => (match eget e d with
       | some (.bool b) =>
         br b (match want with
           | true => (match eknown (eput e d (.bool true)) o.op.operands.toList with
             | true => iop P call o (erho (eput e d (.bool true))) (fun v τ => iops P call all os Q (eputO (eput e d (.bool true)) o.dst v) τ) σ
             | false => False)
           | false => iops P call all os Q (eputO (eput e d (.bool true)) o.dst undef) σ)
          (match want with
           | false => (match eknown (eput e d (.bool false)) o.op.operands.toList with
             | true => iop P call o (erho (eput e d (.bool false))) (fun v τ => iops P call all os Q (eputO (eput e d (.bool false)) o.dst v) τ) σ
             | false => False)
           | true => iops P call all os Q (eputO (eput e d (.bool false)) o.dst undef) σ)
       | some (.tuple _) => iops P call all os Q (eputO e o.dst undef) σ
       | _ => False))
inductive Lo where
 | cell (b o:Nat)
 | blk (a:Option Addr)
 | many (bs:List Nat)
def Lo.ne:Lo→Lo→Prop
 | .cell b o,.cell b' o' => ¬ (b=b'∧o=o')
 | .cell b _,.blk a => ∀ p:Addr,a=some p→¬ b=p.block
 | .blk a,.cell b _ => ∀ p:Addr,a=some p→¬ p.block=b
 | .blk a,.blk a' => ∀ p p':Addr,a=some p→a'=some p'→¬ p.block=p'.block
 | .many bs,.cell b _ => ¬ b ∈ bs
 | .cell b _,.many bs => ¬ b ∈ bs
 | .many bs,.blk a => ∀ p:Addr,a=some p→¬ p.block ∈ bs
 | .blk a,.many bs => ∀ p:Addr,a=some p→¬ p.block ∈ bs
 | .many bs,.many bs' => ∀ b,b ∈ bs→¬ b ∈ bs'
def withC:List Prop→Prop→Prop
 | [],K => K
 | p :: ps,K => p∧withC ps K
structure Log where
 reads:List Lo
 writes:List Lo
def clash (x y:Log):List Prop :=
 (x.reads.flatMap fun r => y.writes.map r.ne) ++ (x.writes.flatMap fun w => y.reads.map w.ne) ++ (x.writes.flatMap fun w => y.writes.map w.ne)
def loCells (a:Addr) (i:Nat):Nat→List Lo
 | 0 => []
 | n + 1 => .cell (a.add i).block (a.add i).off :: loCells a (i + 1) n
inductive DK where
 | pure | heap | call | no
def dkind (o:Op):DK :=
 match o with
 | .move _ | .assign _ | .pick .. | .nilCheck _ | .binOp .. | .unOp .. | .convert .. | .fieldAddr .. | .field .. | .indexAddr .. | .index .. | .slice .. | .extract .. | .makeFunc .. | .build .. | .makeInterface .. => .pure
 | .load .. | .store .. | .alloc _ | .box .. | .buildSlice .. | .makeSlice .. | .makeMap .. => .heap
 | .call c => (match c.callee with
   | .builtin .append => .heap
   | .builtin .len | .builtin .cap | .builtin .max | .builtin .min => .pure
   | .value _ => .call
   | _ => .no)
 | _ => .no
def opLog (P:Program) (o:Op) (ρ:Operand→Value):Log :=
 match o with
 | .load t a => (match ρ a,sizeT P t with | .pointer (some p),some 0 => ⟨loCells p 0 1,[]⟩ | .pointer (some p),some (n + 1) => ⟨loCells p 0 (n + 1),[]⟩ | _,_ => ⟨[],[]⟩)
 | .store t a _ => (match ρ a,sizeT P t with | .pointer (some p),some n => ⟨[],loCells p 0 n⟩ | _,_ => ⟨[],[]⟩)
 | .call c => (match c.args.toList.map ρ with
   | [.slice s _ _,.slice x _ _] => ⟨[.blk s,.blk x],[.blk s]⟩
   | _ => ⟨[],[]⟩)
 | _ => ⟨[],[]⟩
def befs:List Oper→List Nat→List Nat
 | [],acc => acc
 | o :: os,acc => befs os (acc ++ [o.after.toList.foldl (fun s e => match Region.binds .any e with | true => s ||| 2 ^ e.on ||| acc.getD e.on 0 | false => s) 0])
def clashes (bj:Nat) (x:Log):List (Nat × Log)→List Prop
 | [] => []
 | (i,y) :: l => match bj.testBit i with | true => clashes bj x l | false => clash x y ++ clashes bj x l
structure Told where
 v:Value
 bs:List Nat
def qcalls (P:Program):List Oper→(List Told→Prop)→Prop
 | [],K => K []
 | o :: os,K => (match dkind o.op with
   | .call => enumT P o.type fun v => ∃ bs,qcalls P os fun l => K (⟨v,bs⟩ :: l)
   | _ => qcalls P os K)
def PH.only (bs:List Nat) (σ:PH):PH:=fun b => match bs.contains b with | true => σ b | false => none
def quiet (call:CallR) (f:FuncId) (args:Array Value) (v:Value) (bs:List Nat) (σ:PH):Prop :=
 (∀ b ∈ bs,σ b ≠ none)∧call f args (fun u τ => u=v∧(PH.only bs σ).sub τ) (PH.only bs σ)
def callTo (P:Program) (o:Op) (ρ:Operand→Value):Option (FuncId × Array Value) :=
 match o with
 | .call c => (match c.callee with
   | .value x => (match ρ x with
     | .func (.func g) first cap => (match P.funcs[g]? with
       | some fn => (match fn.name == "runtime.NumGoroutine", fn.body.isNone with
         | false,false => some (g,first ++ c.args.map ρ ++ cap)
         | _,_ => none)
       | none => none)
     | _ => none)
   | _ => none)
 | _ => none
def idcall (P:Program) (call:CallR) (o:Oper) (ρ:Operand→Value) (x:Told) (σ:PH):Prop :=
 match callTo P o.op ρ with
 | some (g,args) => quiet call g args x.v x.bs σ
 | none => False
def addLog (j:Nat) (done:List (Nat × Log)):Option Log→List (Nat × Log)
 | some l => (j,l) :: done
 | none => done
def toldLog (x:Told):Log:=⟨[.many x.bs],[]⟩
def noCall:CallR:=fun _ _ _ _ => False
def lastAt (n:Nat) (bef:List Nat) (j:Nat):Bool:=(j + 1 == n) && (bef.getD j 0 + 1 == 2 ^ j)
def idstep (P:Program) (call:CallR) (last:Bool) (bj:Nat) (o:Oper) (done:List (Nat × Log)) (cv:List Told) (K:Option Log→List Told→Env→PH→Prop) (e:Env) (σ:PH):Prop :=
 match eknown e o.op.operands.toList with
 | false => False
 | true => (match dkind o.op with
   | .pure => iop P noCall o (erho e) (fun v _ => K none cv (eputO e o.dst v) σ) (fun _ => none)
   | .heap => withC (clashes bj (opLog P o.op (erho e)) done) (iop P noCall o (erho e) (fun v τ => K (some (opLog P o.op (erho e))) cv (eputO e o.dst v) τ) σ)
   | .call => (match cv with
     | [] => False
     | x :: cv => withC (clashes bj (toldLog x) done) (idcall P call o (erho e) x σ∧K (some (toldLog x)) cv (eputO e o.dst x.v) σ))
   | .no => (match last with
     | true => iop P noCall o (erho e) (fun v τ => K none cv (eputO e o.dst v) τ) σ
     | false => False))
def skipTold (o:Oper) (cv:List Told):List Told:=match dkind o.op with | .call => cv.tail | _ => cv
def idraw (P:Program) (call:CallR) (all:Array Oper) (bef:List Nat):Nat→List Oper→List (Nat × Log)→List Told→(Env→PH→Prop)→Env→PH→Prop
 | _,[],_,_,Q,e,σ => Q e σ
 | j,o :: os,done,cv,Q,e,σ =>
   match o.guard with
   | none => idstep P call (lastAt all.size bef j) (bef.getD j 0) o done cv (fun l cv e σ => idraw P call all bef (j + 1) os (addLog j done l) cv Q e σ) e σ
   | some (g,want) => (match (all[g]?).bind (·.dst) with
     | none => False
     | some d => (match eget e d with
       | some (.bool b) =>
         br b (match want with
             | true => idstep P call (lastAt all.size bef j) (bef.getD j 0) o done cv (fun l cv e σ => idraw P call all bef (j + 1) os (addLog j done l) cv Q e σ) (eput e d (.bool true)) σ
             | false => idraw P call all bef (j + 1) os done (skipTold o cv) Q (eputO (eput e d (.bool true)) o.dst undef) σ)
           (match want with
             | false => idstep P call (lastAt all.size bef j) (bef.getD j 0) o done cv (fun l cv e σ => idraw P call all bef (j + 1) os (addLog j done l) cv Q e σ) (eput e d (.bool false)) σ
             | true => idraw P call all bef (j + 1) os done (skipTold o cv) Q (eputO (eput e d (.bool false)) o.dst undef) σ)
       | some (.tuple _) => idraw P call all bef (j + 1) os done (skipTold o cv) Q (eputO e o.dst undef) σ
       | _ => False))
def drawOk (ops:Array Oper) (bef:List Nat):Bool :=
 Region.noSelect ops &&
 ops.toList.zipIdx.all fun (o,j) =>
   (o.after.toList.all fun e => !Region.binds .any e || e.on < j) &&
   ops.toList.zipIdx.all fun (p,i) => j≤i || (bef.getD j 0).testBit i || p.apart ops o
def idrawn (P:Program) (call:CallR) (ops:Array Oper) (Q:Env→PH→Prop) (e:Env) (σ:PH):Prop :=
 match drawOk ops (befs ops.toList []) with
 | true => qcalls P ops.toList fun cv => idraw P call ops (befs ops.toList []) 0 ops.toList [] cv Q e σ
 | false => False
def Lo.stab (σ υ:PH):Lo→Prop
 | .cell b o => υ.cell? ⟨b,o,none⟩=σ.cell? ⟨b,o,none⟩
 | _ => False
def stabs (bc:Nat) (σ υ:PH):List (Nat × Log)→List Prop
 | [] => []
 | (i,y) :: l => match bc.testBit i with | true => stabs bc σ υ l | false => y.reads.map (Lo.stab σ υ) ++ stabs bc σ υ l
def detAt (o:Op) (ρ:Operand→Value):Bool :=
 match o with
 | .move _ | .assign _ => true
 | .load _ x => (match ρ x with | .pointer _ => true | _ => false)
 | .nilCheck x => (match ρ x with | .pointer _ => true | _ => false)
 | .fieldAddr _ x _ => (match ρ x with | .pointer _ => true | _ => false)
 | .binOp op _ x y _ => (match op,ρ x,ρ y with
   | .add,.int _ _,.int _ _ => true
   | .sub,.int _ _,.int _ _ => true
   | _,_,_ => false)
 | _ => false
def isCall (o:Op):Bool:=match dkind o with | .call => true | _ => false
def callAt:Nat→List Oper→Option (Nat × Oper)
 | _,[] => none
 | j,o :: os => match isCall o.op with | true => some (j,o) | false => callAt (j + 1) os
def preE (bef:List Nat) (c:Nat):Nat→List Oper→List (Nat × Oper)
 | _,[] => []
 | j,o :: os => match (j == c) || (bef.getD j 0).testBit c with | true => preE bef c (j + 1) os | false => (j,o) :: preE bef c (j + 1) os
def postE (bef:List Nat) (c:Nat):Nat→List Oper→List (Nat × Oper)
 | _,[] => []
 | j,o :: os => match !(j == c) && (bef.getD j 0).testBit c with | true => (j,o) :: postE bef c (j + 1) os | false => postE bef c (j + 1) os
def linOk (bef:List Nat):List Nat→Bool
 | [] => true
 | x :: l => (l.all fun y => !(bef.getD x 0).testBit y && x != y) && linOk bef l
def eOk (ops:Array Oper) (bef:List Nat) (c:Nat):Bool :=
 drawOk ops bef && ((preE bef c 0 ops.toList).length + 1 + (postE bef c 0 ops.toList).length == ops.size) && linOk bef ((preE bef c 0 ops.toList).map (·.1) ++ c :: (postE bef c 0 ops.toList).map (·.1)) &&
 (List.range ops.size).all (fun j => ((preE bef c 0 ops.toList).map (·.1) ++ c :: (postE bef c 0 ops.toList).map (·.1)).contains j) &&
 (postE bef c 0 ops.toList).all fun z => (bef.getD z.1 0).testBit c
def idrawP (P:Program) (call:CallR) (all:Array Oper) (bef:List Nat) (bc:Nat):List (Nat × Oper)→List (Nat × Log)→(List (Nat × Log)→Env→PH→Prop)→Env→PH→Prop
 | [],done,Q,e,σ => Q done e σ
 | (j,o) :: os,done,Q,e,σ =>
   match o.guard with
   | none => (match bc.testBit j || detAt o.op (erho e) with
     | true => idstep P call (lastAt all.size bef j) (bef.getD j 0) o done [] (fun l _ e σ => idrawP P call all bef bc os (addLog j done l) Q e σ) e σ
     | false => False)
   | some _ => False
def idrawL (P:Program) (call:CallR) (all:Array Oper) (bef:List Nat):List (Nat × Oper)→List (Nat × Log)→(List (Nat × Log)→Env→PH→Prop)→Env→PH→Prop
 | [],done,Q,e,σ => Q done e σ
 | (j,o) :: os,done,Q,e,σ =>
   match o.guard with
   | none => idstep P call (lastAt all.size bef j) (bef.getD j 0) o done [] (fun l _ e σ => idrawL P call all bef os (addLog j done l) Q e σ) e σ
   | some _ => False
def iecall (P:Program) (call:CallR) (all:Array Oper) (bef:List Nat) (c:Nat) (oc:Oper) (post:List (Nat × Oper)) (Q:Env→PH→Prop) (done:List (Nat × Log)) (e:Env) (σ:PH):Prop :=
 match eknown e oc.op.operands.toList with
 | false => False
 | true => (match callTo P oc.op (erho e) with
   | none => False
   | some (g,args) => call g args (fun v τ => ∃ υ:PH,υ.sub τ∧withC (stabs (bef.getD c 0) σ υ done) (enumT P oc.type fun u => v=u∧idrawL P call all bef post done (fun _ e σ => Q e σ) (eputO e oc.dst u) υ)) σ)
def idrawnE (P:Program) (call:CallR) (ops:Array Oper) (Q:Env→PH→Prop) (e:Env) (σ:PH):Prop :=
 match callAt 0 ops.toList with
 | none => False
 | some (c,oc) => (match oc.guard with
   | some _ => False
   | none => (match eOk ops (befs ops.toList []) c with
     | false => False
     | true => idrawP P call ops (befs ops.toList []) ((befs ops.toList []).getD c 0) (preE (befs ops.toList []) c 0 ops.toList) []
         (iecall P call ops (befs ops.toList []) c oc (postE (befs ops.toList []) c 0 ops.toList) Q) e σ))
inductive Ann where
 | no
 | eff
 | go (l r:Ann)
 | at (m:Nat) (l r:Ann)
def Ann.l:Ann→Ann | .no => .no | .eff => .no | .go l _ => l | .at _ l _ => l
def Ann.r:Ann→Ann | .no => .no | .eff => .no | .go _ r => r | .at _ _ r => r
def Ann.cut:Ann→Env→Env | .at m _ _,e => emask m e | _,e => e
inductive IX where
 | normal
 | exit (id:Nat)
 | ret
def loopK (cut:Env→Env) (R:Env→PH→Prop) (Q:IX→Env→PH→Prop):IX→Env→PH→Prop
 | .normal,e,σ => R (cut e) σ
 | .exit i,e,σ => Q (.exit i) e σ
 | .ret,e,σ => Q .ret e σ
def iloop (body:(IX→Env→PH→Prop)→Env→PH→Prop) (cut:Env→Env) (Q:IX→Env→PH→Prop) (e:Env) (σ:PH):Prop :=
 ∀ R:Env→PH→Prop,(∀ e σ,body (loopK cut R Q) e σ→R e σ)→R e σ
def seqK (next:Env→PH→Prop) (cut:Env→Env) (Q:IX→Env→PH→Prop):IX→Env→PH→Prop
 | .normal,e,σ => next (cut e) σ
 | .exit i,e,σ => Q (.exit i) e σ
 | .ret,e,σ => Q .ret e σ
def blockK (id:Nat) (Q:IX→Env→PH→Prop):IX→Env→PH→Prop
 | .normal,e,σ => Q .normal e σ
 | .exit i,e,σ => (match i == id with | true => Q .normal e σ | false => Q (.exit i) e σ)
 | .ret,e,σ => Q .ret e σ
def icode (P:Program) (call:CallR):Code→Ann→(IX→Env→PH→Prop)→Env→PH→Prop
 | .skip,_,Q,e,σ => Q .normal e σ
 | .label _,_,Q,e,σ => Q .normal e σ
 | .region _ ops false,_,Q,e,σ => iops P call ops ops.toList (fun e τ => Q .normal e τ) e σ
 | .region _ ops true,n,Q,e,σ => (match n with
   | .eff => idrawnE P call ops (fun e τ => Q .normal e τ) e σ
   | _ => idrawn P call ops (fun e τ => Q .normal e τ) e σ)
 | .seq a b,n,Q,e,σ => icode P call a n.l (seqK (icode P call b n.r Q) n.cut Q) e σ
 | .cond c a b,n,Q,e,σ => (match eeval e c with
   | some (.bool t) => br t (icode P call a n.l Q e σ) (icode P call b n.r Q e σ)
   | _ => False)
 | .block id a,n,Q,e,σ => icode P call a n.l (blockK id Q) e σ
 | .loop a,n,Q,e,σ => iloop (icode P call a n.l) n.cut Q (n.cut e) σ
 | .scope a,n,Q,e,σ => icode P call a n.l Q e σ
 | .exit i,_,Q,e,σ => Q (.exit i) e σ
 | .ret,_,Q,e,σ => Q .ret e σ
 | _,_,_,_,_ => False
def startEnv (fn:Func) (args:Array Value):Env:=args.toList.map some ++ List.replicate (fn.ntmps - args.size) (some undef)
def iretL (P:Program) (e:Env):List ResultVar→(List Value→Prop)→PH→Prop
 | [],K,_ => K []
 | .tmp t :: rs,K,σ => (match eget e t with
   | some v => iretL P e rs (fun vs => K (v :: vs)) σ
   | none => False)
 | .cell a t :: rs,K,σ => (match eget e a with
   | some (.pointer (some p)) => irun P (loadVar t p) (fun v _ => iretL P e rs (fun vs => K (v :: vs)) σ) σ
   | _ => False)
def iret (P:Program) (fn:Func) (Q:Value→PH→Prop) (e:Env) (σ:PH):Prop :=
 iretL P e fn.results.toList (fun vs => match vs with
   | [v] => Q v σ
   | vs => Q (.tuple vs.toArray) σ) σ
def finK (P:Program) (fn:Func) (Q:Value→PH→Prop):IX→Env→PH→Prop
 | .exit _,_,_ => False
 | .normal,e,τ => iret P fn Q e τ
 | .ret,e,τ => iret P fn Q e τ
def ibody (P:Program) (anns:FuncId→Ann) (call:CallR) (f:FuncId) (args:Array Value) (Q:Value→PH→Prop) (σ:PH):Prop :=
 match P.funcs[f]? with
 | none => False
 | some fn => (match fn.body with
   | none => False
   | some c => icode P call c (anns f) (finK P fn Q) (startEnv fn args) σ)
def ICall (P:Program) (anns:FuncId→Ann) (base:CallR) (f:FuncId) (args:Array Value) (Q:Value→PH→Prop) (σ:PH):Prop :=
 ∀ R:CallR,(∀ f args Q σ,base f args Q σ→R f args Q σ)→(∀ f args Q σ,ibody P anns R f args Q σ→R f args Q σ)→R f args Q σ
def nav:List Bool→Code→Code
 | [],c => c
 | b :: p,.seq x y => nav p (match b with | true => y | false => x)
 | b :: p,.cond _ x y => nav p (match b with | true => y | false => x)
 | _ :: p,.block _ x => nav p x
 | _ :: p,.loop x => nav p x
 | _ :: p,.scope x => nav p x
 | _,c => c
def anav:List Bool→Ann→Ann
 | [],n => n
 | b :: p,n => anav p (match b with | true => n.r | false => n.l)
theorem irun_pure {α:Type} {P:Program} {a:α} {Q:α→PH→Prop} {σ:PH} (h:Q a σ):irun P (pure a) Q σ:=h
theorem irun_underlying {α:Type} {P:Program} {t:TypeId} {d:TypeDesc} (hd:P.underlying t=some d) {f:TypeDesc→Sem α} {Q:α→PH→Prop} {σ:PH}
   (h:irun P (f d) Q σ):irun P (underlying t >>= f) Q σ:=by
 refine irun_bind _ _ ?_
 show irun P ((match P.underlying t with | some d => pure d | none => stuck "no such type" : Sem TypeDesc)) _ _
 rw [hd]; exact h
theorem irun_underlying' {P:Program} {t:TypeId} {d:TypeDesc} (hd:P.underlying t=some d) {Q:TypeDesc→PH→Prop} {σ:PH}
   (h:Q d σ):irun P (underlying t) Q σ:=by
 show irun P ((match P.underlying t with | some d => pure d | none => stuck "no such type" : Sem TypeDesc)) _ _
 rw [hd]; exact h
theorem irun_sizeOf {α:Type} {P:Program} {t:TypeId} {n:Nat} (hd:sizeT P t=some n) {f:Nat→Sem α} {Q:α→PH→Prop} {σ:PH}
   (h:irun P (f n) Q σ):irun P (sizeOf t >>= f) Q σ:=by
 refine irun_bind _ _ ?_
 unfold sizeT at hd
 show irun P ((match P.info? t with | some i => pure i | none => stuck "no such type" : Sem TypeInfo) >>= fun i => pure i.size) _ _
 cases hi:P.info? t with
 | none => rw [hi] at hd; cases hd
 | some i => rw [hi] at hd; cases hd; exact h
theorem irun_typeInfo {α:Type} {P:Program} {t:TypeId} {i:TypeInfo} (hd:P.info? t=some i) {f:TypeInfo→Sem α} {Q:α→PH→Prop} {σ:PH}
   (h:irun P (f i) Q σ):irun P (typeInfo t >>= f) Q σ:=by
 refine irun_bind _ _ ?_
 show irun P ((match P.info? t with | some i => pure i | none => stuck "no such type" : Sem TypeInfo)) _ _
 rw [hd]; exact h
theorem irun_zeroValue {α:Type} {P:Program} {t:TypeId} {v:Value} (hd:zeroT P t=some v) {f:Value→Sem α} {Q:α→PH→Prop} {σ:PH}
   (h:irun P (f v) Q σ):irun P (zeroValue t >>= f) Q σ:=by
 refine irun_bind _ _ ?_
 unfold zeroT at hd
 cases hi:P.info? t with
 | none => rw [hi] at hd; cases hd
 | some i =>
   rw [hi] at hd
   unfold zeroValue
   refine irun_typeInfo hi ?_
   simp only [Option.bind_some] at hd
   rw [hd]; exact h
theorem irun_loadFrom {P:Program} {a:Addr} {Q:Array Value→PH→Prop} {σ:PH}:∀ (vs:List Value) (i:Nat) (acc:Array Value),
   rowAt σ a i vs→Q (acc ++ vs.toArray) σ→irun P (loadCellsFrom a i vs.length acc) Q σ:=by
 intro vs
 induction vs with
 | nil => intro i acc _ h; exact irun_pure (by simpa using h)
 | cons v vs ih =>
   rintro i acc ⟨h1,h2⟩ h
   refine ⟨v,h1,?_⟩
   exact ih (i + 1) (acc.push v) h2 (by simpa using h)
theorem irun_loadCells {P:Program} {a:Addr} {Q:Array Value→PH→Prop} {σ:PH} {vs:List Value} {n:Nat} (hn:vs.length=n) (h:rowAt σ a 0 vs) (hq:Q vs.toArray σ) :
   irun P (loadCells a n) Q σ:=by
 subst hn
 exact irun_loadFrom vs 0 #[] h (by simpa using hq)
theorem irun_firstCells {P:Program} {size n:Nat} {a:Option Addr} {m c:Nat} {Q:Array Value→PH→Prop} {σ:PH} {vs:List Value} (hn:vs.length=n * size) (h:readsRow σ a vs) (hq:Q vs.toArray σ) :
   irun P (Builtin.firstCells size n (.slice a m c)) Q σ:=by
 cases a with
 | none => have:vs=[]:=h; subst this; exact hq
 | some a => exact irun_loadCells hn h hq
theorem setCell_cell? {σ:PH} {a b:Addr} {v u:Value} (h:σ.cell? b=some u):∃ u',(σ.setCell a v).cell? b=some u':=by
 unfold PH.cell? PH.setCell at *
 by_cases e:b.block=a.block
 · rw [if_pos e]
   cases hs:σ b.block with
   | none => rw [hs] at h; cases h
   | some o =>
     rw [hs] at h
     cases o <;> try cases h
     rename_i c t f
     simp only [Option.map_some,objSet]
     have h:(if b.spot.isSome=true then none else c[b.off]?)=some u:=h
     by_cases hb:b.spot.isSome=true
     · rw [if_pos hb] at h; cases h
     · rw [if_neg hb] at h ⊢
       by_cases ha:a.spot.isSome=true
       · rw [if_pos ha]; exact ⟨_,h⟩
       · rw [if_neg ha,Array.getElem?_setIfInBounds]
         split
         · rename_i heq
           rw [← heq] at h
           have hl:a.off < c.size:=by
             rcases Nat.lt_or_ge a.off c.size with h' | h'
             · exact h'
             · rw [Array.getElem?_eq_none h'] at h; cases h
           rw [if_pos hl]; exact ⟨_,rfl⟩
         · exact ⟨_,h⟩
 · rw [if_neg e]; exact ⟨u,h⟩
theorem setCell_froz {σ:PH} {a b:Addr} {v:Value}:(σ.setCell a v).froz b=σ.froz b:=by
 unfold PH.froz PH.setCell
 by_cases e:b.block=a.block
 · rw [if_pos e]
   cases hs:σ b.block with
   | none => rfl
   | some o => cases o <;> rfl
 · rw [if_neg e]
theorem notFrozen_setCell {σ:PH} {a b:Addr} {v:Value}:∀ {n i:Nat},notFrozen σ b i n→notFrozen (σ.setCell a v) b i n
 | 0,_,_ => trivial
 | n + 1,i,⟨h1,⟨_,h2⟩,h3⟩ => ⟨by rw [setCell_froz]; exact h1,setCell_cell? h2,notFrozen_setCell h3⟩
theorem irun_storeCells {P:Program} {a:Addr} {Q:Unit→PH→Prop}:∀ (vs:List Value) (i:Nat) (σ:PH),(∀ v ∈ vs,plainCell v)→notFrozen σ a i vs.length →
   Q () (putRow σ a i vs)→irun P (storeCells a vs i) Q σ:=by
 intro vs
 induction vs with
 | nil => intro i σ _ _ h; exact h
 | cons v vs ih =>
   rintro i σ hp ⟨h1,h2,h3⟩ h
   have step:irun P (storeCells a vs (i + 1)) Q (σ.setCell (a.add i) v) :=
     ih (i + 1) _ (fun u hu => hp u (List.mem_cons_of_mem _ hu)) (notFrozen_setCell h3) h
   have hv:=hp v List.mem_cons_self
   show irun P (Go.store (a.add i) v >>= fun _ => storeCells a vs (i + 1)) Q σ
   refine irun_bind _ _ ?_
   cases v
   case agg => exact hv.elim
   case tuple => exact hv.elim
   all_goals exact ⟨h2,h1,step⟩
theorem igen_value {P:Program} {call:CallR} {o:Oper} {ρ:Operand→Value} {Q:Value→PH→Prop} {σ:PH} {s:Sem Value}
   (he:execOp ρ o=(do pure (.value (← s)))) (ho:opens o.op=false) (h:irun P s Q σ):igen P call o ρ Q σ:=by
 unfold igen
 rw [he]
 refine irun_bind _ _ (irun_mono _ h ?_)
 intro v τ hq
 show (match opens o.op with | true => _ | false => _)
 rw [ho]; exact hq
theorem iappend_mono {P:Program} {e:TypeId} {s x:Value} {Q Q':Value→PH→Prop} {σ:PH} (hq:∀ v τ,Q v τ→Q' v τ) (h:iappend P e s x Q σ):iappend P e s x Q' σ:=by
 unfold iappend at h ⊢
 split at h
 · split at h
   · exact h.elim
   · rename_i hz
     (try simp only [hz])
     obtain ⟨olds,news,h1,h2,h3,h4,h5,h6⟩:=h
     refine ⟨olds,news,h1,h2,h3,h4,fun hc => ?_,fun hc => ?_⟩
     · have:=h5 hc
       split at this
       · exact ⟨this.1,this.2.1,hq _ _ this.2.2⟩
       · exact hq _ _ this
     · obtain ⟨a1,a2,a3⟩:=h6 hc
       exact ⟨a1,a2,fun c b h1 h2 => hq _ _ (a3 c b h1 h2)⟩
 · exact h.elim
theorem irun_append {P:Program} {e t t':TypeId} {l:List TypeId} {e':TypeId} {T:TypeId} {s x:Value} {Q:Value→PH→Prop} {σ:PH}
   (ht:P.underlying t=some (.slice e)) (ht':P.underlying t'=some (.slice e')) (h:iappend P e s x Q σ) :
   irun P (Builtin.append_ (t :: t' :: l).toArray T #[s,x]) Q σ:=by
 unfold iappend at h
 split at h
 rotate_left
 · exact h.elim
 rename_i size bytes z base len cap xb n xc h1 h2 h3
 split at h
 · exact h.elim
 rename_i hz
 have hz:z.cells.size=size:=by simpa using hz
 obtain ⟨olds,news,ho,hn,ro,rn,hin,hout⟩:=h
 unfold Builtin.append_
 simp only [List.getElem?_toArray,List.getElem?_cons_zero,List.getElem?_cons_succ]
 refine irun_underlying ht ?_
 refine irun_sizeOf h1 ?_
 refine irun_bind _ _ ?_
 refine irun_underlying' ht' ?_
 refine irun_bind _ _ ?_
 refine irun_pure ?_
 refine irun_bind _ _ ?_
 refine irun_pure ?_
 unfold sizeT at h1; unfold bytesT at h2;
 cases hi:P.info? e with
 | none => rw [hi] at h1; cases h1
 | some i =>
 rw [hi] at h1 h2
 simp only [Option.map_some,Option.some.injEq] at h1 h2
 have hzT:zeroT P e=some z:=h3
 by_cases hc:len + n≤cap
 · rw [if_pos hc]
   simp only [Bool.not_false,if_true]
   refine irun_bind _ _ ?_
   refine irun_firstCells hn rn ?_
   have hin:=hin hc
   cases base with
   | none => exact hin
   | some a =>
     obtain ⟨hp,hf,hq⟩:=hin
     refine irun_bind _ _ ?_
     exact irun_storeCells news 0 σ hp (by rw [hn]; exact hf) hq
 · rw [if_neg hc]
   obtain ⟨hb,hcap,hq⟩:=hout (by omega)
   refine irun_typeInfo hi ?_
   rw [h2]
   rw [if_neg (by simp; omega)]
   refine irun_typeInfo hi ?_
   rw [h2]
   rw [if_neg (by omega)]
   refine irun_bind _ _ ?_
   show ∀ t,_
   intro tt
   show irun P _ _ _
   refine irun_typeInfo hi ?_
   rw [h2]
   refine irun_bind _ _ ?_
   have hroom:∀ (m:Nat) (K:Unit→PH→Prop) (τ:PH),K () τ→irun P (askRoom m) K τ:=by
     intro m K τ hk
     unfold askRoom
     split
     · exact hk
     · exact hk
   refine hroom _ _ _ ?_
   refine irun_bind _ _ ?_
   refine irun_firstCells ho ro ?_
   refine irun_bind _ _ ?_
   simp only [Bool.not_false,if_true]
   refine irun_firstCells hn rn ?_
   refine irun_zeroValue hzT ?_
   refine irun_bind _ _ ?_
   unfold newRow
   refine irun_bind _ _ ?_
   intro b hb'
   exact hq _ b (Nat.le_add_right _ _) hb'
theorem irun_indexAt {P:Program} {t e:TypeId} {size:Nat} {base:Option Addr} {len cap:Nat} {k:IntKind} {n:Int} {p:Addr} {Q:Value→PH→Prop} {σ:PH}
   (ht:P.underlying t=some (.slice e)) (hs:sizeT P e=some size) (hb:base=some p) (h0:0≤n) (h1:n < len)
   (h:Q (.pointer (some (p.add (n.toNat * size)))) σ):irun P (Instr.indexAt t (.slice base len cap) (.int k n)) Q σ:=by
 subst hb
 unfold Instr.indexAt
 refine irun_bind _ _ ?_
 refine irun_pure ?_
 refine irun_bind _ _ ?_
 refine irun_underlying' ht ?_
 refine irun_bind _ _ ?_
 refine irun_pure ?_
 refine irun_underlying ht ?_
 dsimp only
 rw [if_pos ⟨h0,h1⟩]
 exact irun_sizeOf hs (irun_pure h)
theorem irun_indexStr {P:Program} {t:TypeId} {s:ByteArray} {k:IntKind} {n:Int} {b:UInt8} {Q:Value→PH→Prop} {σ:PH}
   (ht:P.underlying t=some .string) (h0:0≤n) (hb:s[n.toNat]?=some b) (h:Q (.int .u8 b.toNat) σ):irun P (Instr.index t (.string s) (.int k n)) Q σ:=by
 unfold Instr.index
 refine irun_bind _ _ ?_
 refine irun_pure ?_
 refine irun_underlying ht ?_
 dsimp only
 rw [if_pos h0,hb]
 exact irun_pure h
theorem irun_sliceBound {P:Program} {k:IntKind} {n:Int} {y:Nat} {c:BoundsCode} {Q:Nat→PH→Prop} {σ:PH} (h0:0≤n) (h1:n≤y) (h:Q n.toNat σ) :
   irun P (Instr.sliceBound (.int k n) y c) Q σ:=by
 unfold Instr.sliceBound
 refine irun_bind _ _ ?_
 refine irun_pure ?_
 dsimp only
 rw [if_pos ⟨h0,h1⟩]; exact h
theorem irun_sliceAt {P:Program} {t e:TypeId} {size:Nat} {a:Option Addr} {len cap:Nat} {lo hi:Option Value} {Q:Value→PH→Prop} {σ:PH}
   (ht:P.underlying t=some (.slice e)) (hs:sizeT P e=some size) (l h:Nat)
   (hh:match hi with | none => h=len | some v => ∃ k n,v=.int k n∧0≤n∧n≤cap∧h=n.toNat)
   (hl:match lo with | none => l=0 | some v => ∃ k n,v=.int k n∧0≤n∧n≤h∧l=n.toNat)
   (hq:Q (.slice (cutAt a cap l size) (h - l) (cap - l)) σ):irun P (Instr.sliceAt t (.slice a len cap) lo hi none) Q σ:=by
 unfold Instr.sliceAt
 refine irun_underlying ht ?_
 unfold Instr.slice
 refine irun_underlying ht ?_
 dsimp only
 refine irun_bind _ _ ?_
 unfold Instr.sliceBounds
 have fin:irun P (do
     let size ← sizeOf e
     pure (.slice (if cap=l then a else a.map (·.add (l * size))) (h - l) (cap - l))) Q σ:=irun_sizeOf hs (irun_pure hq)
 cases hi with
 | none =>
   obtain rfl:h=len:=hh
   cases lo with
   | none => obtain rfl:l=0:=hl; exact fin
   | some v =>
     obtain ⟨k,n,rfl,h0,h1,rfl⟩:=hl
     show irun P (Instr.sliceBound _ _ _ >>= _) _ _
     exact irun_bind _ _ (irun_sliceBound h0 h1 fin)
 | some u =>
   obtain ⟨k,n,rfl,h0,h1,rfl⟩:=hh
   cases lo with
   | none =>
     obtain rfl:l=0:=hl
     show irun P (Instr.sliceBound _ _ _ >>= _) _ _
     exact irun_bind _ _ (irun_sliceBound h0 h1 fin)
   | some v =>
     obtain ⟨k',n',rfl,h0',h1',rfl⟩:=hl
     show irun P (Instr.sliceBound _ _ _ >>= _) _ _
     refine irun_bind _ _ (irun_sliceBound h0 h1 ?_)
     show irun P (Instr.sliceBound _ _ _ >>= _) _ _
     exact irun_bind _ _ (irun_sliceBound h0' h1' fin)
theorem wrap_i64_small {n:Int} (h0:0≤n) (h1:n < 2 ^ 62):IntKind.i64.wrap n=n:=by
 rw [IntKind.wrap_i64]; omega
theorem irun_makeSlice {P:Program} {t e:TypeId} {size bytes:Nat} {z:Value} {l c:Int} {Q:Value→PH→Prop} {σ:PH}
   (ht:P.underlying t=some (.slice e)) (hs:sizeT P e=some size) (hb:bytesT P e=some bytes) (hz:zeroT P e=some z) (hzs:z.cells.size=size)
   (h0:0≤l) (h1:l≤c) (h2:bytes * c≤2 ^ 47) (h3:c < 2 ^ 62)
   (hq:∀ b,σ b=none→Q (.slice (some ⟨b,0,none⟩) l.toNat c.toNat) (σ.set b (.cells (zeros z c.toNat) e))) :
   irun P (Instr.makeSlice t (.int .i64 l) (.int .i64 c)) Q σ:=by
 unfold Instr.makeSlice
 refine irun_underlying ht ?_
 unfold sizeT at hs; unfold bytesT at hb
 cases hi:P.info? e with
 | none => rw [hi] at hs; cases hs
 | some i =>
 rw [hi] at hs hb
 simp only [Option.map_some,Option.some.injEq] at hs hb
 have hasInt:∀ (n:Int) (K:Int→PH→Prop) (τ:PH),K n τ→irun P (asInt (.int .i64 n)) K τ:=fun n K τ h => h
 refine irun_bind _ _ (hasInt _ _ _ ?_)
 refine irun_bind _ _ (hasInt _ _ _ ?_)
 refine irun_typeInfo hi ?_
 dsimp only
 rw [wrap_i64_small h0 (by omega),wrap_i64_small (by omega) h3,hb]
 have c0:(decide (c < 0) || decide ((bytes:Int) * c > 2 ^ 48))=false:=by
   simp only [Bool.or_eq_false_iff,decide_eq_false_iff_not]
   constructor <;> omega
 rw [if_neg (by
   rw [c0]
   simp only [Bool.false_or,Bool.or_eq_true,decide_eq_true_eq]
   omega)]
 have hroom:∀ (m:Nat) (K:Unit→PH→Prop) (τ:PH),K () τ→irun P (askRoom m) K τ:=by
   intro m K τ hk
   unfold askRoom
   split
   · exact hk
   · exact hk
 refine irun_bind _ _ (hroom _ _ _ ?_)
 refine irun_sizeOf (n:=size) (by unfold sizeT; rw [hi]; simp [hs]) ?_
 have fin:∀ zero:Array Value,((Array.range (c.toNat * size)).map fun i => zero[i % zero.size]!)=zeros z c.toNat →
     irun P (do
       let a ← newRow e ((Array.range (c.toNat * size)).map fun i => zero[i % zero.size]!)
       pure (.slice (some a) l.toNat c.toNat)) Q σ:=by
   intro zero hzero
   refine irun_bind _ _ ?_
   unfold newRow
   refine irun_bind _ _ ?_
   intro b hb'
   rw [hzero]
   exact hq b hb'
 split
 · rename_i hn
   refine fin #[] ?_
   rw [hn]
   unfold zeros Builtin.zeroCells
   rw [hzs,hn]
   simp
 · refine irun_zeroValue hz (fin _ ?_)
   unfold zeros Builtin.zeroCells
   rw [hzs]
theorem irun_float {P:Program} {k:FloatKind} {x y:Nat} {Q:Value→PH→Prop} {σ:PH} {r:Option Nat} (h:∀ r,Q (.float k r) σ) :
   irun P (match r with
     | some r => pure (.float k r)
     | none => do pure (.float k (← choose (.nanBits k x y)))) Q σ:=by
 cases r with
 | some r => exact h r
 | none => exact fun t => h _
theorem PH_obj {σ:PH} {r:Nat} {es:Array MapEntry} {c:Nat} (h:σ r=some (.map es c)):σ.obj r=some (.map es c):=by unfold PH.obj; rw [h]
theorem PH_objI {σ:PH} {r:Nat} {m:Option Nat} {s l:Nat} {seen:Array Nat} (h:σ r=some (.mapIter m s seen l)):σ.obj r=some (.mapIter m s seen l):=by unfold PH.obj; rw [h]
theorem findNow_int {k:IntKind} {n:Int}:∀ (es:List MapEntry) (i:Nat),(∀ e ∈ es,∃ m,e.key=.int k m)→Instr.findNow (.int k) (.int k n) es i=some (mIdx n es i)
 | [],_,_ => rfl
 | e :: es,i,h => by
   obtain ⟨m,hm⟩:=h e List.mem_cons_self
   unfold Instr.findNow mIdx
   rw [hm]
   simp only [Instr.sameNow,if_true]
   cases n == m
   · exact findNow_int es (i + 1) fun e he => h e (List.mem_cons_of_mem _ he)
   · rfl
theorem mIdx_spec {n:Int} {i:Nat} {v:Value}:∀ {l:List MapEntry} {i0:Nat},mIdx n l i0=some (i,v)→∃ e,l[i - i0]?=some e∧i0≤i∧(∃ k,e.key=.int k n)∧e.val=v
 | [],_,h => by cases h
 | e :: es,i0,h => by
   unfold mIdx at h
   split at h
   · rename_i k m hk
     split at h
     · rename_i hm
       cases h
       have:n=m:=by simpa using hm
       exact ⟨e,by simp,Nat.le_refl _,⟨k,by rw [hk,this]⟩,rfl⟩
     · obtain ⟨e',h1,h2,h3,h4⟩:=mIdx_spec h
       refine ⟨e',?_,by omega,h3,h4⟩
       rw [show i - i0=(i - (i0 + 1)) + 1 from by omega,List.getElem?_cons_succ]; exact h1
   · cases h
theorem irun_checkKey {P:Program} {kt:TypeId} {k k':IntKind} {n:Int} {b:Bool} {Q:Unit→PH→Prop} {σ:PH} (hk:P.underlying kt=some (.int k')) (h:Q () σ) :
   irun P (Instr.checkKey b 10000 kt (.int k n)) Q σ:=by
 show irun P (Instr.checkKey b (9999 + 1) kt (.int k n)) Q σ
 unfold Instr.checkKey
 exact irun_underlying hk h
theorem irun_findKey {P:Program} {kt:TypeId} {k:IntKind} {n:Int} {es:Array MapEntry} {Q:Option (Nat × Value)→PH→Prop} {σ:PH} (hk:P.underlying kt=some (.int k)) (hi:IntKeys k es) (h:Q (mIdx n es.toList 0) σ) :
   irun P (Instr.findKey kt (.int k n) es.toList) Q σ:=by
 unfold Instr.findKey
 refine irun_underlying hk ?_
 rw [findNow_int es.toList 0 hi]
 exact h
theorem irun_lookup {P:Program} {t kt et:TypeId} {k:IntKind} {n:Int} {ok:Bool} {q:Nat} {es:Array MapEntry} {clock:Nat} {z:Value} {Q:Value→PH→Prop} {σ:PH}
   (ht:P.underlying t=some (.map kt et)) (hk:P.underlying kt=some (.int k)) (hz:zeroT P et=some z) (hm:σ q=some (.map es clock)) (hi:IntKeys k es)
   (h:Q (match ok with | true => .tuple #[(mfind n es).getD z,.bool (mfind n es).isSome] | false => (mfind n es).getD z) σ) :
   irun P (Instr.lookup t (.map (some q)) (.int k n) ok) Q σ:=by
 unfold Instr.lookup
 refine irun_underlying ht ?_
 dsimp only
 refine irun_bind _ _ ?_
 refine ⟨_,PH_obj hm,?_⟩
 show irun P (Instr.checkKey _ _ _ _ >>= _) _ _
 refine irun_bind _ _ (irun_checkKey hk ?_)
 refine irun_bind _ _ (irun_findKey hk hi ?_)
 unfold mfind at h
 cases hx:mIdx n es.toList 0 with
 | none =>
   rw [hx] at h
   refine irun_zeroValue hz ?_
   refine irun_pure ?_
   cases ok <;> exact h
 | some x =>
   obtain ⟨i,v⟩:=x
   rw [hx] at h
   refine irun_pure ?_
   cases ok <;> exact h
theorem irun_mapUpdate {P:Program} {t kt et:TypeId} {k:IntKind} {n:Int} {v:Value} {q:Nat} {es:Array MapEntry} {clock:Nat} {Q:Unit→PH→Prop} {σ:PH}
   (ht:P.underlying t=some (.map kt et)) (hk:P.underlying kt=some (.int k)) (hm:σ q=some (.map es clock)) (hi:IntKeys k es)
   (h:Q () (σ.set q (mput es clock k n v))):irun P (Instr.mapUpdate t (.map (some q)) (.int k n) v) Q σ:=by
 unfold Instr.mapUpdate
 refine irun_underlying ht ?_
 dsimp only
 refine irun_bind _ _ ?_
 refine ⟨_,PH_obj hm,?_⟩
 refine irun_bind _ _ ?_
 refine irun_checkKey hk ?_
 refine irun_bind _ _ ?_
 refine irun_findKey hk hi ?_
 unfold mput at h
 cases hx:mIdx n es.toList 0 with
 | none =>
   rw [hx] at h
   exact ⟨⟨_,PH_obj hm⟩,h⟩
 | some x =>
   obtain ⟨i,u⟩:=x
   rw [hx] at h
   refine irun_bind _ _ ?_
   unfold Instr.keyThatStays
   have fin:irun P (setObj q (.map (es.modify i fun e => { e with key:=.int k n,val:=v }) clock)) Q σ:=⟨⟨_,PH_obj hm⟩,h⟩
   split
   · exact fin
   · rename_i hs
     intro t
     show irun P (setObj q _) Q σ
     obtain ⟨e,he,_,⟨k',hk'⟩,_⟩:=mIdx_spec hx
     obtain ⟨m,hm'⟩:=hi e (List.mem_of_getElem? he)
     rw [hm'] at hk'
     injection hk' with e1 e2
     rw [← e2] at hs
     exfalso
     apply hs
     simp only [Nat.sub_zero,Array.getElem?_toList] at he
     rw [he]
     simp [hm',Instr.sameBits]
theorem irun_delete {P:Program} {t kt et:TypeId} {l:List TypeId} {T:TypeId} {k:IntKind} {n:Int} {q:Nat} {es:Array MapEntry} {clock:Nat} {Q:Value→PH→Prop} {σ:PH}
   (ht:P.underlying t=some (.map kt et)) (hk:P.underlying kt=some (.int k)) (hm:σ q=some (.map es clock)) (hi:IntKeys k es)
   (h:Q (.tuple #[]) (σ.set q (mdel es clock n))):irun P (Builtin.delete_ (t :: l).toArray T #[.map (some q),.int k n]) Q σ:=by
 unfold Builtin.delete_
 simp only [List.getElem?_toArray,List.getElem?_cons_zero]
 refine irun_underlying ht ?_
 dsimp only
 refine irun_bind _ _ ?_
 refine ⟨_,PH_obj hm,?_⟩
 refine irun_bind _ _ ?_
 refine irun_checkKey hk ?_
 refine irun_bind _ _ ?_
 refine irun_findKey hk hi ?_
 unfold mdel at h
 cases hx:mIdx n es.toList 0 with
 | none => rw [hx] at h; exact ⟨⟨_,PH_obj hm⟩,h⟩
 | some x => obtain ⟨i,u⟩:=x; rw [hx] at h; exact ⟨⟨_,PH_obj hm⟩,h⟩
theorem irun_choose {P:Program} {q:Question} {Q:Nat→PH→Prop} {σ:PH} (h0:q.forced=true→Q 0 σ) (h1:q.forced=false→∀ t,Q (q.cut t) σ):irun P (choose q) Q σ:=by
 show irun P (.choose q .pure) Q σ
 simp only [irun]
 cases hf:q.forced with
 | true => exact h0 hf
 | false => exact h1 hf
theorem irun_next {P:Program} {p:Addr} {T:TypeId} {Q:Value→PH→Prop} {σ:PH}
   (h:p.off=0∧∃ m since seen last es clock,σ p.block=some (.mapIter (some m) since seen last)∧σ m=some (.map es clock) ∧
       (∀ e ∈ es.toList,e.born < since)∧(seen.isEmpty=true ∨ es.isEmpty=true ∨ ∃ e ∈ es.toList,e.born < last) ∧
       ((∀ e ∈ es.toList,seen.contains e.born=true)→Q (.tuple #[.bool false]) σ) ∧
       (∀ e ∈ es.toList,seen.contains e.born=false→Q (.tuple #[.bool true,e.key,e.val]) (σ.set p.block (.mapIter (some m) since (seen.push e.born) clock)))) :
   irun P (Instr.next (.pointer (some p)) false T) Q σ:=by
 obtain ⟨h0,m,since,seen,last,es,clock,h1,h2,h3,h4,h5,h6⟩:=h
 obtain ⟨b,off,spot⟩:=p
 simp only at h0 h1 h6
 subst h0
 unfold Instr.next
 refine irun_bind _ _ ?_
 have hob:σ.obj b=some (.mapIter (some m) since seen last):=by unfold PH.obj; rw [h1]
 refine ⟨_,hob,?_⟩
 show irun P (getObj m >>= _) _ _
 refine irun_bind _ _ ?_
 refine ⟨_,PH_obj h2,?_⟩
 refine irun_pure (a:=Obj.map es clock) ?_
 dsimp only
 have hcond:(!seen.isEmpty && !es.isEmpty && es.all fun x => decide (x.born ≥ last))=false:=by
   rcases h4 with h4 | h4 | ⟨e,he,hlt⟩
   · rw [h4]; rfl
   · rw [h4]; simp
   · have:(es.all fun x => decide (x.born ≥ last))=false:=by
       rw [← Bool.not_eq_true,Array.all_eq_true_iff_forall_mem]
       intro hall
       have:=hall e (Array.mem_toList_iff.1 he)
       simp only [ge_iff_le,decide_eq_true_eq] at this
       omega
     rw [this]; simp
 rw [hcond]
 simp only [Bool.false_eq_true,if_false]
 have hold:((es.filter fun e => !seen.contains e.born).filter fun x => decide (x.born < since))=es.filter fun e => !seen.contains e.born:=by
   rw [Array.filter_eq_self]
   intro e he
   have:=h3 e (Array.mem_toList_iff.2 (Array.mem_filter.1 he).1)
   simpa using this
 have hnew:((es.filter fun e => !seen.contains e.born).filter fun x => decide (x.born ≥ since))=#[]:=by
   rw [Array.filter_eq_empty_iff]
   intro e he
   have:=h3 e (Array.mem_toList_iff.2 (Array.mem_filter.1 he).1)
   simp only [ge_iff_le,decide_eq_true_eq]
   omega
 rw [hold,hnew,Array.append_empty]
 generalize hleft:(es.filter fun e => !seen.contains e.born)=left
 have hmem:∀ e ∈ left,e ∈ es.toList∧seen.contains e.born=false:=by
   intro e he
   rw [← hleft] at he
   obtain ⟨g1,g2⟩:=Array.mem_filter.1 he
   exact ⟨Array.mem_toList_iff.2 g1,by simpa using g2⟩
 generalize hcand:((if left.isEmpty=true then #[none] else #[]) ++ left.map some:Array (Option MapEntry))=cand
 have key:∀ i,i < cand.size→irun P (match cand[i]? with
     | some (some e) => do setObj b (.mapIter (some m) since (seen.push e.born) clock); pure (.tuple #[.bool true,e.key,e.val])
     | some none => pure (.tuple #[.bool false])
     | none => stuck "Next: no such candidate" : Sem Value) Q σ := by
   intro i hi
   rw [Array.getElem?_eq_getElem hi]
   have hm:=Array.getElem_mem hi
   generalize cand[i]=c at hm
   rw [← hcand] at hm
   rcases Array.mem_append.1 hm with hm | hm
   · split at hm
     · rename_i he
       simp at hm
       subst hm
       refine h5 fun e he' => ?_
       cases hc:seen.contains e.born with
       | true => rfl
       | false =>
         have:e ∈ left:=by rw [← hleft]; exact Array.mem_filter.2 ⟨Array.mem_toList_iff.1 he',by rw [hc]; rfl⟩
         rw [Array.isEmpty_iff] at he
         subst he; simp at this
     · simp at hm
   · obtain ⟨e,he,rfl⟩:=Array.mem_map.1 hm
     obtain ⟨g1,g2⟩:=hmem e he
     exact ⟨⟨_,hob⟩,h6 e g1 g2⟩
 have hpos:0 < cand.size:=by
   rw [← hcand]
   cases hl:left.isEmpty with
   | true => simp; omega
   | false =>
     have:0 < left.size:=by
       rcases Nat.eq_zero_or_pos left.size with h' | h'
       · simp [Array.isEmpty,h'] at hl
       · exact h'
     simp; exact this
 refine irun_bind _ _ ?_
 exact irun_choose (fun _ => key 0 hpos) fun _ t => key (t % cand.size) (Nat.mod_lt _ hpos)
theorem iop_gen {P:Program} {call:CallR} {o:Oper} {ρ:Operand→Value} {Q:Value→PH→Prop} {σ:PH} (h:iop P call o ρ Q σ):igen P call o ρ Q σ:=by
 obtain ⟨dst,op,type,pos,after,guard⟩:=o
 cases op <;> try exact h
 case select cs b => exact h.elim
 case nilCheck x =>
   simp only [iop] at h
   split at h
   · rename_i a ha
     obtain ⟨p,rfl,h⟩:=h
     unfold igen
     simp only [execOp,ha]
     exact h
   · exact h
 case indexAddr t x i =>
   simp only [iop] at h
   split at h
   · rename_i e base len _ k n h1 h2 h3
     split at h
     · rename_i size hs
       obtain ⟨p,hb,h0,hn,hq⟩:=h
       refine igen_value (s:=Instr.indexAt t (ρ x) (ρ i)) rfl rfl ?_
       rw [h2,h3]
       exact irun_indexAt h1 hs hb h0 hn hq
     · exact h.elim
   · exact h
 case index t x i =>
   simp only [iop] at h
   split at h
   · rename_i s _ n h1 h2 h3
     obtain ⟨b,h0,hb,hq⟩:=h
     refine igen_value (s:=Instr.index t (ρ x) (ρ i)) rfl rfl ?_
     rw [h2,h3]
     exact irun_indexStr h1 h0 hb hq
   · exact h
 case slice t x lo hi mx =>
   simp only [iop] at h
   split at h
   · rename_i e a len cap k1 hh k2 mm h1 h2 h3 h4 h5
     split at h
     · rename_i size hs
       obtain ⟨a1,a2,a3,a4,hq⟩:=h
       refine igen_value (s:=Instr.sliceAt t (ρ x) (lo.map ρ) (hi.map ρ) (mx.map ρ)) rfl rfl ?_
       rw [h2,h3,h4,h5]
       unfold Instr.sliceAt
       refine irun_underlying h1 ?_
       unfold Instr.slice
       refine irun_underlying h1 ?_
       dsimp only
       refine irun_bind _ _ ?_
       unfold Instr.sliceBounds
       show irun P (Instr.sliceBound _ _ _ >>= _) _ _
       refine irun_bind _ _ (irun_sliceBound a1 a2 ?_)
       show irun P (Instr.sliceBound _ _ _ >>= _) _ _
       refine irun_bind _ _ (irun_sliceBound a3 (by omega) ?_)
       refine irun_sizeOf hs (irun_pure ?_)
       have:(if mm.toNat=0 then a else a.map (·.add (0 * size)))=a:=by
         split
         · rfl
         · cases a <;> simp [Addr.add]
       rw [this]
       exact hq
     · exact h.elim
   · rename_i e a len cap h1 h2 h5
     refine igen_value (s:=Instr.sliceAt t (ρ x) (lo.map ρ) (hi.map ρ) (mx.map ρ)) rfl rfl ?_
     rw [h2,h5]
     split at h
     · rename_i size k1 l k2 hh hs hl hhi
       obtain ⟨a1,a2,a3,a4,hq⟩:=h
       refine irun_sliceAt h1 hs l.toNat hh.toNat ?_ ?_ hq
       · rw [hhi]; exact ⟨_,_,rfl,a1,a2,rfl⟩
       · rw [hl]; exact ⟨_,_,rfl,a3,by omega,rfl⟩
     · rename_i size k1 l hs hl hhi
       obtain ⟨a3,a4,hq⟩:=h
       refine irun_sliceAt h1 hs l.toNat len ?_ ?_ hq
       · rw [hhi]
       · rw [hl]; exact ⟨_,_,rfl,a3,a4,rfl⟩
     · rename_i size k2 hh hs hl hhi
       obtain ⟨a1,a2,hq⟩:=h
       refine irun_sliceAt h1 hs 0 hh.toNat ?_ ?_ ?_
       · rw [hhi]; exact ⟨_,_,rfl,a1,a2,rfl⟩
       · rw [hl]
       · have:cutAt a cap 0 size=a:=by
           unfold cutAt
           split
           · rfl
           · cases a <;> simp [Addr.add]
         rw [this]; exact hq
     · rename_i size hs hl hhi
       refine irun_sliceAt h1 hs 0 len ?_ ?_ ?_
       · rw [hhi]
       · rw [hl]
       · have:cutAt a cap 0 size=a:=by
           unfold cutAt
           split
           · rfl
           · cases a <;> simp [Addr.add]
         rw [this]; exact h
     · exact h.elim
   · exact h
 case makeSlice t l c =>
   simp only [iop] at h
   split at h
   · rename_i e l c h1 h2 h3
     split at h
     · rename_i size bytes z hs hb hz
       split at h
       · exact h.elim
       · rename_i hzs
         obtain ⟨a1,a2,a3,a4,hq⟩:=h
         refine igen_value rfl rfl ?_
         rw [h2,h3]
         exact irun_makeSlice h1 hs hb hz (by simpa using hzs) a1 a2 a3 a4 hq
     · exact h.elim
   · exact h
 case binOp op t x y yt =>
   simp only [iop] at h
   split at h
   · rename_i e n c h1 h2
     refine igen_value (s:=do eqGuard op t x y (ρ x) (ρ y); binOp op t (ρ x) (ρ y)) rfl rfl ?_
     rw [h2]
     split at h
     · rename_i a n' c' h3
       rw [h3]
       refine irun_bind _ _ ?_
       refine irun_pure ?_
       refine irun_bind _ _ ?_
       show irun P (underlying t >>= _) _ _
       refine irun_underlying h1 ?_
       cases a <;> exact h
     · rename_i a n' c' h3
       rw [h3]
       refine irun_bind _ _ ?_
       refine irun_pure ?_
       refine irun_bind _ _ ?_
       show irun P (underlying t >>= _) _ _
       refine irun_underlying h1 ?_
       cases a <;> exact h
     · exact h.elim
   · rename_i e h1 h2
     refine igen_value (s:=do eqGuard op t x y (ρ x) (ρ y); binOp op t (ρ x) (ρ y)) rfl rfl ?_
     rw [h2]
     split at h
     · rename_i a h3
       rw [h3]
       refine irun_bind _ _ ?_
       refine irun_pure ?_
       refine irun_bind _ _ ?_
       show irun P (underlying t >>= _) _ _
       refine irun_underlying h1 ?_
       cases a <;> exact h
     · rename_i a h3
       rw [h3]
       refine irun_bind _ _ ?_
       refine irun_pure ?_
       refine irun_bind _ _ ?_
       show irun P (underlying t >>= _) _ _
       refine irun_underlying h1 ?_
       cases a <;> exact h
     · exact h.elim
   · split at h
     · rename_i k a b h3 h4
       obtain ⟨hb,rfl,hq⟩:=h
       refine igen_value (s:=do eqGuard .quo t x y (ρ x) (ρ y); binOp .quo t (ρ x) (ρ y)) rfl rfl ?_
       rw [h3,h4]
       refine irun_bind _ _ ?_
       refine irun_pure ?_
       show irun P (if b=0 then _ else _) _ _
       rw [if_neg hb]; exact hq
     · rename_i k a b h3 h4
       obtain ⟨hb,rfl,hq⟩:=h
       refine igen_value (s:=do eqGuard .rem t x y (ρ x) (ρ y); binOp .rem t (ρ x) (ρ y)) rfl rfl ?_
       rw [h3,h4]
       refine irun_bind _ _ ?_
       refine irun_pure ?_
       show irun P (if b=0 then _ else _) _ _
       rw [if_neg hb]; exact hq
     iterate 4
       · rename_i a b h3 h4
         refine igen_value (s:=do eqGuard _ t x y (ρ x) (ρ y); binOp _ t (ρ x) (ρ y)) rfl rfl ?_
         rw [h3,h4]
         refine irun_bind _ _ ?_
         refine irun_pure ?_
         exact irun_float h
     iterate 2
       · rename_i a b h3 h4
         refine igen_value (s:=do eqGuard _ t x y (ρ x) (ρ y); binOp _ t (ρ x) (ρ y)) rfl rfl ?_
         rw [h3,h4]
         refine irun_bind _ _ ?_
         refine irun_pure ?_
         exact h _
     · exact h
 case pick c a b =>
   simp only [iop] at h
   split at h
   · rename_i c' x y h1 h2 h3
     unfold igen
     simp only [execOp,h1,h2,h3]
     refine irun_bind _ _ ?_
     refine irun_pure ?_
     cases c' <;> exact h
   · exact h
 case lookup t m x ok =>
   simp only [iop] at h
   split at h
   · rename_i kt et r k n h1 h2 h3
     split at h
     · rename_i k' z h4 h5
       split at h
       · rename_i hk
         obtain rfl:k=k':=by simpa using hk
         obtain ⟨q,rfl,es,clock,hm,hi,h⟩:=h
         obtain ⟨u,hu,h⟩:=enumC_ex h
         refine igen_value (s:=Instr.lookup t (ρ m) (ρ x) ok) rfl rfl ?_
         rw [h2,h3]
         refine irun_lookup h1 h4 h5 hm hi ?_
         rw [hu]
         cases ok <;> exact h
       · exact h.elim
     · exact h.elim
   · exact h
 case mapUpdate t m x v =>
   simp only [iop] at h
   split at h
   · rename_i kt et r k n h1 h2 h3
     split at h
     · rename_i k' h4
       split at h
       · rename_i hk
         obtain rfl:k=k':=by simpa using hk
         obtain ⟨q,rfl,es,clock,hm,hi,h⟩:=h
         unfold igen
         simp only [execOp,h2,h3]
         refine irun_bind _ _ (irun_mapUpdate h1 h4 hm hi ?_)
         exact h
       · exact h.elim
     · exact h.elim
   · exact h
 case range t x =>
   simp only [iop] at h
   split at h
   · rename_i kt et r h1 h2
     obtain ⟨q,rfl,es,clock,hm,h⟩:=h
     refine igen_value (s:=Instr.range t (ρ x)) rfl rfl ?_
     rw [h2]
     unfold Instr.range
     refine irun_bind _ _ ?_
     refine irun_underlying' h1 ?_
     refine irun_bind _ _ ?_
     refine ⟨_,PH_obj hm,?_⟩
     refine irun_bind _ _ ?_
     exact fun b hb => h b hb
   · exact h
 case next it s =>
   cases s
   · simp only [iop] at h
     split at h
     · rename_i p hp
       refine igen_value (s:=Instr.next (ρ it) false type) rfl rfl ?_
       rw [hp]
       exact irun_next h
     · exact h
   · exact h
 case entry it =>
   simp only [iop] at h
   split at h
   · rename_i p hp
     obtain ⟨h0,m,since,seen,last,es,clock,stamp,e,h1,h2,h3,h4,h5,n,h6,h7⟩:=h
     refine igen_value (s:=Instr.entry (ρ it)) rfl rfl ?_
     rw [hp]
     obtain ⟨b,off,spot⟩:=p
     simp only at h0 h1
     subst h0
     unfold Instr.entry
     refine irun_bind _ _ ?_
     refine ⟨_,PH_objI h1,?_⟩
     refine irun_pure (a:=Obj.mapIter (some m) since seen last) ?_
     simp only [h4]
     refine irun_bind _ _ ?_
     refine ⟨_,PH_obj h2,?_⟩
     refine irun_pure (a:=Obj.map es clock) ?_
     simp only [h3,h5]
     simp only [bne_self_eq_false,Bool.false_eq_true,if_false]
     rw [← h6] at h7
     exact h7
   · exact h
 case call c =>
   simp only [iop] at h
   split at h
   · rename_i h1
     split at h
     · rename_i s x t t' l h2 h3
       split at h
       · rename_i e e' h4 h5
         obtain ⟨callee,args,argTypes⟩:=c
         simp only at h1 h2 h3
         subst h1
         refine igen_value (s:=Builtin.append_ argTypes type (args.map ρ)) rfl rfl ?_
         have e1:args.map ρ=#[s,x]:=by
           apply Array.toList_inj.1
           rw [Array.toList_map,h2]
         have e2:argTypes=(t :: t' :: l).toArray:=by
           apply Array.toList_inj.1
           rw [h3]
         rw [e1,e2]
         exact irun_append h4 h5 (iappend_mono (fun v τ ⟨a,n,c,h1,h2⟩ => h1 ▸ h2) h)
       · exact h.elim
     · exact h.elim
   · rename_i h1
     split at h
     · rename_i r k n t l h2 h3
       split at h
       · rename_i kt et h4
         split at h
         · rename_i k' h5
           split at h
           · rename_i hk
             obtain rfl:k=k':=by simpa using hk
             obtain ⟨q,rfl,es,clock,hm,hi,h⟩:=h
             obtain ⟨callee,args,argTypes⟩:=c
             simp only at h1 h2 h3
             subst h1
             refine igen_value (s:=Builtin.delete_ argTypes type (args.map ρ)) rfl rfl ?_
             have e1:args.map ρ=#[.map (some q),.int k n]:=by
               apply Array.toList_inj.1
               rw [Array.toList_map,h2]
             have e2:argTypes=(t :: l).toArray:=by
               apply Array.toList_inj.1
               rw [h3]
             rw [e1,e2]
             exact irun_delete h4 h5 hm hi h
           · exact h.elim
         · exact h.elim
       · exact h.elim
     · exact h.elim
   · exact h
def CMono (call call':CallR):Prop:=∀ f args (K K':Value→PH→Prop) σ,(∀ v τ,K v τ→K' v τ)→call f args K σ→call' f args K' σ
theorem igen_mono {P:Program} {call call':CallR} (hc:CMono call call') {o:Oper} {ρ:Operand→Value} {Q Q':Value→PH→Prop} {σ:PH}
   (h:igen P call o ρ Q σ) (hq:∀ v τ,Q v τ→Q' v τ):igen P call' o ρ Q' σ:=by
 refine irun_mono _ h ?_
 intro n τ hn
 cases n <;> try exact hn.elim
 · dsimp only at hn ⊢
   split at hn
   · exact enumT_mono (fun u hu => ⟨hu.1,hq _ _ hu.2⟩) hn
   · exact hq _ _ hn
 · exact hq _ _ hn
 · exact hc _ _ _ _ _ (fun v τ' ⟨υ,h1,h2⟩ => ⟨υ,h1,enumT_mono (fun u hu => ⟨hu.1,hq _ _ hu.2⟩) h2⟩) hn
theorem iop_mono {P:Program} {call call':CallR} (hc:CMono call call') {o:Oper} {ρ:Operand→Value} {Q Q':Value→PH→Prop} {σ:PH}
   (h:iop P call o ρ Q σ) (hq:∀ v τ,Q v τ→Q' v τ):iop P call' o ρ Q' σ:=by
 obtain ⟨dst,op,type,pos,after,guard⟩:=o
 cases op <;> try exact igen_mono hc h hq
 case select cs b => exact h.elim
 case nilCheck x =>
   simp only [iop] at h ⊢
   split at h
   · obtain ⟨p,h1,h2⟩:=h; exact ⟨p,h1,hq _ _ h2⟩
   · exact igen_mono hc h hq
 case indexAddr t x i =>
   simp only [iop] at h ⊢
   split at h
   · split at h
     · obtain ⟨p,h1,h2,h3,h4⟩:=h; exact ⟨p,h1,h2,h3,hq _ _ h4⟩
     · exact h.elim
   · exact igen_mono hc h hq
 case index t x i =>
   simp only [iop] at h ⊢
   split at h
   · obtain ⟨b,h1,h2,h3⟩:=h; exact ⟨b,h1,h2,hq _ _ h3⟩
   · exact igen_mono hc h hq
 case slice t x lo hi mx =>
   simp only [iop] at h ⊢
   split at h
   · split at h
     · exact ⟨h.1,h.2.1,h.2.2.1,h.2.2.2.1,hq _ _ h.2.2.2.2⟩
     · exact h.elim
   · split at h
     · exact ⟨h.1,h.2.1,h.2.2.1,h.2.2.2.1,hq _ _ h.2.2.2.2⟩
     · exact ⟨h.1,h.2.1,hq _ _ h.2.2⟩
     · exact ⟨h.1,h.2.1,hq _ _ h.2.2⟩
     · exact hq _ _ h
     · exact h.elim
   · exact igen_mono hc h hq
 case makeSlice t l c =>
   simp only [iop] at h ⊢
   split at h
   · split at h
     · split at h
       · exact h.elim
       · exact ⟨h.1,h.2.1,h.2.2.1,h.2.2.2.1,fun b hb => hq _ _ (h.2.2.2.2 b hb)⟩
     · exact h.elim
   · exact igen_mono hc h hq
 case binOp op t x y yt =>
   simp only [iop] at h ⊢
   split at h
   · split at h
     · exact hq _ _ h
     · exact hq _ _ h
     · exact h.elim
   · split at h
     · exact hq _ _ h
     · exact hq _ _ h
     · exact h.elim
   · split at h
     · exact ⟨h.1,h.2.1,hq _ _ h.2.2⟩
     · exact ⟨h.1,h.2.1,hq _ _ h.2.2⟩
     iterate 6
       · exact fun r => hq _ _ (h r)
     · exact igen_mono hc h hq
 case pick c a b =>
   simp only [iop] at h ⊢
   split at h
   · exact hq _ _ h
   · exact igen_mono hc h hq
 case call c =>
   simp only [iop] at h ⊢
   split at h
   · split at h
     · split at h
       · exact iappend_mono (fun v τ ⟨a,n,c,h1,h2⟩ => ⟨a,n,c,h1,hq _ _ h2⟩) h
       · exact h.elim
     · exact h.elim
   · split at h
     · split at h
       · split at h
         · split at h
           · obtain ⟨q,h1,es,clock,h2,h3,h4⟩:=h; exact ⟨q,h1,es,clock,h2,h3,hq _ _ h4⟩
           · exact h.elim
         · exact h.elim
       · exact h.elim
     · exact h.elim
   · exact igen_mono hc h hq
 case lookup t m x ok =>
   simp only [iop] at h ⊢
   split at h
   · split at h
     · split at h
       · obtain ⟨q,h1,es,clock,h2,h3,h4⟩:=h
         refine ⟨q,h1,es,clock,h2,h3,enumC_mono (fun u hu => ⟨hu.1,?_⟩) h4⟩
         cases ok <;> exact hq _ _ hu.2
       · exact h.elim
     · exact h.elim
   · exact igen_mono hc h hq
 case mapUpdate t m x v =>
   simp only [iop] at h ⊢
   split at h
   · split at h
     · split at h
       · obtain ⟨q,h1,es,clock,h2,h3,h4⟩:=h; exact ⟨q,h1,es,clock,h2,h3,hq _ _ h4⟩
       · exact h.elim
     · exact h.elim
   · exact igen_mono hc h hq
 case range t x =>
   simp only [iop] at h ⊢
   split at h
   · obtain ⟨q,h1,es,clock,h2,h3⟩:=h; exact ⟨q,h1,es,clock,h2,fun b hb => hq _ _ (h3 b hb)⟩
   · exact igen_mono hc h hq
 case next it s =>
   cases s
   · simp only [iop] at h ⊢
     split at h
     · obtain ⟨h0,m,since,seen,last,es,clock,h1,h2,h3,h4,h5,h6⟩:=h
       exact ⟨h0,m,since,seen,last,es,clock,h1,h2,h3,h4,fun x => hq _ _ (h5 x),fun e he hs => hq _ _ (h6 e he hs)⟩
     · exact igen_mono hc h hq
   · exact igen_mono hc h hq
 case entry it =>
   simp only [iop] at h ⊢
   split at h
   · obtain ⟨h0,m,since,seen,last,es,clock,stamp,e,h1,h2,h3,h4,h5,n,h6,h7⟩:=h
     exact ⟨h0,m,since,seen,last,es,clock,stamp,e,h1,h2,h3,h4,h5,n,h6,hq _ _ h7⟩
   · exact igen_mono hc h hq
theorem br_mono {b:Bool} {A B A' B':Prop} (h:br b A B) (ha:A→A') (hb:B→B'):br b A' B':=by
 cases b
 · exact hb h
 · exact ha h
theorem iops_mono {P:Program} {call call':CallR} (hc:CMono call call') {all:Array Oper}:∀ {os:List Oper} {Q Q':Env→PH→Prop} {e:Env} {σ:PH},
   (∀ e τ,Q e τ→Q' e τ)→iops P call all os Q e σ→iops P call' all os Q' e σ
 | [],_,_,_,_,hq,h => hq _ _ h
 | o :: os,Q,Q',e,σ,hq,h => by
   have ih:=fun (e:Env) (τ:PH) => iops_mono (P:=P) hc (all:=all) (os:=os) (e:=e) (σ:=τ) hq
   unfold iops at h ⊢
   split at h
   · rename_i hg; (try simp only [hg])
     split at h
     · rename_i hk; (try simp only [hk]); exact iop_mono hc h (fun v τ hv => ih _ _ hv)
     · exact h.elim
   · rename_i j want hg; (try simp only [hg])
     split at h
     · exact h.elim
     · rename_i d hd; (try simp only [hd])
       split at h
       · rename_i b hb
         (try simp only [hb])
         refine br_mono h ?_ ?_
         · intro h
           cases want
           · exact ih _ _ h
           · dsimp only at h ⊢
             split at h
             · rename_i hk; (try simp only [hk]); exact iop_mono hc h (fun v τ hv => ih _ _ hv)
             · exact h.elim
         · intro h
           cases want
           · dsimp only at h ⊢
             split at h
             · rename_i hk; (try simp only [hk]); exact iop_mono hc h (fun v τ hv => ih _ _ hv)
             · exact h.elim
           · exact ih _ _ h
       · rename_i hb; (try simp only [hb]); exact ih _ _ h
       · exact h.elim
theorem withC_mono:∀ {l:List Prop} {K K':Prop},(K→K')→withC l K→withC l K'
 | [],_,_,hk,h => hk h
 | _ :: _,_,_,hk,h => ⟨h.1,withC_mono hk h.2⟩
theorem qcalls_mono {P:Program}:∀ {os:List Oper} {K K':List Told→Prop},(∀ l,K l→K' l)→qcalls P os K→qcalls P os K'
 | [],_,_,hk,h => hk _ h
 | o :: os,K,K',hk,h => by
   unfold qcalls at h ⊢
   split at h
   · exact enumT_mono (fun v ⟨bs,h⟩ => ⟨bs,qcalls_mono (fun l hl => hk _ hl) h⟩) h
   · exact qcalls_mono hk h
theorem idcall_mono {P:Program} {call call':CallR} (hc:CMono call call') {o:Oper} {ρ:Operand→Value} {x:Told} {σ:PH}
   (h:idcall P call o ρ x σ):idcall P call' o ρ x σ:=by
 unfold idcall at h ⊢
 split at h
 · exact ⟨h.1,hc _ _ _ _ _ (fun _ _ h => h) h.2⟩
 · exact h.elim
theorem idstep_mono {P:Program} {call call':CallR} (hc:CMono call call') {last:Bool} {bj:Nat} {o:Oper} {done:List (Nat × Log)} {cv:List Told} {K K':Option Log→List Told→Env→PH→Prop} {e:Env} {σ:PH}
   (hk:∀ l cv e τ,K l cv e τ→K' l cv e τ) (h:idstep P call last bj o done cv K e σ):idstep P call' last bj o done cv K' e σ:=by
 unfold idstep at h ⊢
 split at h
 · exact h.elim
 · split at h
   · exact iop_mono (fun _ _ _ _ _ _ h => h.elim) h (fun v τ hv => hk _ _ _ _ hv)
   · exact withC_mono (fun h => iop_mono (fun _ _ _ _ _ _ h => h.elim) h (fun v τ hv => hk _ _ _ _ hv)) h
   · split at h
     · exact h.elim
     · exact withC_mono (fun h => ⟨idcall_mono hc h.1,hk _ _ _ _ h.2⟩) h
   · split at h
     · exact iop_mono (fun _ _ _ _ _ _ h => h.elim) h (fun v τ hv => hk _ _ _ _ hv)
     · exact h.elim
theorem idraw_mono {P:Program} {call call':CallR} (hc:CMono call call') {all:Array Oper} {bef:List Nat} {Q Q':Env→PH→Prop} (hq:∀ e τ,Q e τ→Q' e τ) :
   ∀ {os:List Oper} {j:Nat} {done:List (Nat × Log)} {cv:List Told} {e:Env} {σ:PH},
   idraw P call all bef j os done cv Q e σ→idraw P call' all bef j os done cv Q' e σ
 | [],_,_,_,_,_,h => hq _ _ h
 | o :: os,j,done,cv,e,σ,h => by
   have ih:=fun (j:Nat) (done:List (Nat × Log)) (cv:List Told) (e:Env) (τ:PH) => idraw_mono (P:=P) hc (all:=all) (bef:=bef) hq (os:=os) (j:=j) (done:=done) (cv:=cv) (e:=e) (σ:=τ)
   unfold idraw at h ⊢
   split at h
   · exact idstep_mono hc (fun _ _ _ _ h => ih _ _ _ _ _ h) h
   · rename_i g want hg
     split at h
     · exact h.elim
     · rename_i d hd
       split at h
       · rename_i b hb
         refine br_mono h ?_ ?_
         · intro h
           cases want
           · exact ih _ _ _ _ _ h
           · exact idstep_mono hc (fun _ _ _ _ h => ih _ _ _ _ _ h) h
         · intro h
           cases want
           · exact idstep_mono hc (fun _ _ _ _ h => ih _ _ _ _ _ h) h
           · exact ih _ _ _ _ _ h
       · exact ih _ _ _ _ _ h
       · exact h.elim
theorem idrawn_mono {P:Program} {call call':CallR} (hc:CMono call call') {ops:Array Oper} {Q Q':Env→PH→Prop} {e:Env} {σ:PH}
   (hq:∀ e τ,Q e τ→Q' e τ) (h:idrawn P call ops Q e σ):idrawn P call' ops Q' e σ:=by
 unfold idrawn at h ⊢
 split at h
 · exact qcalls_mono (fun _ h => idraw_mono hc hq h) h
 · exact h.elim
theorem idrawL_mono {P:Program} {call call':CallR} (hc:CMono call call') {all:Array Oper} {bef:List Nat}:∀ {os:List (Nat × Oper)} {done:List (Nat × Log)} {Q Q':List (Nat × Log)→Env→PH→Prop} {e:Env} {σ:PH},
   (∀ l e τ,Q l e τ→Q' l e τ)→idrawL P call all bef os done Q e σ→idrawL P call' all bef os done Q' e σ
 | [],_,_,_,_,_,hq,h => hq _ _ _ h
 | (j,o) :: os,done,Q,Q',e,σ,hq,h => by
   unfold idrawL at h ⊢
   split at h
   · exact idstep_mono hc (fun _ _ _ _ h => idrawL_mono hc hq h) h
   · exact h.elim
theorem idrawP_mono {P:Program} {call call':CallR} (hc:CMono call call') {all:Array Oper} {bef:List Nat} {bc:Nat}:∀ {os:List (Nat × Oper)} {done:List (Nat × Log)} {Q Q':List (Nat × Log)→Env→PH→Prop} {e:Env} {σ:PH},
   (∀ l e τ,Q l e τ→Q' l e τ)→idrawP P call all bef bc os done Q e σ→idrawP P call' all bef bc os done Q' e σ
 | [],_,_,_,_,_,hq,h => hq _ _ _ h
 | (j,o) :: os,done,Q,Q',e,σ,hq,h => by
   unfold idrawP at h ⊢
   split at h
   · split at h
     · exact idstep_mono hc (fun _ _ _ _ h => idrawP_mono hc hq h) h
     · exact h.elim
   · exact h.elim
theorem iecall_mono {P:Program} {call call':CallR} (hc:CMono call call') {all:Array Oper} {bef:List Nat} {c:Nat} {oc:Oper} {post:List (Nat × Oper)} {Q Q':Env→PH→Prop} {done:List (Nat × Log)} {e:Env} {σ:PH}
   (hq:∀ e τ,Q e τ→Q' e τ) (h:iecall P call all bef c oc post Q done e σ):iecall P call' all bef c oc post Q' done e σ:=by
 unfold iecall at h ⊢
 split at h
 · exact h.elim
 · split at h
   · exact h.elim
   · refine hc _ _ _ _ _ ?_ h
     rintro v τ ⟨υ,hs,h⟩
     exact ⟨υ,hs,withC_mono (fun h => enumT_mono (fun u hu => ⟨hu.1,idrawL_mono hc (fun _ _ _ h => hq _ _ h) hu.2⟩) h) h⟩
theorem idrawnE_mono {P:Program} {call call':CallR} (hc:CMono call call') {ops:Array Oper} {Q Q':Env→PH→Prop} {e:Env} {σ:PH}
   (hq:∀ e τ,Q e τ→Q' e τ) (h:idrawnE P call ops Q e σ):idrawnE P call' ops Q' e σ:=by
 unfold idrawnE at h ⊢
 split at h
 · exact h.elim
 · split at h
   · exact h.elim
   · split at h
     · exact h.elim
     · exact idrawP_mono hc (fun _ _ _ h => iecall_mono hc hq h) h
theorem icode_mono {P:Program} {call call':CallR} (hc:CMono call call'):∀ {c:Code} {n:Ann} {Q Q':IX→Env→PH→Prop} {e:Env} {σ:PH},
   (∀ x e τ,Q x e τ→Q' x e τ)→icode P call c n Q e σ→icode P call' c n Q' e σ:=by
 intro c
 induction c with
 | skip => intro n Q Q' e σ hq h; exact hq _ _ _ h
 | label l => intro n Q Q' e σ hq h; exact hq _ _ _ h
 | region id ops d =>
   intro n Q Q' e σ hq h
   cases d
   · exact iops_mono hc (fun _ _ h => hq _ _ _ h) h
   · simp only [icode] at h ⊢
     split at h
     · exact idrawnE_mono hc (fun _ _ h => hq _ _ _ h) h
     · exact idrawn_mono hc (fun _ _ h => hq _ _ _ h) h
 | seq a b iha ihb =>
   intro n Q Q' e σ hq h
   refine iha ?_ h
   intro x e τ hx
   cases x
   · exact ihb hq hx
   · exact hq _ _ _ hx
   · exact hq _ _ _ hx
 | cond c a b iha ihb =>
   intro n Q Q' e σ hq h
   simp only [icode] at h ⊢
   split at h
   · rename_i t ht; (try simp only [ht]); exact br_mono h (iha hq) (ihb hq)
   · exact h.elim
 | block id a iha =>
   intro n Q Q' e σ hq h
   refine iha ?_ h
   intro x e τ hx
   cases x
   · exact hq _ _ _ hx
   · simp only [blockK] at hx ⊢
     split at hx
     · rename_i h; (try simp only [h]); exact hq _ _ _ hx
     · rename_i h; (try simp only [h]); exact hq _ _ _ hx
   · exact hq _ _ _ hx
 | loop a iha =>
   intro n Q Q' e σ hq h R hR
   refine h R ?_
   intro e σ hb
   refine hR e σ (iha ?_ hb)
   intro x e τ hx
   cases x
   · exact hx
   · exact hq _ _ _ hx
   · exact hq _ _ _ hx
 | rangeFunc f p a b iha ihb => intro n Q Q' e σ hq h; exact h.elim
 | exit i => intro n Q Q' e σ hq h; exact hq _ _ _ h
 | scope a iha => intro n Q Q' e σ hq h; exact iha hq h
 | goto l => intro n Q Q' e σ hq h; exact h.elim
 | ret => intro n Q Q' e σ hq h; exact hq _ _ _ h
 | refuse w => intro n Q Q' e σ hq h; exact h.elim
end Go.Sl
