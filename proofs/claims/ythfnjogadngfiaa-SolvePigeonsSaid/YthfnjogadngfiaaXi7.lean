/- A part of the proof: see the last text, YthfnjogadngfiaaXi14. -/
import Derived.Test.YthfnjogadngfiaaXi6
set_option maxRecDepth 100000
set_option linter.unusedVariables false
set_option linter.unusedSimpArgs false
namespace Go.Proofs.Ythfnjogadngfiaa
open Go.Sl
abbrev T6_5:=Addr × Addr × Option Addr × Nat × Nat × Int × Int
abbrev T6_3:=Option Addr × Nat × Nat × Addr × Addr × Int × Int
abbrev T6_1:=Option Addr × Nat × Nat × Option Addr × Nat × Nat × Addr × Addr × Int × Int
abbrev T7_1:=Int × Int × Addr × Int
end Go.Proofs.Ythfnjogadngfiaa
namespace Go.Proofs.Ythfnjogadngfiaa
open Go.Sl Go.Sv
noncomputable abbrev C:CallR:=ICall prog anns (SemCall prog)
theorem hb:CMono (SemCall prog) (SemCall prog):=SemCall.of SemCall.hc
theorem go {f:FuncId} {args:Array Value} {Q:Value→PH→Prop} {σ:PH} {A:Prop} (e:ibody prog anns C f args Q σ=A) (h:A):C f args Q σ:=by
 refine ICall.intro (P:=prog) (anns:=anns) (base:=SemCall prog) hb ?_
 rw [e]
 exact h
def Lit (i:Int):Prop:=-1152921504606846976≤i∧i≤1152921504606846976
theorem c73 {i:Int} (h:Lit i) (σ:PH):C 73 #[.int .i64 i] (fun v τ => v=.int .i64 (idx i)∧τ=σ) σ:=by
 refine go (E73_0 _ _ _ _) ?_
 unfold S73_0
 obtain ⟨h1,h2⟩:=h
 refine br_dec.2 ⟨fun hl => ⟨?_,rfl⟩,fun hl => ⟨?_,rfl⟩⟩
 · unfold idx
   rw [if_pos hl,w64 (n:=0 - i) (by omega) (by omega),w64 (n:=0 - i - 1) (by omega) (by omega),w64 (n:=2 * (0 - i - 1)) (by omega) (by omega),w64 (by omega) (by omega)]
   congr 1; omega
 · unfold idx
   rw [if_neg hl,w64 (n:=i - 1) (by omega) (by omega),w64 (by omega) (by omega)]
theorem c74 {i:Int} (h:Lit i) (h0:i ≠ 0) (σ:PH):C 74 #[.int .i64 i] (fun v τ => v=.int .i64 (idx i / 2)∧τ=σ) σ:=by
 refine go (E74_0 _ _ _ _) ?_
 unfold S74_0
 refine (c73 h σ).mono hb ?_
 rintro _ _ ⟨rfl,rfl⟩
 refine ⟨_,PH.sub.refl _,_,rfl,by decide,rfl,?_,rfl⟩
 have:0≤idx i∧idx i≤4611686018427387904:=by unfold Lit at h; unfold idx; split <;> omega
 rw [Int.tdiv_eq_ediv_of_nonneg this.1,w64 (by omega) (by omega)]
theorem c43 {σ:PH} {a:Option Addr} {n c:Nat} {l:List Int} {i:Int} (h:Lit i) (hl:Ints σ a n l) (hv:∀ x ∈ l,Lit x):C 43 #[.slice a n c,.int .i64 i] (fun v τ => v=.int .i64 (valS l i)∧τ=σ) σ:=by
 refine go (E43_0 _ _ _ _ _ _ _) ?_
 unfold S43_0
 have hn:=hl.1
 have hget:∀ k:Nat,Lit (l.getD k 0):=by
   intro k
   rw [List.getD_eq_getElem?_getD]
   cases hk:l[k]? with
   | none => exact ⟨by decide,by decide⟩
   | some x => exact hv x (List.mem_of_getElem? hk)
 have neg:i < 0→-i≤n→∃ p5:Addr,a=some p5∧(0:Int)≤(IntKind.wrap .i64 ((IntKind.wrap .i64 (0 - i)) - (1:Int)))∧(IntKind.wrap .i64 ((IntKind.wrap .i64 (0 - i)) - (1:Int))) < ((n:Nat):Int) ∧
     ∃ v9,PH.cell? σ (p5.add (Int.toNat (IntKind.wrap .i64 ((IntKind.wrap .i64 (0 - i)) - (1:Int))) * 1))=some v9∧∃ (i10:Int),v9=(.int .i64 i10)∧(Value.int .i64 (IntKind.wrap .i64 (0 - i10))=.int .i64 (valS l i)∧σ=σ):=by
   intro h0 h1
   have:=h.1
   rw [w64 (n:=0 - i) (by omega) (by omega),w64 (n:=0 - i - 1) (by omega) (by omega)]
   obtain ⟨p,hp,hc⟩:=hl.at (i:=0 - i - 1) (by omega) (by omega)
   refine ⟨p,hp,by omega,by omega,_,hc,_,rfl,?_,rfl⟩
   have hg:=hget (0 - i - 1).toNat
   have:=hg.1; have:=hg.2
   rw [w64 (by omega) (by omega)]
   unfold valS
   rw [if_neg (by omega),if_pos (by omega)]
   rw [show 0 - i - 1=-i - 1 from by omega,Int.zero_sub]
 refine br_dec.2 ⟨fun h0 => br_dec.2 ⟨fun h1 => ?_,fun h1 => br_dec.2 ⟨fun h2 => by omega,fun h2 => ⟨?_,rfl⟩⟩⟩,fun h0 => br_dec.2 ⟨fun h1 => br_dec.2 ⟨fun h2 => ?_,fun h2 => ⟨?_,rfl⟩⟩,fun h1 => ⟨?_,rfl⟩⟩⟩
 · have:=h.2
   rw [w64 (n:=i - 1) (by omega) (by omega)]
   obtain ⟨p,hp,hc⟩:=hl.at (i:=i - 1) (by omega) (by omega)
   refine ⟨p,hp,by omega,by omega,_,hc,_,rfl,?_,rfl⟩
   unfold valS
   rw [if_pos (by omega)]
 · unfold valS; rw [if_neg (by omega),if_neg (by omega)]
 · have:=h.1
   rw [w64 (n:=0 - i) (by omega) (by omega)] at h2
   exact neg h1 (by omega)
 · have:=h.1
   rw [w64 (n:=0 - i) (by omega) (by omega)] at h2
   unfold valS; rw [if_neg (by omega),if_neg (by omega)]
 · unfold valS; rw [if_neg (by omega),if_neg (by omega)]
def Len (n:Nat):Prop:=n≤1152921504606846976
theorem c66 {σ:PH} {a:Option Addr} {n c:Nat} {l:List Int} {i:Int} (hn:Len n) (hl:Ints σ a n l):C 66 #[.slice a n c,.int .i64 i] (fun v τ => v=.bool (l.contains i)∧τ=σ) σ:=by
 refine go (E66_0 _ _ _ _ _ _ _) ?_
 unfold S66_0 S66_1
 refine iloopS_for (fun k (_:Unit) => (i,a,n,c,(n:Int),(k:Int))) (fun k _ τ => τ=σ∧l.contains i=(l.drop k).contains i) n ?_ (g:=()) ⟨rfl,rfl⟩
 rintro k _ τ hk ⟨rfl,hI⟩ R hR
 unfold S66_2
 dsimp only
 refine br_dec.2 ⟨fun h => ?_,fun h => ?_⟩
 · obtain ⟨p,hp,hc⟩:=hl.at (i:=(k:Int)) (by omega) (by omega)
   refine ⟨p,hp,by omega,by omega,_,hc,_,rfl,?_⟩
   have hlt:k < l.length:=by have:=hl.1; omega
   have hd:l.drop k=l[k] :: l.drop (k + 1):=List.drop_eq_getElem_cons hlt
   have hg:l.getD (k:Int).toNat 0=l[k]:=by simp [hlt]
   rw [hg]
   refine br_iff.2 ⟨fun h1 => ⟨?_,rfl⟩,fun h1 => ?_⟩
   · have:l[k]=i:=eq_of_beq h1
     have h2:(l.drop k).contains i=true:=by rw [hd,List.contains_cons,this,beq_self_eq_true,Bool.true_or]
     rw [hI,h2]
   · have h3:=hR () τ (by omega) ⟨rfl,by rw [hI,hd,List.contains_cons]; simp at h1; simp [show (i == l[k])=false from by simp; exact fun e => h1 e.symm]⟩
     unfold Len at hn
     rw [wnat (by omega)]
     exact h3
 · have:k=n:=by omega
   subst this
   refine ⟨?_,rfl⟩
   rw [hI,List.drop_eq_nil_of_le (by rw [hl.1]; exact Nat.le_refl _)]
   rfl
theorem c27 {σ:PH} {a:Option Addr} {n c:Nat} {l:List Int} {a':Option Addr} {n' c':Nat} {l':List Int} (hn:Len n) (hl:Ints σ a n l) (hl':Ints σ a' n' l') :
   C 27 #[.slice a n c,.slice a' n' c'] (fun v τ => v=.bool (l == l')∧τ=σ) σ:=by
 refine go (E27_0 _ _ _ _ _ _ _ _ _) ?_
 unfold S27_0
 have e1:=hl.1
 have e2:=hl'.1
 refine br_iff.2 ⟨fun h => ⟨?_,rfl⟩,fun h => ?_⟩
 · congr 1
   symm
   rw [beq_eq_false_iff_ne]
   rintro rfl
   simp at h
   omega
 · have hnn:n=n':=by simp at h; omega
   subst hnn
   unfold S27_1
   refine iloopS_for (fun k (_:Unit) => (a,n,c,a',n,c',(n:Int),(k:Int))) (fun k _ τ => τ=σ∧l.take k=l'.take k) n ?_ (g:=()) ⟨rfl,rfl⟩
   rintro k _ τ hk ⟨rfl,hI⟩ R hR
   unfold S27_2
   dsimp only
   refine br_dec.2 ⟨fun h => ?_,fun h => ?_⟩
   · obtain ⟨p,hp,hc⟩:=hl.at (i:=(k:Int)) (by omega) (by omega)
     obtain ⟨p',hp',hc'⟩:=hl'.at (i:=(k:Int)) (by omega) (by omega)
     refine ⟨p,hp,by omega,by omega,_,hc,_,rfl,p',hp',by omega,by omega,_,hc',_,rfl,?_⟩
     have h1:k < l.length:=by omega
     have h2:k < l'.length:=by omega
     have hg:l.getD (k:Int).toNat 0=l[k]:=by simp [h1]
     have hg':l'.getD (k:Int).toNat 0=l'[k]:=by simp [h2]
     rw [hg,hg']
     refine br_iff.2 ⟨fun h3 => ⟨?_,rfl⟩,fun h3 => ?_⟩
     · congr 1
       symm
       rw [beq_eq_false_iff_ne]
       rintro rfl
       simp at h3
     · have h4:=hR () τ (by omega) ⟨rfl,by rw [List.take_succ_eq_append_getElem h1,List.take_succ_eq_append_getElem h2,hI]; simp at h3; rw [h3]⟩
       unfold Len at hn
       rw [wnat (by omega)]
       exact h4
   · have:k=n:=by omega
     subst this
     refine ⟨?_,rfl⟩
     rw [List.take_of_length_le (by omega),List.take_of_length_le (by omega)] at hI
     rw [hI]; simp
end Go.Proofs.Ythfnjogadngfiaa
namespace Go.Sl
structure Step (M:Nat→Prop) (σ τ:PH):Prop where
 same:∀ b o,σ b=some o→¬ M b→τ b=some o
 dom:∀ b,σ b ≠ none→τ b ≠ none
theorem Step.refl {M:Nat→Prop} (σ:PH):Step M σ σ:=⟨fun _ _ h _ => h,fun _ h => h⟩
theorem Step.trans {M:Nat→Prop} {σ τ υ:PH} (h:Step M σ τ) (h':Step M τ υ):Step M σ υ :=
 ⟨fun b o hb hm => h'.same b o (h.same b o hb hm) hm,fun b hb => h'.dom b (h.dom b hb)⟩
theorem Step.weaken {M N:Nat→Prop} {σ τ:PH} (h:Step M σ τ) (hm:∀ b,M b→N b):Step N σ τ:=⟨fun b o hb hn => h.same b o hb fun h => hn (hm b h),h.dom⟩
theorem PH.sub.step {M:Nat→Prop} {σ τ:PH} (h:σ.sub τ):Step M σ τ :=
 ⟨fun b o hb _ => h b o hb,fun b hb => by
   cases hc:σ b with
   | none => exact absurd hc hb
   | some o => rw [h b o hc]; simp⟩
structure Own (σ:PH) (e:TypeId) (size:Nat) (a:Option Addr) (n c:Nat) (vs:List Value):Prop where
 len:vs.length=n * size
 le:n≤c
 row:(a=none∧c=0) ∨ ∃ b arr,a=some ⟨b,0,none⟩∧σ b=some (.cells arr e (0,0))∧arr.size=c * size∧arr.toList.take (n * size)=vs
theorem add_off (b o i:Nat):(Addr.mk b o none).add i=⟨b,o + i,none⟩:=by
 unfold Addr.add
 split
 · rename_i h; subst h; rfl
 · rfl
theorem rowAt_of {σ:PH} {b:Nat} {arr:Array Value} {e:TypeId} {f:Nat × Nat} (h:σ b=some (.cells arr e f)):∀ (vs:List Value) (o i:Nat),(∀ j v,vs[j]?=some v→arr[o + i + j]?=some v)→rowAt σ ⟨b,o,none⟩ i vs
 | [],_,_,_ => trivial
 | v :: vs,o,i,hv => by
   refine ⟨?_,rowAt_of h vs o (i + 1) fun j u hu => ?_⟩
   · rw [add_off]
     unfold PH.cell?
     rw [h]
     exact hv 0 v rfl
   · have:=hv (j + 1) u hu
     rw [← this]; congr 1; omega
theorem Own.reads {σ:PH} {e:TypeId} {size:Nat} {a:Option Addr} {n c:Nat} {vs:List Value} (h:Own σ e size a n c vs):readsRow σ a vs:=by
 rcases h.row with ⟨rfl,hc⟩ | ⟨b,arr,rfl,hb,hs,ht⟩
 · have h1:=h.len
   have h2:=h.le
   have:n=0:=by omega
   subst this
   rw [Nat.zero_mul] at h1
   exact List.length_eq_zero_iff.1 h1
 · refine rowAt_of hb vs 0 0 fun j v hv => ?_
   rw [← ht] at hv
   rw [List.getElem?_take] at hv
   split at hv
   · simpa using hv
   · cases hv
theorem putRow_cells {b:Nat} {e:TypeId} {f:Nat × Nat}:∀ (vs:List Value) (σ:PH) (arr:Array Value) (o i:Nat),σ b=some (.cells arr e f)→o + i + vs.length≤arr.size →
   ∃ arr',putRow σ ⟨b,o,none⟩ i vs b=some (.cells arr' e f)∧arr'.size=arr.size∧arr'.toList.take (o + i + vs.length)=arr.toList.take (o + i) ++ vs∧(∀ x,x ≠ b→putRow σ ⟨b,o,none⟩ i vs x=σ x)
 | [],σ,arr,o,i,h,hl => ⟨arr,h,rfl,by simp,fun _ _ => rfl⟩
 | v :: vs,σ,arr,o,i,h,hl => by
   have h1:(σ.setCell ((Addr.mk b o none).add i) v) b=some (.cells (arr.setIfInBounds (o + i) v) e f):=by
     rw [add_off]
     unfold PH.setCell
     simp only [if_true,h,Option.map_some]
     rfl
   simp only [List.length_cons] at hl
   obtain ⟨arr',q1,q2,q3,q4⟩:=putRow_cells vs _ _ o (i + 1) h1 (by simp; omega)
   refine ⟨arr',q1,by rw [q2]; simp,?_,?_⟩
   · rw [List.length_cons,show o + i + (vs.length + 1)=o + (i + 1) + vs.length from by omega,q3]
     rw [Array.toList_setIfInBounds,show o + (i + 1)=(o + i) + 1 from rfl]
     have hlt:o + i < arr.toList.length:=by simp; omega
     rw [List.take_succ_eq_append_getElem (by simp; omega)]
     simp [List.take_set_of_le]
   · intro x hx
     show putRow _ _ (i + 1) vs x=_
     rw [q4 x hx,add_off]
     unfold PH.setCell
     rw [if_neg hx]
theorem notFrozen_of {σ:PH} {b:Nat} {arr:Array Value} {e:TypeId} (h:σ b=some (.cells arr e (0,0))):∀ (m o i:Nat),o + i + m≤arr.size→notFrozen σ ⟨b,o,none⟩ i m
 | 0,_,_,_ => trivial
 | m + 1,o,i,hl => by
   refine ⟨?_,?_,notFrozen_of h m o (i + 1) (by omega)⟩
   · rw [add_off]; unfold PH.froz; rw [h]; simp
   · rw [add_off]; unfold PH.cell?; rw [h]
     exact ⟨arr[o + i]'(by omega),by simp⟩
theorem growBy_le {n:Nat}:∀ (r c:Nat),c≤n + n / 4 + 256→Builtin.growBy n r c≤n + n / 4 + 256
 | 0,_,h => h
 | r + 1,c,h => by
   unfold Builtin.growBy
   split
   · exact h
   · exact growBy_le r _ (by omega)
theorem nextcap_le {n c:Nat} (h:c < n):Builtin.nextslicecap n c≤n + n / 4 + 256:=by
 unfold Builtin.nextslicecap
 split
 · omega
 · split
   · omega
   · exact growBy_le 4 c (by omega)
theorem Own.append {P:Program} {e:TypeId} {size bytes:Nat} {z:Value} (hs:sizeT P e=some size) (hb:bytesT P e=some bytes) (hz:zeroT P e=some z) (hzs:z.cells.size=size) (h0:bytes ≠ 0)
   {σ:PH} {a:Option Addr} {n c m mc:Nat} {vs news:List Value} {xb:Option Addr} (o:Own σ e size a n c vs) (hr:readsRow σ xb news) (hl:news.length=m * size) (hp:∀ v ∈ news,plainCell v)
   (hbig:((n + m) + (n + m) / 4 + 256) * bytes≤2 ^ 48) {Q:Value→PH→Prop}
   (hQ:∀ a' c' τ,Own τ e size a' (n + m) c' (vs ++ news)→Step (fun b => ∃ p,a=some p∧b=p.block) σ τ→(a'=a ∨ ∃ b,σ b=none∧a'=some ⟨b,0,none⟩)→Q (.slice a' (n + m) c') τ) :
   iappend P e (.slice a n c) (.slice xb m mc) Q σ:=by
 unfold iappend
 simp only [hs,hb,hz,hzs,beq_self_eq_true]
 refine ⟨vs,news,o.len,hl,o.reads,hr,fun hle => ?_,fun hlt => ⟨h0,?_,fun c' b hc' hbn => ?_⟩⟩
 · rcases o.row with ⟨rfl,hc⟩ | ⟨b,arr,rfl,hbk,hsz,ht⟩
   · have h1:=o.le
     have hn:n=0:=by omega
     have hm:m=0:=by omega
     subst hn; subst hm
     have hv:vs=[]:=List.length_eq_zero_iff.1 (by rw [o.len]; simp)
     have hw:news=[]:=List.length_eq_zero_iff.1 (by rw [hl]; simp)
     subst hv; subst hw
     exact hQ none c σ ⟨by simp,by omega,.inl ⟨rfl,hc⟩⟩ (.refl _) (.inl rfl)
   · have hroom:n * size + m * size≤arr.size:=by rw [hsz,← Nat.add_mul]; exact Nat.mul_le_mul_right _ hle
     refine ⟨hp,?_,?_⟩
     · rw [add_off]
       exact notFrozen_of hbk _ _ _ (by simp; omega)
     · rw [add_off]
       obtain ⟨arr',q1,q2,q3,q4⟩:=putRow_cells (b:=b) news σ arr (0 + n * size) 0 hbk (by rw [hl]; omega)
       refine hQ _ c _ ⟨by rw [List.length_append,o.len,hl,Nat.add_mul],hle,.inr ⟨b,arr',rfl,q1,by rw [q2,hsz],?_⟩⟩ ⟨?_,?_⟩ (.inl rfl)
       · rw [hl] at q3
         simp only [Nat.zero_add,Nat.add_zero] at q3
         rw [Nat.add_mul,q3,ht]
       · intro x ob hx hne
         rw [q4 x fun e => hne ⟨_,rfl,e⟩]; exact hx
       · intro x hx
         by_cases e:x=b
         · subst e; rw [q1]; simp
         · rw [q4 x e]; exact hx
 · exact Nat.le_trans (Nat.mul_le_mul_right _ (nextcap_le hlt)) hbig
 · refine hQ _ c' _ ⟨by rw [List.length_append,o.len,hl,Nat.add_mul],hc',.inr ⟨b,_,rfl,by unfold PH.set; rw [if_pos rfl],?_,?_⟩⟩ ?_ (.inr ⟨b,hbn,rfl⟩)
   · simp only [Array.size_append,List.size_toArray,o.len,hl,zeros,Builtin.zeroCells,Array.size_map,Array.size_range,hzs]
     rw [← Nat.add_mul,← Nat.add_mul]
     congr 1
     omega
   · simp only [Array.toList_append]
     rw [List.take_append_of_le_length (by simp [o.len,hl,Nat.add_mul]),List.take_of_length_le (by simp [o.len,hl,Nat.add_mul])]
   · exact (PH.sub_set hbn).step
inductive Tag where
 | other | fld (k:Nat) | watch (k:Nat) | rsn | lits (r:Nat) | cyc (r:Nat)
deriving DecidableEq
structure Sli where
 a:Option Addr
 n:Nat
 c:Nat
abbrev Sli.v (s:Sli):Value:=.slice s.a s.n s.c
theorem Own.keep {M:Nat→Prop} {σ τ:PH} (h:Step M σ τ) {e:TypeId} {size:Nat} {a:Option Addr} {n c:Nat} {vs:List Value} (hm:∀ p,a=some p→¬ M p.block) (o:Own σ e size a n c vs):Own τ e size a n c vs:=by
 refine ⟨o.len,o.le,?_⟩
 rcases o.row with h' | ⟨b,arr,rfl,hb,h1,h2⟩
 · exact .inl h'
 · exact .inr ⟨b,arr,rfl,h.same b _ hb (hm _ rfl),h1,h2⟩
theorem Own.known {σ:PH} {e:TypeId} {size:Nat} {a:Option Addr} {n c:Nat} {vs:List Value} (o:Own σ e size a n c vs) {p:Addr} (hp:a=some p):σ p.block ≠ none:=by
 rcases o.row with ⟨rfl,_⟩ | ⟨b,arr,rfl,hb,_⟩
 · cases hp
 · cases hp; rw [hb]; simp
theorem Own.get {σ:PH} {e:TypeId} {size:Nat} {a:Option Addr} {n c:Nat} {vs:List Value} (o:Own σ e size a n c vs) {i:Nat} {v:Value} (hv:vs[i]?=some v):∃ p,a=some p∧σ.cell? (p.add i)=some v:=by
 rcases o.row with ⟨rfl,hc⟩ | ⟨b,arr,rfl,hb,h1,h2⟩
 · have h1:=o.len
   have h2:=o.le
   have:n=0:=by omega
   subst this
   rw [Nat.zero_mul] at h1
   rw [List.length_eq_zero_iff.1 h1] at hv
   simp at hv
 · refine ⟨_,rfl,?_⟩
   rw [add_off,Nat.zero_add]
   unfold PH.cell?
   rw [hb]
   rw [← h2,List.getElem?_take] at hv
   split at hv
   · simpa using hv
   · cases hv
theorem setCell_at {σ:PH} {b o:Nat} {arr:Array Value} {e:TypeId} {f:Nat × Nat} {v:Value} (h:σ b=some (.cells arr e f)):(σ.setCell ⟨b,o,none⟩ v) b=some (.cells (arr.setIfInBounds o v) e f):=by
 unfold PH.setCell
 simp only [if_true,h,Option.map_some]
 rfl
theorem setCell_step {σ:PH} {a:Addr} {v:Value}:Step (fun b => b=a.block) σ (σ.setCell a v):=by
 refine ⟨fun b o hb hm => ?_,fun b hb => ?_⟩
 · unfold PH.setCell; rw [if_neg hm]; exact hb
 · intro h; exact hb (setCell_none.1 h)
theorem Own.set {σ:PH} {e:TypeId} {size:Nat} {a:Option Addr} {n c:Nat} {vs:List Value} (o:Own σ e size a n c vs) {i:Nat} (hi:i < vs.length) :
   ∃ p,a=some p∧(∃ u,σ.cell? (p.add i)=some u)∧σ.froz (p.add i)=some false∧(p.add i).block=p.block∧∀ v,Own (σ.setCell (p.add i) v) e size a n c (vs.set i v):=by
 obtain ⟨p,hp,hc⟩:=o.get (i:=i) (v:=vs[i]) (List.getElem?_eq_getElem hi)
 refine ⟨p,hp,⟨_,hc⟩,?_,add_block p i,fun v => ?_⟩
 · rcases o.row with ⟨rfl,_⟩ | ⟨b,arr,rfl,hb,h1,h2⟩
   · cases hp
   · cases hp
     rw [add_off]; unfold PH.froz; rw [hb]; simp
 · refine ⟨by rw [List.length_set]; exact o.len,o.le,?_⟩
   rcases o.row with ⟨rfl,_⟩ | ⟨b,arr,rfl,hb,h1,h2⟩
   · cases hp
   · cases hp
     refine .inr ⟨b,arr.setIfInBounds i v,rfl,?_,by rw [Array.size_setIfInBounds]; exact h1,?_⟩
     · rw [add_off,Nat.zero_add]; exact setCell_at hb
     · rw [← h2,Array.toList_setIfInBounds,List.take_set]
def OwnT (σ:PH) (T:Nat→Tag) (t:Tag) (e:TypeId) (size:Nat) (s:Sli) (vs:List Value):Prop:=Own σ e size s.a s.n s.c vs∧∀ p,s.a=some p→T p.block=t
theorem OwnT.keep {M:Nat→Prop} {σ τ:PH} (h:Step M σ τ) {T:Nat→Tag} {t:Tag} {e:TypeId} {size:Nat} {s:Sli} {vs:List Value} (hm:∀ b,T b=t→¬ M b) (o:OwnT σ T t e size s vs):OwnT τ T t e size s vs :=
 ⟨o.1.keep h fun p hp => hm _ (o.2 p hp),o.2⟩
theorem OwnT.tag {σ:PH} {T T':Nat→Tag} (hT:∀ b,σ b ≠ none→T' b=T b) {t:Tag} {e:TypeId} {size:Nat} {s:Sli} {vs:List Value} (o:OwnT σ T t e size s vs):OwnT σ T' t e size s vs :=
 ⟨o.1,fun p hp => (hT _ (o.1.known hp)).trans (o.2 p hp)⟩
def Blk (σ:PH) (b:Nat) (e:TypeId) (vs:List Value):Prop:=σ b=some (.cells vs.toArray e (0,0))
theorem Blk.get {σ:PH} {b:Nat} {e:TypeId} {vs:List Value} (h:Blk σ b e vs) {i:Nat} {v:Value} (hv:vs[i]?=some v):σ.cell? ((Addr.mk b 0 none).add i)=some v:=by
 rw [add_off,Nat.zero_add]
 unfold PH.cell?
 rw [h]
 simpa using hv
theorem Blk.froz {σ:PH} {b:Nat} {e:TypeId} {vs:List Value} (h:Blk σ b e vs) (i:Nat):σ.froz ((Addr.mk b 0 none).add i)=some false:=by
 rw [add_off]; unfold PH.froz; rw [h]; simp
theorem Blk.set {σ:PH} {b:Nat} {e:TypeId} {vs:List Value} (h:Blk σ b e vs) (i:Nat) (v:Value):Blk (σ.setCell ((Addr.mk b 0 none).add i) v) b e (vs.set i v):=by
 rw [add_off,Nat.zero_add]
 unfold Blk
 rw [setCell_at h]
 simp
theorem Blk.keep {M:Nat→Prop} {σ τ:PH} (h:Step M σ τ) {b:Nat} {e:TypeId} {vs:List Value} (hm:¬ M b) (o:Blk σ b e vs):Blk τ b e vs:=h.same b _ o hm
theorem Blk.known {σ:PH} {b:Nat} {e:TypeId} {vs:List Value} (o:Blk σ b e vs):σ b ≠ none:=by rw [o]; simp
end Go.Sl
namespace Go.Proofs.Ythfnjogadngfiaa
open Go.Sl Go.Sv
structure RL where
 l:Sli
 lits:List Int
 step:Int
 c:Sli
 cyc:List Int
structure Low where
 ff:List Value
 F:Nat→Sli
 V:Nat→List Value
 inp:Nat
 es:Array MapEntry
 clock:Nat
 head:Int
 bump:Nat
 empty:Option Addr
 W:List (Sli × List Int)
 R:Nat→Option RL
def cellsOf (g:Low):List Value :=
 g.ff ++ [(g.F 4).v,.map (some g.inp),(g.F 6).v,(g.F 7).v,(g.F 8).v,(g.F 9).v,(g.F 10).v,(g.F 11).v,(g.F 12).v,.int .i64 g.head,(g.F 14).v,.float .f64 g.bump,.pointer g.empty,(g.F 17).v]
def fty:Nat→Option (Nat × Nat)
 | 4 => some (95,6) | 6 => some (84,1) | 7 => some (33,1) | 8 => some (3,1) | 9 => some (3,1) | 10 => some (84,1) | 11 => some (3,1) | 12 => some (3,1) | 14 => some (83,1) | 17 => some (84,1)
 | _ => none
def ints (l:List Int):List Value:=l.map (.int .i64)
structure Sol (σ:PH) (T:Nat→Tag) (s:Nat) (g:Low):Prop where
 ff:g.ff.length=4
 blk:Blk σ s 86 (cellsOf g)
 tag:T s=.fld 0
 fld:∀ k e size,fty k=some (e,size)→OwnT σ T (.fld k) e size (g.F k) (g.V k)
 map:σ g.inp=some (.map g.es g.clock)
 mtag:T g.inp=.fld 5
 keys:IntKeys .i64 g.es
 wv:g.V 7=g.W.map (·.1.v)
 wat:∀ i sl l,g.W[i]?=some (sl,l)→OwnT σ T (.watch i) 3 1 sl (ints l)
 rblk:∀ r x,g.R r=some x→Blk σ r 102 [x.l.v,.int .i64 x.step,x.c.v]
 rtag:∀ r x,g.R r=some x→T r=.rsn
 rl:∀ r x,g.R r=some x→OwnT σ T (.lits r) 3 1 x.l (ints x.lits)
 rc:∀ r x,g.R r=some x→OwnT σ T (.cyc r) 3 1 x.c (ints x.cyc)
structure Did (σ:PH) (T:Nat→Tag) (τ:PH) (T':Nat→Tag):Prop where
 step:Step (fun b => T b ≠ .other) σ τ
 tags:∀ b,σ b ≠ none→T' b=T b
theorem Did.refl (σ:PH) (T:Nat→Tag):Did σ T σ T:=⟨.refl _,fun _ _ => rfl⟩
theorem Did.trans {σ τ υ:PH} {T T' T'':Nat→Tag} (h:Did σ T τ T') (h':Did τ T' υ T''):Did σ T υ T'':=by
 refine ⟨⟨fun b o hb hm => ?_,fun b hb => h'.step.dom b (h.step.dom b hb)⟩,fun b hb => (h'.tags b (h.step.dom b hb)).trans (h.tags b hb)⟩
 refine h'.step.same b o (h.step.same b o hb hm) ?_
 rw [h.tags b (by rw [hb]; simp)]
 exact hm
theorem Sol.keep {M:Nat→Prop} {σ τ:PH} {T:Nat→Tag} {s:Nat} {g:Low} (h:Sol σ T s g) (hs:Step M σ τ) (hm:∀ b,T b ≠ .other→¬ M b):Sol τ T s g where
 ff:=h.ff
 blk:=h.blk.keep hs (hm s (by rw [h.tag]; simp))
 tag:=h.tag
 fld k e size hk:=(h.fld k e size hk).keep hs fun b hb => hm b (by rw [hb]; simp)
 map:=hs.same _ _ h.map (hm _ (by rw [h.mtag]; simp))
 mtag:=h.mtag
 keys:=h.keys
 wv:=h.wv
 wat i sl l hi:=(h.wat i sl l hi).keep hs fun b hb => hm b (by rw [hb]; simp)
 rblk r x hr:=(h.rblk r x hr).keep hs (hm r (by rw [h.rtag r x hr]; simp))
 rtag:=h.rtag
 rl r x hr:=(h.rl r x hr).keep hs fun b hb => hm b (by rw [hb]; simp)
 rc r x hr:=(h.rc r x hr).keep hs fun b hb => hm b (by rw [hb]; simp)
theorem Sol.retag {σ:PH} {T T':Nat→Tag} {s:Nat} {g:Low} (h:Sol σ T s g) (hT:∀ b,σ b ≠ none→T' b=T b):Sol σ T' s g where
 ff:=h.ff
 blk:=h.blk
 tag:=(hT s h.blk.known).trans h.tag
 fld k e size hk:=(h.fld k e size hk).tag hT
 map:=h.map
 mtag:=(hT _ (by rw [h.map]; simp)).trans h.mtag
 keys:=h.keys
 wv:=h.wv
 wat i sl l hi:=(h.wat i sl l hi).tag hT
 rblk:=h.rblk
 rtag r x hr:=(hT r (h.rblk r x hr).known).trans (h.rtag r x hr)
 rl r x hr:=(h.rl r x hr).tag hT
 rc r x hr:=(h.rc r x hr).tag hT
def Low.setV (g:Low) (k:Nat) (vs:List Value):Low:={ g with V:=fun j => if j=k then vs else g.V j }
theorem Sol.setAt {σ:PH} {T:Nat→Tag} {s:Nat} {g:Low} (h:Sol σ T s g) {k e size:Nat} (hk:fty k=some (e,size)) (h7:k ≠ 7) {i:Nat} (hi:i < (g.V k).length) :
   ∃ p,(g.F k).a=some p∧(∃ u,σ.cell? (p.add i)=some u)∧σ.froz (p.add i)=some false∧∀ v,Sol (σ.setCell (p.add i) v) T s (g.setV k ((g.V k).set i v))∧Did σ T (σ.setCell (p.add i) v) T:=by
 have hO:=h.fld k e size hk
 obtain ⟨p,hp,h1,h2,hb,h3⟩:=hO.1.set hi
 refine ⟨p,hp,h1,h2,fun v => ?_⟩
 have hst:Step (fun b => b=(p.add i).block) σ (σ.setCell (p.add i) v):=setCell_step
 have htp:T (p.add i).block=.fld k:=by rw [hb]; exact hO.2 p hp
 have ne:∀ b t,T b=t→t ≠ .fld k→¬ b=(p.add i).block:=by
   rintro b t h1 h2 rfl
   exact h2 (h1.symm.trans htp)
 have k0:k ≠ 0:=by rintro rfl; cases hk
 have k5:k ≠ 5:=by rintro rfl; cases hk
 refine ⟨⟨h.ff,h.blk.keep hst (ne s _ h.tag (by simp [Ne.symm k0])),h.tag,fun j e' size' hj => ?_,hst.same _ _ h.map (ne _ _ h.mtag (by simp [Ne.symm k5])),h.mtag,h.keys,?_,fun j sl l hj => (h.wat j sl l hj).keep hst fun b hb => ne b _ hb (by simp),
   fun r x hr => (h.rblk r x hr).keep hst (ne r _ (h.rtag r x hr) (by simp)),h.rtag,fun r x hr => (h.rl r x hr).keep hst fun b hb => ne b _ hb (by simp),fun r x hr => (h.rc r x hr).keep hst fun b hb => ne b _ hb (by simp)⟩,hst.weaken ?_,fun _ _ => rfl⟩
 · by_cases e1:j=k
   · subst e1
     rw [hk] at hj
     cases hj
     refine ⟨?_,hO.2⟩
     show Own _ e size _ _ _ (if j=j then _ else _)
     rw [if_pos rfl]
     exact h3 v
   · have:=(h.fld j e' size' hj).keep hst fun b hb => ne b _ hb (by simpa using e1)
     show OwnT _ _ _ _ _ _ (if j=k then _ else _)
     rw [if_neg e1]
     exact this
 · show (if 7=k then _ else g.V 7)=_
   rw [if_neg (Ne.symm h7)]
   exact h.wv
 · rintro b rfl
   rw [htp]; simp
def tagAt (T:Nat→Tag) (a:Option Addr) (t:Tag) (b:Nat):Tag:=match a with | some p => if b=p.block then t else T b | none => T b
theorem tagAt_self {T:Nat→Tag} {p:Addr} {t:Tag}:tagAt T (some p) t p.block=t:=by simp [tagAt]
theorem tagAt_other {T:Nat→Tag} {a:Option Addr} {t:Tag} {b:Nat} (h:∀ p,a=some p→b=p.block→T b=t):tagAt T a t b=T b:=by
 unfold tagAt
 split
 · split
   · rename_i p e; exact (h p rfl e).symm
   · rfl
 · rfl
def Low.setF (g:Low) (k:Nat) (sl:Sli) (vs:List Value):Low:={ g with F:=fun j => if j=k then sl else g.F j,V:=fun j => if j=k then vs else g.V j }
theorem cellsOf_setF {g:Low} (hff:g.ff.length=4) {k e size:Nat} (hk:fty k=some (e,size)) (sl:Sli) (vs:List Value):cellsOf (g.setF k sl vs)=(cellsOf g).set k sl.v:=by
 obtain ⟨ff,F,V,inp,es,clock,head,bump,empty,W,R⟩:=g
 match ff,hff with
 | [a,b,c,d],_ =>
   unfold fty at hk
   split at hk <;> first | rfl | cases hk
theorem cellsOf_F {g:Low} (hff:g.ff.length=4) {k e size:Nat} (hk:fty k=some (e,size)):(cellsOf g)[k]?=some (g.F k).v:=by
 obtain ⟨ff,F,V,inp,es,clock,head,bump,empty,W,R⟩:=g
 match ff,hff with
 | [a,b,c,d],_ =>
   unfold fty at hk
   split at hk <;> first | rfl | cases hk
theorem Sol.field {σ:PH} {T:Nat→Tag} {s:Nat} {g:Low} (h:Sol σ T s g) {k e size:Nat} (hk:fty k=some (e,size)):σ.cell? ((Addr.mk s 0 none).add k)=some (.slice (g.F k).a (g.F k).n (g.F k).c) :=
 h.blk.get (cellsOf_F h.ff hk)
theorem Sol.appendF {σ:PH} {T:Nat→Tag} {s:Nat} {g:Low} (h:Sol σ T s g) {k e size bytes:Nat} {z:Value} (hk:fty k=some (e,size)) (h7:k ≠ 7)
   (hs:sizeT prog e=some size) (hb:bytesT prog e=some bytes) (hz:zeroT prog e=some z) (hzs:z.cells.size=size) (h0:bytes ≠ 0) {xb:Option Addr} {m mc:Nat} {news:List Value}
   (hr:readsRow σ xb news) (hl:news.length=m * size) (hp:∀ v ∈ news,Go.Sl.plainCell v) (hbig:(((g.F k).n + m) + ((g.F k).n + m) / 4 + 256) * bytes≤2 ^ 48) {Q:Value→PH→Prop}
   (hQ:∀ a' c' τ,(∃ u,τ.cell? ((Addr.mk s 0 none).add k)=some u)→τ.froz ((Addr.mk s 0 none).add k)=some false →
     (∃ T',Sol (τ.setCell ((Addr.mk s 0 none).add k) (.slice a' ((g.F k).n + m) c')) T' s (g.setF k ⟨a',(g.F k).n + m,c'⟩ (g.V k ++ news))∧Did σ T (τ.setCell ((Addr.mk s 0 none).add k) (.slice a' ((g.F k).n + m) c')) T')→Q (.slice a' ((g.F k).n + m) c') τ) :
   iappend prog e (.slice (g.F k).a (g.F k).n (g.F k).c) (.slice xb m mc) Q σ:=by
 have hO:=h.fld k e size hk
 have k0:k ≠ 0:=by rintro rfl; cases hk
 have k5:k ≠ 5:=by rintro rfl; cases hk
 refine Own.append hs hb hz hzs h0 hO.1 hr hl hp hbig fun a' c' τ hO' hst hnew => ?_
 have hst':Step (fun b => T b=.fld k) σ τ:=hst.weaken fun b ⟨p,h1,h2⟩ => h2 ▸ hO.2 p h1
 have hblk:Blk τ s 86 (cellsOf g):=h.blk.keep hst' (by rw [h.tag]; simp [Ne.symm k0])
 refine hQ a' c' τ ⟨_,hblk.get (cellsOf_F h.ff hk)⟩ (hblk.froz k) ?_
 obtain ⟨T',hT,hTn⟩:∃ T':Nat→Tag,(∀ b,σ b ≠ none→T' b=T b)∧∀ p,a'=some p→T' p.block=.fld k:=by
   refine ⟨tagAt T a' (.fld k),fun b hbn => tagAt_other fun p hp' e1 => ?_,fun p hp' => by rw [hp']; exact tagAt_self⟩
   subst e1
   rcases hnew with h1 | ⟨b',h1,h2⟩
   · exact hO.2 p (h1 ▸ hp')
   · rw [hp'] at h2
     cases h2
     exact absurd h1 hbn
 have hR:=h.retag hT
 have hsb:((Addr.mk s 0 none).add k).block=s:=add_block _ _
 have hs1:Step (fun b => T' b=.fld k) σ τ:=⟨fun b o hb' hm => hst'.same b o hb' (by rw [← hT b (by rw [hb']; simp)]; exact hm),hst'.dom⟩
 have hs2:Step (fun b => b=s) τ (τ.setCell ((Addr.mk s 0 none).add k) (.slice a' ((g.F k).n + m) c')):=setCell_step.weaken fun b hb' => hb'.trans hsb
 have hall:Step (fun b => T' b=.fld k ∨ b=s) σ (τ.setCell ((Addr.mk s 0 none).add k) (.slice a' ((g.F k).n + m) c')):=(hs1.weaken fun b h => .inl h).trans (hs2.weaken fun b h => .inr h)
 have ne:∀ b t,T' b=t→t ≠ .fld k→t ≠ .fld 0→¬ (T' b=.fld k ∨ b=s):=by
   rintro b t h1 h2 h3 (h4 | rfl)
   · exact h2 (h1.symm.trans h4)
   · exact h3 (h1.symm.trans hR.tag)
 refine ⟨T',⟨h.ff,?_,hR.tag,fun j e' size' hj => ?_,hall.same _ _ h.map (ne _ _ hR.mtag (by simp [Ne.symm k5]) (by simp)),hR.mtag,h.keys,?_,fun j sl l hj => (hR.wat j sl l hj).keep hall fun b hb => ne b _ hb (by simp) (by simp),
   fun r x hr => (h.rblk r x hr).keep hall (ne r _ (hR.rtag r x hr) (by simp) (by simp)),hR.rtag,fun r x hr => (hR.rl r x hr).keep hall fun b hb => ne b _ hb (by simp) (by simp),fun r x hr => (hR.rc r x hr).keep hall fun b hb => ne b _ hb (by simp) (by simp)⟩,?_,hT⟩
 · rw [cellsOf_setF h.ff hk]
   exact hblk.set k _
 · by_cases e1:j=k
   · subst e1
     rw [hk] at hj
     cases hj
     show Own _ e size (if j=j then _ else _:Sli).a _ _ (if j=j then _ else _)∧_
     refine ⟨?_,?_⟩
     · rw [if_pos rfl]
       rw [show (g.setF j ⟨a',(g.F j).n + m,c'⟩ (g.V j ++ news)).F j=⟨a',(g.F j).n + m,c'⟩ from if_pos rfl]
       rw [if_pos rfl]
       refine hO'.keep hs2 fun p hp' => ?_
       intro e2
       have:=hTn p hp'
       rw [e2,hR.tag] at this
       exact k0 (by cases this; rfl)
     · rw [show (g.setF j ⟨a',(g.F j).n + m,c'⟩ (g.V j ++ news)).F j=⟨a',(g.F j).n + m,c'⟩ from if_pos rfl]
       exact hTn
   · have j0:j ≠ 0:=by rintro rfl; cases hj
     have:=(hR.fld j e' size' hj).keep hall fun b hb => ne b _ hb (by simpa using e1) (by simpa using j0)
     show OwnT _ _ _ _ _ (if j=k then _ else _) (if j=k then _ else _)
     rw [if_neg e1,if_neg e1]
     exact this
 · show (if 7=k then _ else g.V 7)=_
   rw [if_neg (Ne.symm h7)]
   exact h.wv
 · refine ⟨fun b o hb' hm => hall.same b o hb' ?_,hall.dom⟩
   rintro (h1 | rfl)
   · rw [hT b (by rw [hb']; simp)] at h1
     rw [h1] at hm; exact hm (by simp)
   · rw [h.tag] at hm; exact hm (by simp)
theorem Sol.len {σ:PH} {T:Nat→Tag} {s:Nat} {g:Low} (h:Sol σ T s g) {k e:Nat} (hk:fty k=some (e,1)):(g.V k).length=(g.F k).n:=by
 have:=(h.fld k e 1 hk).1.len; omega
theorem t3:sizeT prog 3=some 1∧bytesT prog 3=some 8∧zeroT prog 3=some (.int .i64 0):=⟨by kernel_rfl,by kernel_rfl,by kernel_rfl⟩
theorem Sol.fresh {σ:PH} {T:Nat→Tag} {s:Nat} {g:Low} (h:Sol σ T s g) {b:Nat} (hb:σ b=none) (o:Obj):∃ T',Sol (σ.set b o) T' s g∧Did σ T (σ.set b o) T'∧T' b=.other:=by
 have hT:∀ x,σ x ≠ none→(if x=b then Tag.other else T x)=T x:=fun x hx => if_neg (by rintro rfl; exact hx hb)
 exact ⟨fun x => if x=b then .other else T x,(h.retag hT).keep (M:=fun _ => False) (PH.sub_set hb).step (fun _ _ h => h),⟨(PH.sub_set hb).step,hT⟩,if_pos rfl⟩
theorem c54 {σ:PH} {T:Nat→Tag} {s:Nat} {g:Low} (h:Sol σ T s g) {lit:Int} (hl:Lit lit) (h0:lit ≠ 0) (r:Option Addr) (h8:(idx lit / 2).toNat < (g.V 8).length) (h9:(idx lit / 2).toNat < (g.V 9).length)
   (h10:(idx lit / 2).toNat < (g.V 10).length) (h11:(g.F 11).n≤1000000) :
   C 54 #[.pointer (some ⟨s,0,none⟩),.int .i64 lit,.pointer r] (fun v τ => v=.tuple #[]∧∃ T' sl,Did σ T τ T'∧sl.n=(g.F 11).n + 1 ∧
     Sol τ T' s ((((g.setV 8 ((g.V 8).set (idx lit / 2).toNat (.int .i64 (sgn lit)))).setV 9 ((g.V 9).set (idx lit / 2).toNat (.int .i64 (g.F 12).n))).setV 10 ((g.V 10).set (idx lit / 2).toNat (.pointer r))).setF 11 sl (g.V 11 ++ [.int .i64 lit]))) σ:=by
 refine go (E54_0 _ _ _ _ _ _) ?_
 unfold S54_0
 refine (c74 hl h0 σ).mono hb ?_
 rintro _ σ ⟨rfl,rfl⟩
 have hi:0≤idx lit / 2:=by unfold Lit at hl; unfold idx; split <;> omega
 have l8:=h.len (k:=8) rfl
 have l9:=h.len (k:=9) rfl
 have l10:=h.len (k:=10) rfl
 simp only [Nat.mul_one]
 obtain ⟨p,hp,hu,hf,hset⟩:=h.setAt (k:=8) rfl (by decide) h8
 refine ⟨_,PH.sub.refl _,_,rfl,_,rfl,_,h.field (k:=8) rfl,_,_,_,rfl,p,hp,hi,by omega,hu,hf,?_⟩
 have tail:∀ σ1,Sol σ1 T s (g.setV 8 ((g.V 8).set (idx lit / 2).toNat (.int .i64 (sgn lit))))→Did σ T σ1 T→S54_1 C (fun v τ => v=.tuple #[]∧∃ T' sl,Did σ T τ T'∧sl.n=(g.F 11).n + 1 ∧
     Sol τ T' s ((((g.setV 8 ((g.V 8).set (idx lit / 2).toNat (.int .i64 (sgn lit)))).setV 9 ((g.V 9).set (idx lit / 2).toNat (.int .i64 (g.F 12).n))).setV 10 ((g.V 10).set (idx lit / 2).toNat (.pointer r))).setF 11 sl (g.V 11 ++ [.int .i64 lit])))
     (some ⟨s,0,none⟩) lit r (idx lit / 2) σ1:=by
   intro σ1 H1 D1
   unfold S54_1
   simp only [Nat.mul_one]
   obtain ⟨p9,hp9,hu9,hf9,hs9⟩:=H1.setAt (k:=9) rfl (by decide) h9
   obtain ⟨H2,D2⟩:=hs9 (.int .i64 (g.F 12).n)
   obtain ⟨p10,hp10,hu10,hf10,hs10⟩:=H2.setAt (k:=10) rfl (by decide) h10
   obtain ⟨H3,D3⟩:=hs10 (.pointer r)
   refine ⟨_,rfl,_,H1.field (k:=9) rfl,_,_,_,rfl,_,rfl,_,H1.field (k:=10) rfl,_,_,_,rfl,_,rfl,_,H1.field (k:=12) rfl,_,_,_,rfl,p9,hp9,hi,by rw [show (g.setV 8 ((g.V 8).set (idx lit / 2).toNat (.int .i64 (sgn lit)))).F 9=g.F 9 from rfl]; omega,hu9,hf9,
     p10,hp10,hi,by rw [show (g.setV 8 ((g.V 8).set (idx lit / 2).toNat (.int .i64 (sgn lit)))).F 10=g.F 10 from rfl]; omega,hu10,hf10,_,rfl,_,H3.field (k:=11) rfl,_,_,_,rfl,fun b hbn => ?_⟩
   obtain ⟨T4,H4,D4,_⟩:=H3.fresh hbn (.cells #[.int .i64 lit] 3)
   refine H4.appendF (k:=11) rfl (by decide) t3.1 t3.2.1 t3.2.2 rfl (by decide) (news:=[.int .i64 lit]) ?_ rfl ?_ ?_ ?_
   · exact rowAt_of (b:=b) (arr:=#[.int .i64 lit]) (e:=3) (f:=(0,0)) (by unfold PH.set; rw [if_pos rfl]) _ 0 0 (fun j v hv => by simpa using hv)
   · intro v hv; simp at hv; subst hv; trivial
   · show ((g.F 11).n + 1 + ((g.F 11).n + 1) / 4 + 256) * 8≤_
     omega
   · rintro a' c' τ q1 q2 ⟨T5,H5,D5⟩
     exact ⟨_,_,_,rfl,_,rfl,q1,q2,trivial,T5,_,(D1.trans (D2.trans (D3.trans (D4.trans D5)))),rfl,H5⟩
 refine br_dec.2 ⟨fun hneg => ?_,fun hneg => ?_⟩
 · obtain ⟨H1,D1⟩:=hset (.int .i64 1)
   have hlen:(idx lit / 2).toNat < ((g.setV 8 ((g.V 8).set (idx lit / 2).toNat (.int .i64 1))).V 8).length:=by
     simp only [Low.setV,if_true,List.length_set]; exact h8
   obtain ⟨p',hp',hu',hf',hset'⟩:=H1.setAt (k:=8) rfl (by decide) hlen
   refine ⟨_,rfl,_,H1.field (k:=8) rfl,_,_,_,rfl,p',hp',hi,by rw [show (g.setV 8 ((g.V 8).set (idx lit / 2).toNat (.int .i64 1))).F 8=g.F 8 from rfl]; omega,hu',hf',?_⟩
   obtain ⟨H2,D2⟩:=hset' (.int .i64 (-1))
   have e:(g.setV 8 ((g.V 8).set (idx lit / 2).toNat (.int .i64 1))).setV 8 (((g.setV 8 ((g.V 8).set (idx lit / 2).toNat (.int .i64 1))).V 8).set (idx lit / 2).toNat (.int .i64 (-1)))=g.setV 8 ((g.V 8).set (idx lit / 2).toNat (.int .i64 (sgn lit))):=by
     unfold Low.setV sgn
     simp only [if_pos hneg]
     congr 1
     funext j
     by_cases hj:j=8 <;> simp [hj]
   rw [e] at H2
   exact tail _ H2 (D1.trans D2)
 · obtain ⟨H1,D1⟩:=hset (.int .i64 1)
   rw [show (1:Int)=sgn lit from (if_neg hneg).symm] at H1 D1 ⊢
   exact tail _ H1 D1
theorem t95:sizeT prog 95=some 6∧bytesT prog 95=some 64∧zeroT prog 95=some (.agg #[.int .i64 0,.int .i64 0,.slice none 0 0,.int .i64 0,.int .i64 0,.int .i64 0]):=⟨by kernel_rfl,by kernel_rfl,by kernel_rfl⟩
structure Stp where
 kind:Int
 index:Int
 l:Sli
 p:Int
 q:Int
 v:Int
abbrev Stp.cells (x:Stp):List Value:=[.int .i64 x.kind,.int .i64 x.index,x.l.v,.int .i64 x.p,.int .i64 x.q,.int .i64 x.v]
theorem c72 {σ:PH} {T:Nat→Tag} {s:Nat} {g:Low} (h:Sol σ T s g) (x:Stp) (h4:(g.F 4).n≤3500000000000) :
   C 72 #[.pointer (some ⟨s,0,none⟩),.agg #[.int .i64 x.kind,.int .i64 x.index,.slice x.l.a x.l.n x.l.c,.int .i64 x.p,.int .i64 x.q,.int .i64 x.v]] (fun v τ => v=.int .i64 (g.F 4).n∧∃ T' sl,Did σ T τ T'∧sl.n=(g.F 4).n + 1 ∧
     Sol τ T' s (g.setF 4 sl (g.V 4 ++ x.cells))) σ:=by
 refine go (E72_0 _ _ _ _ _ _ _ _ _ _ _ _) ?_
 unfold S72_0
 intro b1 hb1
 obtain ⟨T1,H1,D1,_⟩:=h.fresh hb1 (.cells x.cells.toArray 95)
 have B:Blk (σ.set b1 (.cells x.cells.toArray 95)) b1 95 x.cells:=by unfold Blk PH.set; rw [if_pos rfl]
 refine ⟨_,rfl,_,H1.field (k:=4) rfl,_,_,_,rfl,_,B.get (i:=0) rfl,_,B.get (i:=1) rfl,_,B.get (i:=2) rfl,_,B.get (i:=3) rfl,_,B.get (i:=4) rfl,_,B.get (i:=5) rfl,_,_,_,_,_,_,_,_,rfl,?_⟩
 intro b2 hb2
 obtain ⟨T2,H2,D2,_⟩:=H1.fresh hb2 (.cells x.cells.toArray 95)
 have B2:((σ.set b1 (.cells x.cells.toArray 95)).set b2 (.cells x.cells.toArray 95)) b2=some (.cells x.cells.toArray 95):=by
   conv => lhs; unfold PH.set
   rw [if_pos rfl]
 refine H2.appendF (k:=4) rfl (by decide) t95.1 t95.2.1 t95.2.2 rfl (by decide) (news:=x.cells) ?_ rfl ?_ ?_ ?_
 · exact rowAt_of (b:=b2) (arr:=x.cells.toArray) (e:=95) (f:=(0,0)) B2 _ 0 0 (fun j v hv => by simpa using hv)
 · intro v hv; simp at hv; rcases hv with rfl | rfl | rfl | rfl | rfl | rfl <;> trivial
 · omega
 · rintro a' c' τ q1 q2 ⟨T5,H5,D5⟩
   refine ⟨_,_,_,rfl,_,rfl,q1,q2,_,rfl,_,H5.field (k:=4) rfl,_,_,_,rfl,?_,T5,_,D1.trans (D2.trans D5),rfl,H5⟩
   show Value.int .i64 (IntKind.wrap .i64 ((((g.F 4).n + 1:Nat):Int) - 1))=_
   rw [w64 (by omega) (by omega)]
   congr 1
   omega
end Go.Proofs.Ythfnjogadngfiaa
namespace Go.Sl
def LKeys (k:IntKind) (l:List MapEntry):Prop:=∀ e ∈ l,∃ n,e.key=.int k n
theorem mIdx_shift {n:Int}:∀ (l:List MapEntry) (i:Nat),mIdx n l i=(mIdx n l 0).map fun x => (x.1 + i,x.2)
 | [],i => rfl
 | e :: l,i => by
   unfold mIdx
   cases e.key <;> try rfl
   dsimp only
   split
   · simp
   · rw [mIdx_shift l (i + 1),mIdx_shift l 1,Option.map_map]
     congr 1
     funext x
     simp
     omega
def lput (k:IntKind) (n:Int) (v:Value) (clock:Nat):List MapEntry→List MapEntry
 | [] => [{ key:=.int k n,val:=v,born:=clock }]
 | e :: l => match e.key with
   | .int _ m => (match n == m with | true => { e with key:=.int k n,val:=v } :: l | false => e :: lput k n v clock l)
   | _ => e :: lput k n v clock l
theorem lput_find {k:IntKind} {n:Int} {v:Value} {clock:Nat}:∀ {l:List MapEntry},LKeys k l→∀ m,(mIdx m (lput k n v clock l) 0).map (·.2)=if m=n then some v else (mIdx m l 0).map (·.2)
 | [],_,m => by
   simp only [lput,mIdx]
   by_cases e:m=n
   · simp [e]
   · have:(m == n)=false:=by simpa using e
     simp [this,e]
 | e :: l,hk,m => by
   obtain ⟨q,hq⟩:=hk e List.mem_cons_self
   have ih:=lput_find (v:=v) (n:=n) (clock:=clock) (l:=l) (fun e he => hk e (List.mem_cons_of_mem _ he)) m
   have sh:∀ l':List MapEntry,(mIdx m l' 1).map (·.2)=(mIdx m l' 0).map (·.2):=by
     intro l'; rw [mIdx_shift l' 1,Option.map_map]; rfl
   unfold lput
   simp only [hq]
   split
   · rename_i h1
     have h1:n=q:=by simpa using h1
     subst h1
     simp only [mIdx,hq]
     by_cases e1:m=n
     · simp [e1]
     · have:(m == n)=false:=by simpa using e1
       simp [this,e1]
   · rename_i h1
     have h1:n ≠ q:=by simpa using h1
     simp only [mIdx,hq]
     by_cases e1:m=q
     · subst e1; simp [Ne.symm h1]
     · have:(m == q)=false:=by simpa using e1
       simp only [this]
       rw [sh,sh,ih]
theorem lput_keys {k:IntKind} {n:Int} {v:Value} {clock:Nat}:∀ {l:List MapEntry},LKeys k l→LKeys k (lput k n v clock l)
 | [],_ => by intro e he; simp [lput] at he; subst he; exact ⟨n,rfl⟩
 | e :: l,hk => by
   obtain ⟨q,hq⟩:=hk e List.mem_cons_self
   have ih:=lput_keys (v:=v) (n:=n) (clock:=clock) (l:=l) (fun e he => hk e (List.mem_cons_of_mem _ he))
   unfold lput
   simp only [hq]
   split
   · intro x hx
     rcases List.mem_cons.1 hx with rfl | hx
     · exact ⟨n,rfl⟩
     · exact hk x (List.mem_cons_of_mem _ hx)
   · intro x hx
     rcases List.mem_cons.1 hx with rfl | hx
     · exact ⟨q,hq⟩
     · exact ih x hx
theorem lput_idx {k:IntKind} {n:Int} {v:Value} {clock:Nat}:∀ {l:List MapEntry},LKeys k l→lput k n v clock l=(match mIdx n l 0 with
   | some (i,_) => l.modify i fun e => { e with key:=.int k n,val:=v }
   | none => l ++ [{ key:=.int k n,val:=v,born:=clock }])
 | [],_ => rfl
 | e :: l,hk => by
   obtain ⟨q,hq⟩:=hk e List.mem_cons_self
   have ih:=lput_idx (v:=v) (n:=n) (clock:=clock) (l:=l) (fun e he => hk e (List.mem_cons_of_mem _ he))
   unfold lput mIdx
   simp only [hq]
   cases h1:n == q with
   | true => simp
   | false =>
     dsimp only
     rw [mIdx_shift l 1,ih]
     cases mIdx n l 0 with
     | none => rfl
     | some x => obtain ⟨i,u⟩:=x; simp
theorem mput_eq {k:IntKind} {n:Int} {v:Value} {es:Array MapEntry} {clock:Nat} (hk:IntKeys k es):∃ es' clock',mput es clock k n v=.map es' clock'∧IntKeys k es'∧(∀ m,mfind m es'=if m=n then some v else mfind m es):=by
 have h:=lput_idx (v:=v) (n:=n) (clock:=clock) (l:=es.toList) hk
 have hf:=lput_find (v:=v) (n:=n) (clock:=clock) (l:=es.toList) hk
 have hk':=lput_keys (v:=v) (n:=n) (clock:=clock) (l:=es.toList) hk
 unfold mput
 cases hm:mIdx n es.toList 0 with
 | none =>
   rw [hm] at h
   dsimp only at h
   refine ⟨_,_,rfl,?_,?_⟩
   · unfold IntKeys; rw [Array.toList_push,← h]; exact hk'
   · intro m; unfold mfind; rw [Array.toList_push,← h]; exact hf m
 | some x =>
   obtain ⟨i,u⟩:=x
   rw [hm] at h
   dsimp only at h
   refine ⟨_,_,rfl,?_,?_⟩
   · unfold IntKeys; rw [Array.toList_modify,← h]; exact hk'
   · intro m; unfold mfind; rw [Array.toList_modify,← h]; exact hf m
end Go.Sl
namespace Go.Proofs.Ythfnjogadngfiaa
open Go.Sl Go.Sv
theorem set_step {σ:PH} {c:Nat} {o:Obj}:Step (fun b => b=c) σ (σ.set c o) :=
 ⟨fun b o' hb hm => by unfold PH.set; rw [if_neg hm]; exact hb,fun b hb => by unfold PH.set; split <;> simp_all⟩
theorem Sol.setMap {σ:PH} {T:Nat→Tag} {s:Nat} {g:Low} (h:Sol σ T s g) {es':Array MapEntry} {ck':Nat} (hk:IntKeys .i64 es') :
   Sol (σ.set g.inp (.map es' ck')) T s { g with es:=es',clock:=ck' }∧Did σ T (σ.set g.inp (.map es' ck')) T:=by
 have hst:Step (fun b => b=g.inp) σ (σ.set g.inp (.map es' ck')):=set_step
 have ne:∀ b t,T b=t→t ≠ .fld 5→¬ b=g.inp:=by
   rintro b t h1 h2 rfl
   exact h2 (h1.symm.trans h.mtag)
 refine ⟨⟨h.ff,h.blk.keep hst (ne s _ h.tag (by simp)),h.tag,fun j e size hj => (h.fld j e size hj).keep hst fun b hb => ne b _ hb ?_,by unfold PH.set; rw [if_pos rfl],h.mtag,hk,h.wv,fun j sl l hj => (h.wat j sl l hj).keep hst fun b hb => ne b _ hb (by simp),
   fun r x hr => (h.rblk r x hr).keep hst (ne r _ (h.rtag r x hr) (by simp)),h.rtag,fun r x hr => (h.rl r x hr).keep hst fun b hb => ne b _ hb (by simp),fun r x hr => (h.rc r x hr).keep hst fun b hb => ne b _ hb (by simp)⟩,hst.weaken ?_,fun _ _ => rfl⟩
 · rintro e1
   cases e1
   cases hj
 · rintro b rfl
   rw [h.mtag]; simp
theorem cellsOf_5 {g:Low} (hff:g.ff.length=4):(cellsOf g)[5]?=some (.map (some g.inp)):=by
 obtain ⟨ff,F,V,inp,es,clock,head,bump,empty,W,R⟩:=g
 match ff,hff with
 | [a,b,c,d],_ => rfl
theorem Sol.field5 {σ:PH} {T:Nat→Tag} {s:Nat} {g:Low} (h:Sol σ T s g):σ.cell? ((Addr.mk s 0 none).add 5)=some (.map (some g.inp)):=h.blk.get (cellsOf_5 h.ff)
theorem c51 {σ:PH} {T:Nat→Tag} {s:Nat} {g:Low} (h:Sol σ T s g) (i:Int) (hn:mfind i g.es=none) (h4:(g.F 4).n≤3500000000000) :
   C 51 #[.pointer (some ⟨s,0,none⟩),.int .i64 i] (fun v τ => v=.int .i64 (g.F 4).n∧∃ T' sl es' ck',Did σ T τ T'∧sl.n=(g.F 4).n + 1∧IntKeys .i64 es'∧(∀ m,mfind m es'=if m=i then some (.int .i64 (g.F 4).n) else mfind m g.es) ∧
     Sol τ T' s { g.setF 4 sl (g.V 4 ++ (Stp.mk 1 i ⟨none,0,0⟩ 0 0 0).cells) with es:=es',clock:=ck' }) σ:=by
 refine go (E51_0 _ _ _ _ _) ?_
 unfold S51_0
 refine ⟨_,rfl,_,h.field5,_,rfl,_,rfl,_,_,h.map,h.keys,0,by rw [hn]; rfl,br_true (by rw [hn]; rfl) ?_⟩
 refine ⟨_,rfl,_,h.field5,_,rfl,?_⟩
 refine (c72 h ⟨1,i,⟨none,0,0⟩,0,0,0⟩ h4).mono hb ?_
 rintro _ τ ⟨rfl,T',sl,D,hsl,H⟩
 obtain ⟨es',ck',e1,e2,e3⟩:=mput_eq (k:=.i64) (n:=i) (v:=.int .i64 (g.F 4).n) (clock:=g.clock) h.keys
 obtain ⟨H2,D2⟩:=H.setMap (ck':=ck') e2
 refine ⟨τ,PH.sub.refl _,?_,_,rfl,g.inp,rfl,g.es,g.clock,H.map,h.keys,?_⟩
 · have q1:=H.field5
   have q2:=h.field5
   rw [add_off] at q1 q2 ⊢
   exact q1.trans q2.symm
 · rw [e1]
   refine ⟨_,rfl,_,H2.field5,_,rfl,g.inp,rfl,es',ck',?_,e2,(g.F 4).n,?_,rfl,T',sl,es',ck',D.trans D2,hsl,e2,e3,H2⟩
   · unfold PH.set; rw [if_pos rfl]
   · rw [e3]; simp
def Low.setW (g:Low) (j:Nat) (sl:Sli) (l:List Int):Low:={ g with W:=g.W.set j (sl,l),V:=fun k => if k=7 then (g.V 7).set j sl.v else g.V k }
theorem Sol.appendW {σ:PH} {T:Nat→Tag} {s:Nat} {g:Low} (h:Sol σ T s g) {j:Nat} {sl:Sli} {l:List Int} (hj:g.W[j]?=some (sl,l)) {xb:Option Addr} {m mc:Nat} {news:List Int}
   (hr:readsRow σ xb (ints news)) (hl:news.length=m) (hbig:sl.n + m≤10000000000000) {p:Addr} (hp7:(g.F 7).a=some p) {Q:Value→PH→Prop}
   (hQ:∀ a' c' τ,(∃ u,τ.cell? (p.add j)=some u)→τ.froz (p.add j)=some false →
     (∃ T',Sol (τ.setCell (p.add j) (.slice a' (sl.n + m) c')) T' s (g.setW j ⟨a',sl.n + m,c'⟩ (l ++ news))∧Did σ T (τ.setCell (p.add j) (.slice a' (sl.n + m) c')) T')→Q (.slice a' (sl.n + m) c') τ) :
   iappend prog 3 (.slice sl.a sl.n sl.c) (.slice xb m mc) Q σ:=by
 have hO:=h.wat j sl l hj
 refine Own.append t3.1 t3.2.1 t3.2.2 rfl (by decide) hO.1 hr (by simp [ints,hl]) (by intro v hv; obtain ⟨y,_,rfl⟩:=List.mem_map.1 hv; trivial) (by omega) fun a' c' τ hO' hst hnew => ?_
 have hst':Step (fun b => T b=.watch j) σ τ:=hst.weaken fun b ⟨p,h1,h2⟩ => h2 ▸ hO.2 p h1
 have hO7:=h.fld 7 33 1 rfl
 have hjl:j < (g.V 7).length:=by
   rw [h.wv,List.length_map]
   exact (List.getElem?_eq_some_iff.1 hj).1
 have hO7':OwnT τ T (.fld 7) 33 1 (g.F 7) (g.V 7):=hO7.keep hst' fun b hb => by rw [hb]; simp
 obtain ⟨p',hp',hu,hf,hpb,hset⟩:=hO7'.1.set hjl
 obtain rfl:p=p':=Option.some.inj (hp7.symm.trans hp')
 refine hQ a' c' τ hu hf ?_
 obtain ⟨T',hT,hTn⟩:∃ T':Nat→Tag,(∀ b,σ b ≠ none→T' b=T b)∧∀ p,a'=some p→T' p.block=.watch j:=by
   refine ⟨tagAt T a' (.watch j),fun b hbn => tagAt_other fun p hp' e1 => ?_,fun p hp' => by rw [hp']; exact tagAt_self⟩
   subst e1
   rcases hnew with h1 | ⟨b',h1,h2⟩
   · exact hO.2 p (h1 ▸ hp')
   · rw [hp'] at h2
     cases h2
     exact absurd h1 hbn
 have hR:=h.retag hT
 have ht7:T' p.block=.fld 7:=(hT _ (hO7.1.known hp7)).trans (hO7.2 p hp7)
 have hs1:Step (fun b => T' b=.watch j) σ τ:=⟨fun b o hb' hm => hst'.same b o hb' (by rw [← hT b (by rw [hb']; simp)]; exact hm),hst'.dom⟩
 have hs2:Step (fun b => b=p.block) τ (τ.setCell (p.add j) (.slice a' (sl.n + m) c')):=setCell_step.weaken fun b hb' => hb'.trans hpb
 have hall:Step (fun b => T' b=.watch j ∨ b=p.block) σ (τ.setCell (p.add j) (.slice a' (sl.n + m) c')):=(hs1.weaken fun b h => .inl h).trans (hs2.weaken fun b h => .inr h)
 have ne:∀ b t,T' b=t→t ≠ .watch j→t ≠ .fld 7→¬ (T' b=.watch j ∨ b=p.block):=by
   rintro b t h1 h2 h3 (h4 | rfl)
   · exact h2 (h1.symm.trans h4)
   · exact h3 (h1.symm.trans ht7)
 refine ⟨T',⟨h.ff,h.blk.keep hall (ne s _ hR.tag (by simp) (by simp)),hR.tag,fun k e size hk => ?_,hall.same _ _ h.map (ne _ _ hR.mtag (by simp) (by simp)),hR.mtag,h.keys,?_,fun i sl' l' hi => ?_,
   fun r x hr => (h.rblk r x hr).keep hall (ne r _ (hR.rtag r x hr) (by simp) (by simp)),hR.rtag,fun r x hr => (hR.rl r x hr).keep hall fun b hb => ne b _ hb (by simp) (by simp),fun r x hr => (hR.rc r x hr).keep hall fun b hb => ne b _ hb (by simp) (by simp)⟩,?_,hT⟩
 · by_cases e1:k=7
   · subst e1
     cases hk
     refine ⟨?_,fun q hq => ?_⟩
     · show Own _ 33 1 (g.F 7).a (g.F 7).n (g.F 7).c (if 7=7 then (g.V 7).set j _ else g.V 7)
       rw [if_pos rfl]
       exact hset _
     · exact (hT _ (hO7.1.known hq)).trans (hO7.2 q hq)
   · have:=(hR.fld k e size hk).keep hall fun b hb => ne b _ hb (by simp) (by simpa using e1)
     show OwnT _ _ _ _ _ (g.F k) (if k=7 then (g.V 7).set j _ else g.V k)
     rw [if_neg e1]
     exact this
 · show (if 7=7 then (g.V 7).set j _ else g.V 7)=(g.W.set j _).map _
   rw [if_pos rfl,h.wv,List.map_set]
 · replace hi:(g.W.set j (⟨a',sl.n + m,c'⟩,l ++ news))[i]?=some (sl',l'):=hi
   rw [List.getElem?_set] at hi
   split at hi
   · rename_i e1
     subst e1
     split at hi
     · cases hi
       refine ⟨?_,hTn⟩
       rw [show ints (l ++ news)=ints l ++ ints news from List.map_append]
       refine hO'.keep hs2 fun q hq => ?_
       intro e2
       have:=hTn q hq
       rw [e2,ht7] at this
       cases this
     · cases hi
   · rename_i e1
     exact (hR.wat i sl' l' hi).keep hall fun b hb => ne b _ hb (by simpa using Ne.symm e1) (by simp)
 · refine ⟨fun b o hb' hm => hall.same b o hb' ?_,hall.dom⟩
   rintro (h1 | rfl)
   · rw [hT b (by rw [hb']; simp)] at h1
     rw [h1] at hm; exact hm (by simp)
   · rw [hO7.2 p hp7] at hm; exact hm (by simp)
theorem t84:sizeT prog 84=some 1∧bytesT prog 84=some 8∧zeroT prog 84=some (.pointer none):=⟨by kernel_rfl,by kernel_rfl,by kernel_rfl⟩
theorem quiet73 {i:Int} (h:Lit i) (σ:PH):quiet C 73 #[.int .i64 i] (.int .i64 (idx i)) [] σ :=
 ⟨fun _ h => (by cases h),(c73 h _).mono hb fun v τ ⟨h1,h2⟩ => ⟨h1,h2 ▸ PH.sub.refl _⟩⟩
structure Same7 (g g':Low):Prop where
 ff:g'.ff=g.ff
 F:g'.F=g.F
 V:∀ k,k ≠ 7→g'.V k=g.V k
 inp:g'.inp=g.inp
 es:g'.es=g.es
 clock:g'.clock=g.clock
 head:g'.head=g.head
 bump:g'.bump=g.bump
 empty:g'.empty=g.empty
 R:g'.R=g.R
theorem Same7.refl (g:Low):Same7 g g:=⟨rfl,rfl,fun _ _ => rfl,rfl,rfl,rfl,rfl,rfl,rfl,rfl⟩
theorem c52 {σ:PH} {T:Nat→Tag} {s:Nat} {g:Low} (h:Sol σ T s g) {r:Nat} {x:RL} (hx:g.R r=some x) (h2:2≤x.lits.length) (hl:∀ l ∈ x.lits,Lit l∧l ≠ 0∧(idx l).toNat < g.W.length)
   (hn:(g.F 6).n≤5000000000000) (hw:∀ e ∈ g.W,e.2.length≤5000000000000) :
   C 52 #[.pointer (some ⟨s,0,none⟩),.pointer (some ⟨r,0,none⟩)] (fun v τ => v=.tuple #[]∧∃ T' g' sl,Did σ T τ T'∧sl.n=(g.F 6).n + 1∧Same7 (g.setF 6 sl (g.V 6 ++ [.pointer (some ⟨r,0,none⟩)])) g' ∧
     g'.W.map (·.2)=addW (g.W.map (·.2)) (x.lits.take 2) (g.F 6).n∧Sol τ T' s g') σ:=by
 refine go (E52_0 _ _ _ _ _) ?_
 unfold S52_0
 refine ⟨_,rfl,_,h.field (k:=6) rfl,_,_,_,rfl,fun b hbn => ?_⟩
 obtain ⟨T1,H1,D1,_⟩:=h.fresh hbn (.cells #[.pointer (some ⟨r,0,none⟩)] 84)
 refine H1.appendF (k:=6) rfl (by decide) t84.1 t84.2.1 t84.2.2 rfl (by decide) (news:=[.pointer (some ⟨r,0,none⟩)]) ?_ rfl ?_ ?_ ?_
 · exact rowAt_of (b:=b) (arr:=#[.pointer (some ⟨r,0,none⟩)]) (e:=84) (f:=(0,0)) (by unfold PH.set; rw [if_pos rfl]) _ 0 0 (fun j v hv => by simpa using hv)
 · intro v hv; simp at hv; subst hv; trivial
 · omega
 · rintro a' c' τ q1 q2 ⟨T2,H2,D2⟩
   have xr:=H2.rblk r x hx
   have xl:=(H2.rl r x hx).1
   have xn:x.l.n=x.lits.length:=by have:=xl.len; simp [ints] at this; omega
   have hcap:=xl.le
   have e0:(Addr.mk r 0 none).add 0=⟨r,0,none⟩:=rfl
   refine ⟨_,_,_,rfl,_,rfl,q1,q2,_,rfl,_,e0 ▸ xr.get (i:=0) rfl,_,_,_,rfl,by omega,by omega,?_⟩
   unfold S52_1
   refine iloopS_for (G:=(Nat→Tag) × Low) (fun k _ => (some (Addr.mk s 0 none),x.l.a,Int.toNat (2:Int),x.l.c,((Int.toNat (2:Int):Nat):Int),(k:Int)))
     (fun k tg υ => Did σ T υ tg.1∧Sol υ tg.1 s tg.2∧Same7 (g.setF 6 ⟨a',(g.F 6).n + 1,c'⟩ (g.V 6 ++ [.pointer (some ⟨r,0,none⟩)])) tg.2∧tg.2.W.map (·.2)=addW (g.W.map (·.2)) (x.lits.take k) (g.F 6).n∧(∀ e ∈ tg.2.W,e.2.length≤5000000000000 + k))
     2 ?_ (g:=(T2,g.setF 6 ⟨a',(g.F 6).n + 1,c'⟩ (g.V 6 ++ [.pointer (some ⟨r,0,none⟩)]))) ⟨D1.trans D2,H2,Same7.refl _,rfl,hw⟩
   rintro k ⟨T3,g3⟩ υ hk ⟨D3,H3,S3,W3,L3⟩ R hR
   simp only at D3 H3 S3 W3 L3
   unfold S52_2
   dsimp only
   simp only [Nat.mul_one]
   refine br_dec.2 ⟨fun hlt => ?_,fun hge => ?_⟩
   · have hk2:k < 2:=by omega
     have hx3:g3.R r=some x:=by rw [S3.R]; exact hx
     have x3:=(H3.rl r x hx3).1
     have hkl:k < x.lits.length:=by omega
     obtain ⟨p,hp,hc⟩:=x3.get (i:=k) (v:=.int .i64 x.lits[k]) (by simp [ints,hkl])
     obtain ⟨l1,l2,l3⟩:=hl x.lits[k] (List.getElem_mem _)
     have hi:0≤idx x.lits[k]:=by unfold Lit at l1; unfold idx; split <;> omega
     have hWl:g3.W.length=g.W.length:=by
       have:=congrArg List.length W3
       rw [List.length_map] at this
       rw [this]
       unfold addW
       clear W3 this hR hc
       generalize x.lits.take k=ls
       have:∀ (ls:List Int) (W:List (List Int)),(ls.foldl (fun W l => W.modify (idx l).toNat (· ++ [((g.F 6).n:Int)])) W).length=W.length:=by
         intro ls
         induction ls with
         | nil => intro W; rfl
         | cons a ls ih => intro W; rw [List.foldl_cons,ih,List.length_modify]
       rw [this,List.length_map]
     have hj:(idx x.lits[k]).toNat < g3.W.length:=by omega
     obtain ⟨q7,hq7,hc7⟩:=(H3.fld 7 33 1 rfl).1.get (i:=(idx x.lits[k]).toNat) (v:=(g3.W[(idx x.lits[k]).toNat]).1.v) (by rw [H3.wv]; simp [hj])
     have h7n:g3.W.length=(g3.F 7).n:=by have:=H3.len (k:=7) rfl; rw [H3.wv,List.length_map] at this; exact this
     refine ⟨p,hp,by omega,by rw [show Int.toNat (2:Int)=2 from rfl]; omega,_,hc,_,rfl,_,[],_,[],_,rfl,_,H3.field (k:=7) rfl,_,_,_,rfl,quiet73 l1 _,_,rfl,_,H3.field (k:=7) rfl,_,_,_,rfl,quiet73 l1 _,q7,hq7,hi,by omega,_,hc7,_,_,_,rfl,_,rfl,_,H3.field (k:=6) rfl,_,_,_,rfl,fun b hbn => ⟨?_,?_⟩⟩
     · intro q hq e1
       have t1:=(H3.wat (idx x.lits[k]).toNat _ _ (List.getElem?_eq_getElem hj)).2 q hq
       rw [e1,add_block] at t1
       have:=H3.tag
       rw [t1] at this
       cases this
     · have hF6:(g3.F 6).n=(g.F 6).n + 1:=by rw [S3.F]; rfl
       have hv:IntKind.wrap .i64 (((g3.F 6).n:Int) - 1)=((g.F 6).n:Int):=by rw [hF6,w64 (by omega) (by omega)]; omega
       rw [hv]
       obtain ⟨T4,H4,D4,_⟩:=H3.fresh hbn (.cells #[.int .i64 (g.F 6).n] 3)
       have hwl:=(H3.wat (idx x.lits[k]).toNat _ _ (List.getElem?_eq_getElem hj)).1.len
       have hwb:=L3 _ (List.getElem_mem hj)
       simp only [ints,List.length_map,Nat.mul_one] at hwl
       have hwl':(g3.W[(idx x.lits[k]).toNat]).1.n=(g3.W[(idx x.lits[k]).toNat]).2.length:=hwl.symm
       have hwb':(g3.W[(idx x.lits[k]).toNat]).2.length≤5000000000000 + k:=hwb
       refine H4.appendW (j:=(idx x.lits[k]).toNat) (sl:=g3.W[(idx x.lits[k]).toNat].1) (l:=g3.W[(idx x.lits[k]).toNat].2) (List.getElem?_eq_getElem hj) (m:=1) (news:=[((g.F 6).n:Int)]) ?_ rfl (by omega) hq7 ?_
       · exact rowAt_of (b:=b) (arr:=#[.int .i64 (g.F 6).n]) (e:=3) (f:=(0,0)) (by unfold PH.set; rw [if_pos rfl]) _ 0 0 (fun j v hv => by simpa [ints] using hv)
       · rintro a'' c'' υ' q1 q2 ⟨T5,H5,D5⟩
         refine ⟨_,_,_,rfl,q7,hq7,hi,by omega,q1,q2,?_⟩
         rw [wnat (by omega)]
         refine hR (T5,g3.setW (idx x.lits[k]).toNat ⟨a'',_,c''⟩ (g3.W[(idx x.lits[k]).toNat].2 ++ [((g.F 6).n:Int)])) _ hk2 ⟨D3.trans (D4.trans D5),H5,?_,?_,?_⟩
         · exact ⟨S3.ff,S3.F,fun k' hk' => (if_neg hk').trans (S3.V k' hk'),S3.inp,S3.es,S3.clock,S3.head,S3.bump,S3.empty,S3.R⟩
         · show (g3.W.set _ _).map (·.2)=_
           rw [List.take_succ_eq_append_getElem hkl]
           unfold addW at W3 ⊢
           rw [List.foldl_append,← W3,List.map_set]
           simp only [List.foldl_cons,List.foldl_nil]
           rw [List.modify_eq_set]
           simp [hj]
         · intro e he
           have he:e ∈ g3.W.set _ _:=he
           rcases List.mem_or_eq_of_mem_set he with he | rfl
           · have:=L3 e he; omega
           · simp only [List.length_append,List.length_cons,List.length_nil]; omega
   · have:k=2:=by rw [show Int.toNat (2:Int)=2 from rfl] at hge; omega
     subst this
     exact ⟨trivial,T3,g3,_,D3,rfl,S3,W3,H3⟩
theorem _root_.Go.Sl.Own.cut {σ:PH} {e:TypeId} {a:Option Addr} {n c:Nat} {vs:List Value} (o:Own σ e 1 a n c vs) {m:Nat} (hm:m≤n):Own σ e 1 a m c (vs.take m):=by
 have h1:=o.len
 have h2:=o.le
 refine ⟨by rw [List.length_take]; omega,by omega,?_⟩
 rcases o.row with h' | ⟨b,arr,rfl,hb,h3,h4⟩
 · exact .inl h'
 · refine .inr ⟨b,arr,rfl,hb,h3,?_⟩
   rw [← h4,List.take_take]
   congr 1
   omega
theorem Sol.putF {σ:PH} {T:Nat→Tag} {s:Nat} {g:Low} (h:Sol σ T s g) {k e size:Nat} (hk:fty k=some (e,size)) (h7:k ≠ 7) {sl:Sli} {vs:List Value} (ho:OwnT σ T (.fld k) e size sl vs) :
   Sol (σ.setCell ((Addr.mk s 0 none).add k) sl.v) T s (g.setF k sl vs)∧Did σ T (σ.setCell ((Addr.mk s 0 none).add k) sl.v) T:=by
 have hsb:((Addr.mk s 0 none).add k).block=s:=add_block _ _
 have k0:k ≠ 0:=by rintro rfl; cases hk
 have hst:Step (fun b => b=s) σ (σ.setCell ((Addr.mk s 0 none).add k) sl.v):=setCell_step.weaken fun b hb' => hb'.trans hsb
 have ne:∀ b t,T b=t→t ≠ .fld 0→¬ b=s:=by
   rintro b t h1 h2 rfl
   exact h2 (h1.symm.trans h.tag)
 refine ⟨⟨h.ff,?_,h.tag,fun j e' size' hj => ?_,hst.same _ _ h.map (ne _ _ h.mtag (by simp)),h.mtag,h.keys,?_,fun j sl l hj => (h.wat j sl l hj).keep hst fun b hb => ne b _ hb (by simp),
   fun r x hr => (h.rblk r x hr).keep hst (ne r _ (h.rtag r x hr) (by simp)),h.rtag,fun r x hr => (h.rl r x hr).keep hst fun b hb => ne b _ hb (by simp),fun r x hr => (h.rc r x hr).keep hst fun b hb => ne b _ hb (by simp)⟩,hst.weaken ?_,fun _ _ => rfl⟩
 · rw [cellsOf_setF h.ff hk]
   exact h.blk.set k _
 · have j0:j ≠ 0:=by rintro rfl; cases hj
   by_cases e1:j=k
   · subst e1
     rw [hk] at hj
     cases hj
     show OwnT _ _ _ _ _ (if j=j then _ else _) (if j=j then _ else _)
     rw [if_pos rfl,if_pos rfl]
     exact ho.keep hst fun b hb => ne b _ hb (by simpa using j0)
   · show OwnT _ _ _ _ _ (if j=k then _ else g.F j) (if j=k then _ else g.V j)
     rw [if_neg e1,if_neg e1]
     exact (h.fld j e' size' hj).keep hst fun b hb => ne b _ hb (by simpa using j0)
 · show (if 7=k then _ else g.V 7)=_
   rw [if_neg (Ne.symm h7)]
   exact h.wv
 · rintro b rfl
   rw [h.tag]; simp
theorem Sol.cutF {σ:PH} {T:Nat→Tag} {s:Nat} {g:Low} (h:Sol σ T s g) {k e:Nat} (hk:fty k=some (e,1)) (h7:k ≠ 7) {m:Nat} (hm:m≤(g.F k).n) :
   Sol (σ.setCell ((Addr.mk s 0 none).add k) (.slice (g.F k).a m (g.F k).c)) T s (g.setF k ⟨(g.F k).a,m,(g.F k).c⟩ ((g.V k).take m))∧Did σ T (σ.setCell ((Addr.mk s 0 none).add k) (.slice (g.F k).a m (g.F k).c)) T :=
 h.putF hk h7 (sl:=⟨(g.F k).a,m,(g.F k).c⟩) ⟨(h.fld k e 1 hk).1.cut hm,(h.fld k e 1 hk).2⟩
theorem cellsOf_head {g:Low} (hff:g.ff.length=4) (n:Int):cellsOf { g with head:=n }=(cellsOf g).set 13 (.int .i64 n):=by
 obtain ⟨ff,F,V,inp,es,clock,head,bump,empty,W,R⟩:=g
 match ff,hff with
 | [a,b,c,d],_ => rfl
theorem cellsOf_13 {g:Low} (hff:g.ff.length=4):(cellsOf g)[13]?=some (.int .i64 g.head):=by
 obtain ⟨ff,F,V,inp,es,clock,head,bump,empty,W,R⟩:=g
 match ff,hff with
 | [a,b,c,d],_ => rfl
theorem Sol.setHead {σ:PH} {T:Nat→Tag} {s:Nat} {g:Low} (h:Sol σ T s g) (n:Int) :
   Sol (σ.setCell ((Addr.mk s 0 none).add 13) (.int .i64 n)) T s { g with head:=n }∧Did σ T (σ.setCell ((Addr.mk s 0 none).add 13) (.int .i64 n)) T:=by
 have hsb:((Addr.mk s 0 none).add 13).block=s:=add_block _ _
 have hst:Step (fun b => b=s) σ (σ.setCell ((Addr.mk s 0 none).add 13) (.int .i64 n)):=setCell_step.weaken fun b hb' => hb'.trans hsb
 have ne:∀ b t,T b=t→t ≠ .fld 0→¬ b=s:=by
   rintro b t h1 h2 rfl
   exact h2 (h1.symm.trans h.tag)
 refine ⟨⟨h.ff,?_,h.tag,fun j e' size' hj => ?_,hst.same _ _ h.map (ne _ _ h.mtag (by simp)),h.mtag,h.keys,h.wv,fun j sl l hj => (h.wat j sl l hj).keep hst fun b hb => ne b _ hb (by simp),
   fun r x hr => (h.rblk r x hr).keep hst (ne r _ (h.rtag r x hr) (by simp)),h.rtag,fun r x hr => (h.rl r x hr).keep hst fun b hb => ne b _ hb (by simp),fun r x hr => (h.rc r x hr).keep hst fun b hb => ne b _ hb (by simp)⟩,hst.weaken ?_,fun _ _ => rfl⟩
 · rw [cellsOf_head h.ff]
   exact h.blk.set 13 _
 · have j0:j ≠ 0:=by rintro rfl; cases hj
   exact (h.fld j e' size' hj).keep hst fun b hb => ne b _ hb (by simpa using j0)
 · rintro b rfl
   rw [h.tag]; simp
theorem quiet74 {i:Int} (h:Lit i) (h0:i ≠ 0) (σ:PH):quiet C 74 #[.int .i64 i] (.int .i64 (idx i / 2)) [] σ :=
 ⟨fun _ h => (by cases h),(c74 h h0 _).mono hb fun v τ ⟨h1,h2⟩ => ⟨h1,h2 ▸ PH.sub.refl _⟩⟩
theorem _root_.Go.Sl.cut_get {σ:PH} {e:TypeId} {a:Option Addr} {n c:Nat} {vs:List Value} (o:Own σ e 1 a n c vs) {m i:Nat} {v:Value} (hm:m≤n) (hv:vs[m + i]?=some v) :
   ∃ p,cutAt a c m 1=some p∧σ.cell? (p.add i)=some v:=by
 obtain ⟨p,hp,hc⟩:=o.get hv
 have hlt:m + i < vs.length:=by
   rcases Nat.lt_or_ge (m + i) vs.length with h | h
   · exact h
   · rw [List.getElem?_eq_none h] at hv; cases hv
 have h1:=o.len
 have h2:=o.le
 unfold cutAt
 rw [if_neg (by omega),hp,Nat.mul_one]
 refine ⟨_,rfl,?_⟩
 rcases o.row with ⟨h3,_⟩ | ⟨b,arr,h3,_⟩
 · rw [h3] at hp; cases hp
 · rw [h3] at hp
   cases hp
   rw [add_off] at hc
   dsimp only
   rw [add_off,add_off]
   rw [← hc]
   congr 2
   omega
def clr (d:Value) (ls:List Int) (V:List Value):List Value:=ls.foldl (fun V x => V.set (idx x / 2).toNat d) V
theorem clr_len (d:Value):∀ (ls:List Int) (V:List Value),(clr d ls V).length=V.length
 | [],_ => rfl
 | x :: ls,V => by unfold clr; rw [List.foldl_cons]; exact (clr_len d ls _).trans (List.length_set ..)
def undone (g:Low) (tr:List Int) (n0 lev:Nat):Low :=
 { (((g.setV 8 (clr (.int .i64 0) (tr.drop n0) (g.V 8))).setV 10 (clr (.pointer none) (tr.drop n0) (g.V 10))).setF 11 ⟨(g.F 11).a,n0,(g.F 11).c⟩ ((g.V 11).take n0)).setF 12 ⟨(g.F 12).a,lev,(g.F 12).c⟩ ((g.V 12).take lev) with head:=n0 }
theorem c91 {σ:PH} {T:Nat→Tag} {s:Nat} {g:Low} (h:Sol σ T s g) {tr:List Int} (ht:g.V 11=ints tr) (hl:∀ x ∈ tr,Lit x∧x ≠ 0∧(idx x / 2).toNat < (g.V 8).length∧(idx x / 2).toNat < (g.V 10).length)
   {lev n0:Nat} (hlev:lev < (g.F 12).n) (hlim:(g.V 12)[lev]?=some (.int .i64 n0)) (hn0:n0≤tr.length) (hn:(g.F 11).n≤1000000) :
   C 91 #[.pointer (some ⟨s,0,none⟩),.int .i64 lev] (fun v τ => v=.tuple #[]∧Did σ T τ T∧Sol τ T s (undone g tr n0 lev)) σ:=by
 refine go (E91_0 _ _ _ _ _) ?_
 unfold S91_0
 have hO:=(h.fld 11 3 1 rfl).1
 have l11:=h.len (k:=11) rfl
 rw [ht] at l11
 simp only [ints,List.length_map] at l11
 refine ⟨_,rfl,_,h.field (k:=12) rfl,_,_,_,rfl,br_dec.2 ⟨fun hc => by omega,fun hc => ?_⟩⟩
 obtain ⟨p,hp,hcell⟩:=(h.fld 12 3 1 rfl).1.get hlim
 refine ⟨_,rfl,_,h.field (k:=11) rfl,_,_,_,rfl,_,rfl,_,h.field (k:=12) rfl,_,_,_,rfl,p,hp,by omega,by omega,_,by simpa using hcell,_,rfl,by omega,by omega,?_⟩
 unfold S91_1
 have htr:(g.F 11).n - n0=(tr.drop n0).length:=by rw [List.length_drop]; omega
 refine iloopS_for (G:=Low) (fun k _ => (some (Addr.mk s 0 none),(lev:Int),cutAt (g.F 11).a (g.F 11).c (Int.toNat (n0:Int)) 1,(g.F 11).n - Int.toNat (n0:Int),(g.F 11).c - Int.toNat (n0:Int),(((g.F 11).n - Int.toNat (n0:Int):Nat):Int),(k:Int)))
   (fun k g' υ => Did σ T υ T∧Sol υ T s g'∧g'=(g.setV 8 (clr (.int .i64 0) ((tr.drop n0).take k) (g.V 8))).setV 10 (clr (.pointer none) ((tr.drop n0).take k) (g.V 10))) (tr.drop n0).length ?_ (g:=g) ⟨Did.refl _ _,h,?_⟩
 · rintro k g' υ hk ⟨D,H,rfl⟩ R hR
   unfold S91_2
   dsimp only
   simp only [Nat.mul_one,Int.toNat_natCast] at *
   refine br_dec.2 ⟨fun hlt => ?_,fun hge => ?_⟩
   · have hkl:k < (tr.drop n0).length:=by omega
     have hget:(ints tr)[n0 + k]?=some (.int .i64 (tr.drop n0)[k]):=by simp [ints]
     have hO3:=(H.fld 11 3 1 rfl).1
     obtain ⟨q,hq,hqc⟩:=Go.Sl.cut_get (o:=hO3) (m:=n0) (i:=k) (v:=.int .i64 (tr.drop n0)[k]) (by show n0≤(g.F 11).n; omega) (by show (g.V 11)[n0 + k]?=_; rw [ht]; exact hget)
     have hmem:(tr.drop n0)[k] ∈ tr:=List.mem_of_mem_drop (List.getElem_mem _)
     obtain ⟨x1,x2,x3,x4⟩:=hl _ hmem
     have hi:0≤idx (tr.drop n0)[k] / 2:=by unfold Lit at x1; unfold idx; split <;> omega
     have k8:(((g.setV 8 (clr (.int .i64 0) ((tr.drop n0).take k) (g.V 8))).setV 10 (clr (.pointer none) ((tr.drop n0).take k) (g.V 10))).V 8)=clr (.int .i64 0) ((tr.drop n0).take k) (g.V 8):=rfl
     have k10:(((g.setV 8 (clr (.int .i64 0) ((tr.drop n0).take k) (g.V 8))).setV 10 (clr (.pointer none) ((tr.drop n0).take k) (g.V 10))).V 10)=clr (.pointer none) ((tr.drop n0).take k) (g.V 10):=rfl
     obtain ⟨p8,hp8,u8,f8,s8⟩:=H.setAt (k:=8) rfl (by decide) (i:=(idx (tr.drop n0)[k] / 2).toNat) (by rw [k8,clr_len]; exact x3)
     obtain ⟨H8,D8⟩:=s8 (.int .i64 0)
     obtain ⟨p10,hp10,u10,f10,s10⟩:=H8.setAt (k:=10) rfl (by decide) (i:=(idx (tr.drop n0)[k] / 2).toNat) (by show _ < (clr (.pointer none) ((tr.drop n0).take k) (g.V 10)).length; rw [clr_len]; exact x4)
     obtain ⟨H10,D10⟩:=s10 (.pointer none)
     have l8:=h.len (k:=8) rfl
     have l10:=h.len (k:=10) rfl
     refine ⟨q,hq,by omega,by omega,_,hqc,_,rfl,_,[],_,[],_,rfl,_,H.field (k:=8) rfl,_,_,_,rfl,quiet74 x1 x2 _,_,rfl,_,H.field (k:=10) rfl,_,_,_,rfl,quiet74 x1 x2 _,p8,hp8,hi,?_,u8,f8,p10,hp10,hi,?_,u10,f10,?_⟩
     · show _ < (((g.F 8).n:Nat):Int); omega
     · show _ < (((g.F 10).n:Nat):Int); omega
     · rw [wnat (by omega)]
       refine hR _ _ hkl ⟨D.trans (D8.trans D10),H10,?_⟩
       rw [List.take_succ_eq_append_getElem hkl]
       unfold Low.setV clr
       simp only [List.foldl_append,List.foldl_cons,List.foldl_nil]
       congr 1
       funext j
       by_cases h8:j=10
       · simp [h8]
       · by_cases h9:j=8 <;> simp [h8,h9]
   · have hkk:k=(tr.drop n0).length:=by omega
     subst hkk
     rw [List.take_length] at H
     obtain ⟨p2,hp2,hcell2⟩:=(H.fld 12 3 1 rfl).1.get (i:=lev) (v:=.int .i64 n0) hlim
     obtain ⟨H1,D1⟩:=H.cutF (k:=11) rfl (by decide) (m:=n0) (by show n0≤(g.F 11).n; omega)
     obtain ⟨H2,D2⟩:=H1.cutF (k:=12) rfl (by decide) (m:=lev) (by show lev≤(g.F 12).n; omega)
     obtain ⟨H3,D3⟩:=H2.setHead n0
     have hcap:(g.F 11).n≤(g.F 11).c:=hO.le
     have hcap2:(g.F 12).n≤(g.F 12).c:=(h.fld 12 3 1 rfl).1.le
     exact ⟨_,rfl,_,H.field (k:=11) rfl,_,_,_,rfl,_,rfl,_,H.field (k:=12) rfl,_,_,_,rfl,p2,hp2,by omega,by show (lev:Int) < (((g.F 12).n:Nat):Int); omega,_,hcell2,_,rfl,by omega,by show (n0:Int)≤(((g.F 11).c:Nat):Int); omega,_,rfl,⟨_,H.field (k:=11) rfl⟩,H.blk.froz 11,_,rfl,_,H1.field (k:=12) rfl,_,_,_,rfl,by omega,by show (lev:Int)≤(((g.F 12).c:Nat):Int); omega,
       _,rfl,⟨_,H1.field (k:=12) rfl⟩,H1.blk.froz 12,_,rfl,_,H2.field (k:=11) rfl,_,_,_,rfl,_,rfl,⟨_,H2.blk.get (cellsOf_13 H2.ff)⟩,H2.blk.froz 13,trivial,D.trans (D1.trans (D2.trans D3)),H3⟩
 · unfold Low.setV clr
   simp only [List.take_zero,List.foldl_nil]
   obtain ⟨ff,F,V,inp,es,clock,head,bump,empty,W,R⟩:=g
   congr 1
   funext j
   by_cases h8:j=10
   · simp [h8]
   · by_cases h9:j=8 <;> simp [h8,h9]
end Go.Proofs.Ythfnjogadngfiaa
namespace Go.Sl
structure MSet (es:Array MapEntry) (ck:Nat) (ks:List Int):Prop where
 keys:es.toList.map (·.key)=ks.map (.int .i64)
 vals:∀ e ∈ es.toList,e.val=.bool true
 born:∀ e ∈ es.toList,e.born < ck
 once:(es.toList.map (·.born)).Nodup
 nodup:ks.Nodup
theorem MSet.nil {ck:Nat}:MSet #[] ck []:=⟨rfl,by simp,by simp,by simp,by simp⟩
theorem MSet.ints {es:Array MapEntry} {ck:Nat} {ks:List Int} (h:MSet es ck ks):IntKeys .i64 es:=by
 intro e he
 have:e.key ∈ es.toList.map (·.key):=List.mem_map_of_mem he
 rw [h.keys,List.mem_map] at this
 obtain ⟨n,_,hn⟩:=this
 exact ⟨n,hn.symm⟩
theorem mIdx_of:∀ {l:List MapEntry} {ks:List Int} (n:Int) (i:Nat),l.map (·.key)=ks.map (Value.int .i64)→(mIdx n l i).map (·.1)=if n ∈ ks then some (i + ks.idxOf n) else none
 | [],[],n,i,_ => rfl
 | [],_ :: _,_,_,h => by cases h
 | _ :: _,[],_,_,h => by cases h
 | e :: l,k :: ks,n,i,h => by
   simp only [List.map_cons,List.cons.injEq] at h
   have ih:=mIdx_of n (i + 1) h.2
   unfold mIdx
   simp only [h.1]
   by_cases e1:n=k
   · subst e1
     simp
   · have:(n == k)=false:=by simpa using e1
     have h2:(k == n)=false:=by simpa using Ne.symm e1
     simp only [this,ih,List.mem_cons,e1,false_or]
     by_cases e2:n ∈ ks
     · rw [if_pos e2,if_pos e2,List.idxOf_cons,h2]; simp; omega
     · rw [if_neg e2,if_neg e2]
theorem mIdx_val:∀ {l:List MapEntry} {n:Int} {i j:Nat} {v:Value},mIdx n l i=some (j,v)→∃ e ∈ l,e.val=v
 | [],_,_,_,_,h => by cases h
 | e :: l,n,i,j,v,h => by
   unfold mIdx at h
   split at h
   · split at h
     · cases h; exact ⟨e,List.mem_cons_self,rfl⟩
     · obtain ⟨e',h1,h2⟩:=mIdx_val h
       exact ⟨e',List.mem_cons_of_mem _ h1,h2⟩
   · cases h
theorem MSet.find {es:Array MapEntry} {ck:Nat} {ks:List Int} (h:MSet es ck ks) (l:Int):mfind l es=if l ∈ ks then some (.bool true) else none:=by
 have h1:=mIdx_of l 0 h.keys
 unfold mfind
 cases hm:mIdx l es.toList 0 with
 | none =>
   rw [hm] at h1
   by_cases e:l ∈ ks
   · rw [if_pos e] at h1; cases h1
   · rw [if_neg e]; rfl
 | some x =>
   obtain ⟨j,v⟩:=x
   rw [hm] at h1
   by_cases e:l ∈ ks
   · rw [if_pos e]
     obtain ⟨e',q1,q2⟩:=mIdx_val hm
     have:=h.vals e' q1
     simp only [Option.map_some]
     rw [← q2,this]
   · rw [if_neg e] at h1; cases h1
theorem MSet.put {es:Array MapEntry} {ck:Nat} {ks:List Int} (h:MSet es ck ks) (l:Int):∃ es' ck',mput es ck .i64 l (.bool true)=.map es' ck'∧MSet es' ck' (if l ∈ ks then ks else ks ++ [l]):=by
 have h1:=mIdx_of l 0 h.keys
 unfold mput
 cases hm:mIdx l es.toList 0 with
 | none =>
   rw [hm] at h1
   by_cases e:l ∈ ks
   · rw [if_pos e] at h1; cases h1
   · rw [if_neg e]
     refine ⟨_,_,rfl,?_,?_,?_,?_,?_⟩
     · simp [h.keys]
     · intro x hx
       rw [Array.toList_push,List.mem_append,List.mem_singleton] at hx
       rcases hx with hx | rfl
       · exact h.vals x hx
       · rfl
     · intro x hx
       rw [Array.toList_push,List.mem_append,List.mem_singleton] at hx
       rcases hx with hx | rfl
       · have:=h.born x hx; omega
       · simp
     · rw [Array.toList_push,List.map_append,List.nodup_append]
       refine ⟨h.once,by simp,fun a ha b hb => ?_⟩
       rw [List.mem_map] at ha
       obtain ⟨x,hx,rfl⟩:=ha
       simp only [List.map_cons,List.map_nil,List.mem_singleton] at hb
       have:=h.born x hx
       omega
     · rw [List.nodup_append]
       refine ⟨h.nodup,by simp,fun a ha b hb => ?_⟩
       rw [List.mem_singleton] at hb
       subst hb
       rintro rfl
       exact e ha
 | some x =>
   obtain ⟨j,v⟩:=x
   rw [hm] at h1
   by_cases e:l ∈ ks
   · rw [if_pos e] at h1 ⊢
     simp only [Option.map_some,Option.some.injEq,Nat.zero_add] at h1
     subst h1
     have hlt:ks.idxOf l < ks.length:=List.idxOf_lt_length_of_mem e
     have hlen:es.toList.length=ks.length:=by have:=congrArg List.length h.keys; simpa using this
     refine ⟨_,_,rfl,?_,?_,?_,?_,h.nodup⟩
     · rw [Array.toList_modify,← h.keys]
       apply List.ext_getElem?
       intro i
       rw [List.getElem?_map,List.getElem?_modify,List.getElem?_map]
       by_cases hi:ks.idxOf l=i
       · subst hi
         have:=congrArg (·[ks.idxOf l]?) h.keys
         simp only [List.getElem?_map] at this
         rw [List.getElem?_eq_getElem hlt,List.getElem_idxOf hlt] at this
         rw [List.getElem?_eq_getElem (by omega)] at this ⊢
         simp only [Option.map_some,Option.some.injEq,if_true,Option.map_eq_map] at this ⊢
         exact this.symm
       · cases es.toList[i]? <;> simp [hi]
     · intro x hx
       rw [Array.toList_modify] at hx
       obtain ⟨i,hi⟩:=List.mem_iff_getElem?.1 hx
       rw [List.getElem?_modify] at hi
       cases hq:es.toList[i]? with
       | none => rw [hq] at hi; simp at hi
       | some y =>
         rw [hq] at hi
         simp only [Option.map_eq_map,Option.map_some,Option.some.injEq] at hi
         have:=h.vals y (List.mem_of_getElem? hq)
         split at hi
         · rw [← hi]
         · rw [← hi]; exact this
     · intro x hx
       rw [Array.toList_modify] at hx
       obtain ⟨i,hi⟩:=List.mem_iff_getElem?.1 hx
       rw [List.getElem?_modify] at hi
       cases hq:es.toList[i]? with
       | none => rw [hq] at hi; simp at hi
       | some y =>
         rw [hq] at hi
         simp only [Option.map_eq_map,Option.map_some,Option.some.injEq] at hi
         have:=h.born y (List.mem_of_getElem? hq)
         split at hi
         · rw [← hi]; exact this
         · rw [← hi]; exact this
     · have:(es.modify (ks.idxOf l) fun e => { e with key:=.int .i64 l,val:=.bool true }).toList.map (·.born)=es.toList.map (·.born):=by
         rw [Array.toList_modify]
         apply List.ext_getElem?
         intro i
         rw [List.getElem?_map,List.getElem?_modify,List.getElem?_map]
         cases es.toList[i]? with
         | none => rfl
         | some y => simp only [Option.map_some]; split <;> rfl
       rw [this]; exact h.once
   · rw [if_neg e] at h1; cases h1
theorem map_eraseIdx {α β:Type} (f:α→β):∀ (l:List α) (i:Nat),(l.eraseIdx i).map f=(l.map f).eraseIdx i
 | [],_ => rfl
 | _ :: _,0 => rfl
 | x :: l,i + 1 => by simp [map_eraseIdx f l i]
theorem MSet.del {es:Array MapEntry} {ck:Nat} {ks:List Int} (h:MSet es ck ks) (l:Int):∃ es' ck',mdel es ck l=.map es' ck'∧MSet es' ck' (ks.erase l):=by
 have h1:=mIdx_of l 0 h.keys
 unfold mdel
 have hlen:es.toList.length=ks.length:=by have:=congrArg List.length h.keys; simpa using this
 cases hm:mIdx l es.toList 0 with
 | none =>
   rw [hm] at h1
   by_cases e:l ∈ ks
   · rw [if_pos e] at h1; cases h1
   · rw [List.erase_of_not_mem e]
     exact ⟨_,_,rfl,h⟩
 | some x =>
   obtain ⟨j,v⟩:=x
   rw [hm] at h1
   by_cases e:l ∈ ks
   · rw [if_pos e] at h1
     simp only [Option.map_some,Option.some.injEq,Nat.zero_add] at h1
     subst h1
     have hlt:ks.idxOf l < ks.length:=List.idxOf_lt_length_of_mem e
     have e1:(es.eraseIdxIfInBounds (ks.idxOf l)).toList=es.toList.eraseIdx (ks.idxOf l):=by
       unfold Array.eraseIdxIfInBounds
       rw [dif_pos (by have:es.toList.length=es.size:=rfl; omega)]
       simp
     have sub:∀ x,x ∈ es.toList.eraseIdx (ks.idxOf l)→x ∈ es.toList:=fun x hx => List.mem_of_mem_eraseIdx hx
     refine ⟨_,_,rfl,?_,?_,?_,?_,h.nodup.erase l⟩
     · rw [e1,map_eraseIdx,h.keys,← map_eraseIdx,List.erase_eq_eraseIdx_of_idxOf (by rfl)]
     · rw [e1]; exact fun x hx => h.vals x (sub x hx)
     · rw [e1]; exact fun x hx => h.born x (sub x hx)
     · rw [e1,map_eraseIdx]; exact h.once.sublist (List.eraseIdx_sublist ..)
   · rw [if_neg e] at h1; cases h1
end Go.Sl
namespace Go.Proofs.Ythfnjogadngfiaa
open Go.Sl Go.Sv
theorem c75 {σ:PH} {s:Option Addr} {r:Nat} {sl:Sli} {st:Value} {cy:Value} {lits:List Int} (hr:Blk σ r 102 [sl.v,st,cy]) (hl:Own σ 3 1 sl.a sl.n sl.c (ints lits)) (hn:lits.length≤1000000000000) (hd:lits.Nodup) :
   C 75 #[.pointer s,.pointer (some ⟨r,0,none⟩)] (fun v τ => ∃ m es ck,v=.map (some m)∧σ m=none∧τ m=some (.map es ck)∧MSet es ck lits∧σ.sub τ) σ:=by
 refine go (E75_0 _ _ _ _ _) ?_
 unfold S75_0
 intro b hbn
 have hs:=PH.sub_set (o:=.map #[] 0) hbn
 have e0:(Addr.mk r 0 none).add 0=⟨r,0,none⟩:=rfl
 have hlen:=hl.len
 simp only [ints,List.length_map,Nat.mul_one] at hlen
 refine ⟨_,rfl,_,e0 ▸ hs.cell (hr.get (i:=0) rfl),_,_,_,rfl,?_⟩
 unfold S75_1
 refine iloopS_for (G:=Unit) (fun k _ => (some b,sl.a,sl.n,sl.c,((sl.n:Nat):Int),(k:Int))) (fun k _ υ => σ.sub υ∧∃ es ck,υ b=some (.map es ck)∧MSet es ck (lits.take k)) sl.n ?_ (g:=()) ⟨hs,#[],0,by unfold PH.set; rw [if_pos rfl],.nil⟩
 rintro k _ υ hk ⟨hsub,es,ck,hm,hk1⟩ R hR
 unfold S75_2
 dsimp only
 refine br_dec.2 ⟨fun hlt => ?_,fun hge => ?_⟩
 · have hkl:k < lits.length:=by omega
   obtain ⟨p,hp,hc⟩:=hl.get (i:=k) (v:=.int .i64 lits[k]) (by simp [ints,hkl])
   obtain ⟨es',ck',e1,e2⟩:=hk1.put lits[k]
   refine ⟨p,hp,by omega,by omega,_,by rw [Int.toNat_natCast,Nat.mul_one]; exact hsub.cell hc,_,rfl,b,rfl,es,ck,hm,hk1.ints,?_⟩
   rw [wnat (by omega),e1]
   refine hR () _ (by omega) ⟨?_,es',ck',by unfold PH.set; rw [if_pos rfl],?_⟩
   · intro c o hc'
     unfold PH.set
     rw [if_neg (by rintro rfl; rw [hbn] at hc'; cases hc')]
     exact hsub c o hc'
   · have hni:lits[k] ∉ lits.take k:=by
       intro hm'
       have hd':=hd
       rw [← List.take_append_drop k lits,List.drop_eq_getElem_cons hkl,List.nodup_append] at hd'
       exact hd'.2.2 _ hm' _ List.mem_cons_self rfl
     rw [if_neg hni] at e2
     rw [List.take_succ_eq_append_getElem hkl]
     exact e2
 · have:k=lits.length:=by omega
   subst this
   rw [List.take_length] at hk1
   exact ⟨b,es,ck,rfl,hbn,hm,hk1,hsub⟩
theorem cellsOf_bump {g:Low} (hff:g.ff.length=4) (n:Nat):cellsOf { g with bump:=n }=(cellsOf g).set 15 (.float .f64 n):=by
 obtain ⟨ff,F,V,inp,es,clock,head,bump,empty,W,R⟩:=g
 match ff,hff with
 | [a,b,c,d],_ => rfl
theorem cellsOf_15 {g:Low} (hff:g.ff.length=4):(cellsOf g)[15]?=some (.float .f64 g.bump):=by
 obtain ⟨ff,F,V,inp,es,clock,head,bump,empty,W,R⟩:=g
 match ff,hff with
 | [a,b,c,d],_ => rfl
theorem Sol.setBump {σ:PH} {T:Nat→Tag} {s:Nat} {g:Low} (h:Sol σ T s g) (n:Nat) :
   Sol (σ.setCell ((Addr.mk s 0 none).add 15) (.float .f64 n)) T s { g with bump:=n }∧Did σ T (σ.setCell ((Addr.mk s 0 none).add 15) (.float .f64 n)) T:=by
 have hsb:((Addr.mk s 0 none).add 15).block=s:=add_block _ _
 have hst:Step (fun b => b=s) σ (σ.setCell ((Addr.mk s 0 none).add 15) (.float .f64 n)):=setCell_step.weaken fun b hb' => hb'.trans hsb
 have ne:∀ b t,T b=t→t ≠ .fld 0→¬ b=s:=by
   rintro b t h1 h2 rfl
   exact h2 (h1.symm.trans h.tag)
 refine ⟨⟨h.ff,?_,h.tag,fun j e' size' hj => ?_,hst.same _ _ h.map (ne _ _ h.mtag (by simp)),h.mtag,h.keys,h.wv,fun j sl l hj => (h.wat j sl l hj).keep hst fun b hb => ne b _ hb (by simp),
   fun r x hr => (h.rblk r x hr).keep hst (ne r _ (h.rtag r x hr) (by simp)),h.rtag,fun r x hr => (h.rl r x hr).keep hst fun b hb => ne b _ hb (by simp),fun r x hr => (h.rc r x hr).keep hst fun b hb => ne b _ hb (by simp)⟩,hst.weaken ?_,fun _ _ => rfl⟩
 · rw [cellsOf_bump h.ff]
   exact h.blk.set 15 _
 · have j0:j ≠ 0:=by rintro rfl; cases hj
   exact (h.fld j e' size' hj).keep hst fun b hb => ne b _ hb (by simpa using j0)
 · rintro b rfl
   rw [h.tag]; simp
abbrev ptr (r:Nat):Addr:=⟨r,0,none⟩
def RL.rc (x:RL):RC:=⟨x.lits,x.step,x.cyc⟩
structure StpOk (R:Nat→Option RL) (x:Stp) (p:PStep):Prop where
 kind:x.kind=p.kind
 index:x.index=p.index
 pp:x.p=p.p
 qq:x.q=p.q
 vv:x.v=p.v
 lits:(x.l=⟨none,0,0⟩∧p.lits=[]) ∨ ∃ r y,R r=some y∧x.l=y.c∧y.cyc=p.lits
inductive Steps (R:Nat→Option RL):List Stp→List PStep→Prop
 | nil:Steps R [] []
 | cons {x:Stp} {p:PStep} {xs:List Stp} {ps:List PStep}:StpOk R x p→Steps R xs ps→Steps R (x :: xs) (p :: ps)
theorem Steps.len {R:Nat→Option RL} {xs:List Stp} {ps:List PStep} (h:Steps R xs ps):xs.length=ps.length:=by
 induction h with
 | nil => rfl
 | cons _ _ ih => rw [List.length_cons,List.length_cons,ih]
theorem Steps.snoc {R:Nat→Option RL} {xs:List Stp} {ps:List PStep} (h:Steps R xs ps) {x:Stp} {p:PStep} (hx:StpOk R x p):Steps R (xs ++ [x]) (ps ++ [p]):=by
 induction h with
 | nil => exact .cons hx .nil
 | cons h1 _ ih => exact .cons h1 ih
theorem Steps.get {R:Nat→Option RL} {xs:List Stp} {ps:List PStep} (h:Steps R xs ps) {i:Nat} {x:Stp} (hx:xs[i]?=some x):∃ p,ps[i]?=some p∧StpOk R x p:=by
 induction h generalizing i with
 | nil => simp at hx
 | cons h1 _ ih =>
   cases i with
   | zero => simp at hx; subst hx; exact ⟨_,rfl,h1⟩
   | succ i => exact ih hx
def Cyc (R R':Nat→Option RL):Prop:=∀ r y,R r=some y→∃ y',R' r=some y'∧y'.c=y.c∧y'.cyc=y.cyc
theorem Steps.cyc {R R':Nat→Option RL} (hc:Cyc R R') {xs:List Stp} {ps:List PStep} (h:Steps R xs ps):Steps R' xs ps:=by
 induction h with
 | nil => exact .nil
 | cons h1 _ ih =>
   refine .cons ⟨h1.kind,h1.index,h1.pp,h1.qq,h1.vv,?_⟩ ih
   rcases h1.lits with h | ⟨r,y,q1,q2,q3⟩
   · exact .inl h
   · obtain ⟨y',e1,e2,e3⟩:=hc r y q1
     exact .inr ⟨r,y',e1,by rw [e2]; exact q2,by rw [e3]; exact q3⟩
def nats (l:List Nat):List Value:=l.map fun (n:Nat) => .int .i64 (n:Int)
def ptrs (l:List Nat):List Value:=l.map fun r => .pointer (some (ptr r))
def optrs (l:List (Option Nat)):List Value:=l.map fun r => .pointer (r.map ptr)
structure Abs (g:Low) (st:St):Prop where
 steps:∃ xs,g.V 4=xs.flatMap Stp.cells∧Steps g.R xs st.steps
 clauses:g.V 6=ptrs st.clauses
 W:g.W.map (·.2)=st.W
 value:g.V 8=ints st.value
 level:g.V 9=nats st.level
 why:g.V 10=optrs st.why
 trail:g.V 11=ints st.trail
 limits:g.V 12=nats st.limits
 head:g.head=st.head
 act:∃ fl:List Nat,g.V 14=fl.map (.float .f64 ·)∧fl.length=st.value.length
 empty:g.empty=st.empty.map ptr
 units:g.V 17=ptrs st.units
 R:∀ r,(g.R r).map RL.rc=st.R r
def Rep (σ:PH) (T:Nat→Tag) (s:Nat) (ff:List Value) (st:St):Prop:=∃ g,Sol σ T s g∧g.ff=ff∧Abs g st
theorem cells_len:∀ (xs:List Stp),(xs.flatMap Stp.cells).length=xs.length * 6
 | [] => rfl
 | x :: xs => by rw [List.flatMap_cons,List.length_append,cells_len xs]; simp; omega
theorem Sol.n4 {σ:PH} {T:Nat→Tag} {s:Nat} {g:Low} (h:Sol σ T s g) {st:St} (a:Abs g st):(g.F 4).n=st.steps.length:=by
 obtain ⟨xs,h1,h2⟩:=a.steps
 have:=(h.fld 4 95 6 rfl).1.len
 rw [h1,cells_len,h2.len] at this
 omega
theorem Sol.n6 {σ:PH} {T:Nat→Tag} {s:Nat} {g:Low} (h:Sol σ T s g) {st:St} (a:Abs g st):(g.F 6).n=st.clauses.length:=by
 rw [← h.len (k:=6) rfl,a.clauses]; simp [ptrs]
theorem Sol.n8 {σ:PH} {T:Nat→Tag} {s:Nat} {g:Low} (h:Sol σ T s g) {st:St} (a:Abs g st):(g.F 8).n=st.value.length:=by
 rw [← h.len (k:=8) rfl,a.value]; simp [ints]
theorem Sol.n9 {σ:PH} {T:Nat→Tag} {s:Nat} {g:Low} (h:Sol σ T s g) {st:St} (a:Abs g st):(g.F 9).n=st.level.length:=by
 rw [← h.len (k:=9) rfl,a.level]; simp [nats]
theorem Sol.n10 {σ:PH} {T:Nat→Tag} {s:Nat} {g:Low} (h:Sol σ T s g) {st:St} (a:Abs g st):(g.F 10).n=st.why.length:=by
 rw [← h.len (k:=10) rfl,a.why]; simp [optrs]
theorem Sol.n11 {σ:PH} {T:Nat→Tag} {s:Nat} {g:Low} (h:Sol σ T s g) {st:St} (a:Abs g st):(g.F 11).n=st.trail.length:=by
 rw [← h.len (k:=11) rfl,a.trail]; simp [ints]
theorem Sol.n12 {σ:PH} {T:Nat→Tag} {s:Nat} {g:Low} (h:Sol σ T s g) {st:St} (a:Abs g st):(g.F 12).n=st.limits.length:=by
 rw [← h.len (k:=12) rfl,a.limits]; simp [nats]
theorem Sol.n14 {σ:PH} {T:Nat→Tag} {s:Nat} {g:Low} (h:Sol σ T s g) {st:St} (a:Abs g st):(g.F 14).n=st.value.length:=by
 obtain ⟨fl,h1,h2⟩:=a.act
 rw [← h.len (k:=14) rfl,h1]; simp [h2]
theorem Sol.n17 {σ:PH} {T:Nat→Tag} {s:Nat} {g:Low} (h:Sol σ T s g) {st:St} (a:Abs g st):(g.F 17).n=st.units.length:=by
 rw [← h.len (k:=17) rfl,a.units]; simp [ptrs]
theorem Abs.nW {g:Low} {st:St} (a:Abs g st):g.W.length=st.W.length:=by rw [← a.W,List.length_map]
theorem ints_set (l:List Int) (i:Nat) (x:Int):ints (l.set i x)=(ints l).set i (.int .i64 x):=by unfold ints; rw [List.map_set]
theorem nats_set (l:List Nat) (i:Nat) (x:Nat):nats (l.set i x)=(nats l).set i (.int .i64 (x:Int)):=by unfold nats; rw [List.map_set]
theorem optrs_set (l:List (Option Nat)) (i:Nat) (x:Option Nat):optrs (l.set i x)=(optrs l).set i (.pointer (x.map ptr)):=by unfold optrs; rw [List.map_set]
theorem Abs.R_of {g:Low} {st:St} (a:Abs g st) {r:Nat} {c:RC} (h:st.R r=some c):∃ x,g.R r=some x∧x.lits=c.lits∧x.step=c.step∧x.cyc=c.cyc:=by
 have:=a.R r
 rw [h] at this
 cases hx:g.R r with
 | none => rw [hx] at this; cases this
 | some x =>
   rw [hx] at this
   simp only [Option.map_some,Option.some.injEq] at this
   subst this
   exact ⟨x,rfl,rfl,rfl,rfl⟩
theorem vr_idx {x:Int} (h:x ≠ 0):(idx x / 2).toNat=vr x:=idx_toNat h
theorem r54 {σ:PH} {T:Nat→Tag} {s:Nat} {ff:List Value} {st:St} (h:Rep σ T s ff st) {x:Int} (hl:Lit x) (h0:x ≠ 0) (r:Option Nat) (hv:vr x < st.value.length) (hlv:st.level.length=st.value.length) (hw:st.why.length=st.value.length)
   (ht:st.trail.length≤1000000) :
   C 54 #[.pointer (some (ptr s)),.int .i64 x,.pointer (r.map ptr)] (fun v τ => v=.tuple #[]∧∃ T',Did σ T τ T'∧Rep τ T' s ff (st.assign x r)) σ:=by
 obtain ⟨g,H,hff,A⟩:=h
 have n8:=H.n8 A; have n9:=H.n9 A; have n10:=H.n10 A; have n11:=H.n11 A; have n12:=H.n12 A
 have l8:=H.len (k:=8) rfl
 have l9:=H.len (k:=9) rfl
 have l10:=H.len (k:=10) rfl
 refine (c54 H hl h0 (r.map ptr) (by rw [vr_idx h0]; omega) (by rw [vr_idx h0]; omega) (by rw [vr_idx h0]; omega) (by omega)).mono hb ?_
 rintro _ τ ⟨rfl,T',sl,D,hn,H'⟩
 refine ⟨rfl,T',D,_,H',hff,?_⟩
 rw [vr_idx h0]
 refine ⟨A.steps,A.clauses,A.W,?_,?_,?_,?_,A.limits,A.head,?_,A.empty,A.units,A.R⟩
 · show (g.V 8).set _ _=_
   rw [A.value,← ints_set]; rfl
 · show (g.V 9).set _ _=_
   rw [A.level,n12,← nats_set]; rfl
 · show (g.V 10).set _ _=_
   rw [A.why,← optrs_set]; rfl
 · show g.V 11 ++ _=_
   rw [A.trail]; simp [ints,St.assign]
 · obtain ⟨fl,h1,h2⟩:=A.act
   exact ⟨fl,h1,by show _=(st.value.set _ _).length; rw [List.length_set]; exact h2⟩
theorem r72 {σ:PH} {T:Nat→Tag} {s:Nat} {g:Low} (H:Sol σ T s g) {ff:List Value} (hff:g.ff=ff) {st:St} (A:Abs g st) (x:Stp) {p:PStep} (hx:StpOk g.R x p) (hn:st.steps.length≤3500000000000) :
   C 72 #[.pointer (some (ptr s)),.agg #[.int .i64 x.kind,.int .i64 x.index,.slice x.l.a x.l.n x.l.c,.int .i64 x.p,.int .i64 x.q,.int .i64 x.v]] (fun v τ => v=.int .i64 st.steps.length∧∃ T' g',Did σ T τ T'∧Sol τ T' s g'∧g'.ff=ff∧Abs g' (st.step p)∧g'.R=g.R) σ:=by
 have n4:=H.n4 A
 refine (c72 H x (by omega)).mono hb ?_
 rintro _ τ ⟨rfl,T',sl,D,hn,H'⟩
 refine ⟨by rw [n4],T',_,D,H',hff,?_,rfl⟩
 obtain ⟨xs,h1,h2⟩:=A.steps
 refine ⟨⟨xs ++ [x],?_,h2.snoc hx⟩,A.clauses,A.W,A.value,A.level,A.why,A.trail,A.limits,A.head,A.act,A.empty,A.units,A.R⟩
 show g.V 4 ++ _=_
 rw [h1,List.flatMap_append]; simp
theorem r72s {σ:PH} {T:Nat→Tag} {s:Nat} {ff:List Value} {st:St} (h:Rep σ T s ff st) (kind index p q v:Int) (hn:st.steps.length≤3500000000000) :
   C 72 #[.pointer (some (ptr s)),.agg #[.int .i64 kind,.int .i64 index,.slice none 0 0,.int .i64 p,.int .i64 q,.int .i64 v]] (fun u τ => u=.int .i64 st.steps.length∧∃ T',Did σ T τ T'∧Rep τ T' s ff (st.step ⟨kind,index,[],p,q,v⟩)) σ:=by
 obtain ⟨g,H,hff,A⟩:=h
 refine (r72 H hff A ⟨kind,index,⟨none,0,0⟩,p,q,v⟩ (p:=⟨kind,index,[],p,q,v⟩) ⟨rfl,rfl,rfl,rfl,rfl,.inl ⟨rfl,rfl⟩⟩ hn).mono hb ?_
 rintro _ τ ⟨rfl,T',g',D,H',hff',A',_⟩
 exact ⟨rfl,T',D,g',H',hff',A'⟩
theorem r52 {σ:PH} {T:Nat→Tag} {s:Nat} {ff:List Value} {st:St} (h:Rep σ T s ff st) {r:Nat} {x:RC} (hx:st.R r=some x) (h2:2≤x.lits.length) (hl:∀ l ∈ x.lits,Lit l∧l ≠ 0∧(idx l).toNat < st.W.length)
   (hn:st.clauses.length≤5000000000000) (hw:∀ e ∈ st.W,e.length≤5000000000000) :
   C 52 #[.pointer (some (ptr s)),.pointer (some (ptr r))] (fun v τ => v=.tuple #[]∧∃ T',Did σ T τ T'∧Rep τ T' s ff (st.add r x.lits)) σ:=by
 obtain ⟨g,H,hff,A⟩:=h
 have n6:=H.n6 A
 obtain ⟨y,hy,e1,_,_⟩:=A.R_of hx
 refine (c52 H hy (by rw [e1]; exact h2) (by rw [e1,A.nW]; exact hl) (by omega) (fun e he => hw _ (by rw [← A.W]; exact List.mem_map_of_mem he))).mono hb ?_
 rintro _ τ ⟨rfl,T',g',sl,D,hn,S7,hW,H'⟩
 refine ⟨rfl,T',D,g',H',S7.ff.trans hff,?_⟩
 have v:=S7.V
 refine ⟨?_,?_,?_,?_,?_,?_,?_,?_,S7.head.trans A.head,?_,S7.empty.trans A.empty,?_,fun r => by rw [S7.R]; exact A.R r⟩
 · rw [v 4 (by decide),S7.R]; exact A.steps
 · rw [v 6 (by decide)]; show g.V 6 ++ _=_; rw [A.clauses]; simp [ptrs,St.add]
 · rw [hW,A.W,e1,n6]; rfl
 · rw [v 8 (by decide)]; exact A.value
 · rw [v 9 (by decide)]; exact A.level
 · rw [v 10 (by decide)]; exact A.why
 · rw [v 11 (by decide)]; exact A.trail
 · rw [v 12 (by decide)]; exact A.limits
 · rw [v 14 (by decide)]; exact A.act
 · rw [v 17 (by decide)]; exact A.units
theorem Sol.grow {σ τ:PH} {T:Nat→Tag} {s:Nat} {g:Low} (h:Sol σ T s g) (hs:σ.sub τ):∃ T',Sol τ T' s g∧Did σ T τ T'∧∀ b,σ b=none→T' b=.other:=by
 have hT:∀ x,σ x ≠ none→(match σ x with | none => Tag.other | some _ => T x)=T x:=by
   intro x hx
   cases h:σ x with
   | none => exact absurd h hx
   | some o => rfl
 refine ⟨fun b => match σ b with | none => .other | some _ => T b,(h.retag hT).keep (M:=fun _ => False) hs.step (fun _ _ h => h),⟨hs.step,hT⟩,fun b hb => ?_⟩
 simp only [hb]
theorem Rep.grow {σ τ:PH} {T:Nat→Tag} {s:Nat} {ff:List Value} {st:St} (h:Rep σ T s ff st) (hs:σ.sub τ):∃ T',Rep τ T' s ff st∧Did σ T τ T'∧∀ b,σ b=none→T' b=.other:=by
 obtain ⟨g,H,hff,A⟩:=h
 obtain ⟨T',H',D,hn⟩:=H.grow hs
 exact ⟨T',⟨g,H',hff,A⟩,D,hn⟩
def Low.setR (g:Low) (r:Nat) (x:RL):Low:={ g with R:=fun q => if q=r then some x else g.R q }
theorem Sol.setStep {σ:PH} {T:Nat→Tag} {s:Nat} {g:Low} (h:Sol σ T s g) {r:Nat} {x:RL} (hx:g.R r=some x) (n:Int) :
   Sol (σ.setCell ((ptr r).add 1) (.int .i64 n)) T s (g.setR r { x with step:=n })∧Did σ T (σ.setCell ((ptr r).add 1) (.int .i64 n)) T:=by
 have hsb:((ptr r).add 1).block=r:=add_block _ _
 have hst:Step (fun b => b=r) σ (σ.setCell ((ptr r).add 1) (.int .i64 n)):=setCell_step.weaken fun b hb' => hb'.trans hsb
 have htr:=h.rtag r x hx
 have ne:∀ b t,T b=t→t ≠ .rsn→¬ b=r:=by
   rintro b t h1 h2 rfl
   exact h2 (h1.symm.trans htr)
 refine ⟨⟨h.ff,h.blk.keep hst (ne s _ h.tag (by simp)),h.tag,fun j e' size' hj => (h.fld j e' size' hj).keep hst fun b hb => ne b _ hb (by simp),hst.same _ _ h.map (ne _ _ h.mtag (by simp)),h.mtag,h.keys,h.wv,fun j sl l hj => (h.wat j sl l hj).keep hst fun b hb => ne b _ hb (by simp),
   fun q y hq => ?_,fun q y hq => ?_,fun q y hq => ?_,fun q y hq => ?_⟩,hst.weaken ?_,fun _ _ => rfl⟩
 · by_cases e:q=r
   · subst e
     have:y={ x with step:=n }:=by
       have:(if q=q then some { x with step:=n } else g.R q)=some y:=hq
       rw [if_pos rfl] at this
       exact (Option.some.inj this).symm
     subst this
     exact (h.rblk q x hx).set 1 (.int .i64 n)
   · have hq':g.R q=some y:=by
       have:(if q=r then some { x with step:=n } else g.R q)=some y:=hq
       rw [if_neg e] at this; exact this
     exact (h.rblk q y hq').keep hst e
 · by_cases e:q=r
   · subst e; exact htr
   · have hq':g.R q=some y:=by
       have:(if q=r then some { x with step:=n } else g.R q)=some y:=hq
       rw [if_neg e] at this; exact this
     exact h.rtag q y hq'
 · by_cases e:q=r
   · subst e
     have:y={ x with step:=n }:=by
       have:(if q=q then some { x with step:=n } else g.R q)=some y:=hq
       rw [if_pos rfl] at this
       exact (Option.some.inj this).symm
     subst this
     exact (h.rl q x hx).keep hst fun b hb => ne b _ hb (by simp)
   · have hq':g.R q=some y:=by
       have:(if q=r then some { x with step:=n } else g.R q)=some y:=hq
       rw [if_neg e] at this; exact this
     exact (h.rl q y hq').keep hst fun b hb => ne b _ hb (by simp)
 · by_cases e:q=r
   · subst e
     have:y={ x with step:=n }:=by
       have:(if q=q then some { x with step:=n } else g.R q)=some y:=hq
       rw [if_pos rfl] at this
       exact (Option.some.inj this).symm
     subst this
     exact (h.rc q x hx).keep hst fun b hb => ne b _ hb (by simp)
   · have hq':g.R q=some y:=by
       have:(if q=r then some { x with step:=n } else g.R q)=some y:=hq
       rw [if_neg e] at this; exact this
     exact (h.rc q y hq').keep hst fun b hb => ne b _ hb (by simp)
 · rintro b rfl
   rw [htr]; simp
theorem Cyc.setR {g:Low} {r:Nat} {x y:RL} (hx:g.R r=some x) (h1:y.c=x.c) (h2:y.cyc=x.cyc):Cyc g.R (g.setR r y).R:=by
 intro q z hq
 by_cases e:q=r
 · subst e
   rw [hx] at hq; cases hq
   exact ⟨y,if_pos rfl,h1,h2⟩
 · exact ⟨z,(if_neg e).trans hq,rfl,rfl⟩
theorem Abs.setR {g:Low} {st:St} (a:Abs g st) {r:Nat} {x y:RL} (hx:g.R r=some x) (h1:y.c=x.c) (h2:y.cyc=x.cyc):Abs (g.setR r y) (st.setR r y.rc):=by
 refine ⟨?_,a.clauses,a.W,a.value,a.level,a.why,a.trail,a.limits,a.head,a.act,a.empty,a.units,fun q => ?_⟩
 · obtain ⟨xs,q1,q2⟩:=a.steps
   exact ⟨xs,q1,q2.cyc (Cyc.setR hx h1 h2)⟩
 · show (if q=r then some y else g.R q).map RL.rc=if q=r then some y.rc else st.R q
   by_cases e:q=r
   · rw [if_pos e,if_pos e]; rfl
   · rw [if_neg e,if_neg e]; exact a.R q
theorem r76 {σ:PH} {T:Nat→Tag} {s:Nat} {ff:List Value} {st:St} (h:Rep σ T s ff st) {r:Nat} {x:RC} (hx:st.R r=some x) (hn:st.steps.length≤3500000000000) :
   C 76 #[.pointer (some (ptr s)),.pointer (some (ptr r))] (fun v τ => v=.int .i64 (st.stepOf x)∧∃ T',Did σ T τ T'∧Rep τ T' s ff (st.derive r x)) σ:=by
 obtain ⟨g,H,hff,A⟩:=h
 obtain ⟨y,hy,e1,e2,e3⟩:=A.R_of hx
 refine go (E76_0 _ _ _ _ _) ?_
 unfold S76_0
 have B:=H.rblk r y hy
 refine ⟨_,rfl,_,B.get (i:=1) rfl,_,rfl,br_dec.2 ⟨fun hneg => ?_,fun hpos => ?_⟩⟩
 · refine ⟨_,rfl,_,B.get (i:=2) rfl,_,_,_,rfl,?_⟩
   refine (r72 H hff A ⟨2,0,y.c,0,0,0⟩ (p:=pCyc x.cyc) ⟨rfl,rfl,rfl,rfl,rfl,.inr ⟨r,y,hy,rfl,e3⟩⟩ hn).mono hb ?_
   rintro _ τ ⟨rfl,T',g',D,H',hff',A',hR⟩
   have hy':g'.R r=some y:=by rw [hR]; exact hy
   obtain ⟨H2,D2⟩:=H'.setStep hy' st.steps.length
   have B':=H'.rblk r y hy'
   refine ⟨τ,PH.sub.refl _,_,rfl,_,rfl,⟨_,B'.get (i:=1) rfl⟩,B'.froz 1,_,rfl,_,(B'.set 1 (.int .i64 st.steps.length)).get (i:=1) rfl,_,rfl,?_,T',D.trans D2,_,H2,hff',?_⟩
   · unfold St.stepOf; rw [if_pos (by omega)]
   · unfold St.derive
     rw [if_pos (by omega)]
     have:=A'.setR (y:={ y with step:=st.steps.length }) hy' rfl rfl
     have e:({ y with step:=(st.steps.length:Int) }:RL).rc={ x with step:=(st.steps.length:Int) }:=by unfold RL.rc; dsimp only; rw [e1,e3]
     rw [e] at this
     exact this
 · refine ⟨_,rfl,_,B.get (i:=1) rfl,_,rfl,?_,T,Did.refl _ _,g,H,hff,?_⟩
   · unfold St.stepOf; rw [if_neg (by omega),e2]
   · unfold St.derive; rw [if_neg (by omega)]; exact A
theorem clr_clrI (ls V:List Int):clr (.int .i64 0) ls (ints V)=ints (clrI ls V) ∨ ∃ x ∈ ls,x=0:=by
 induction ls generalizing V with
 | nil => exact .inl rfl
 | cons x ls ih =>
   by_cases hx:x=0
   · exact .inr ⟨x,List.mem_cons_self,hx⟩
   · unfold clr clrI
     rw [List.foldl_cons,List.foldl_cons,vr_idx hx,← ints_set]
     rcases ih (V.set (vr x) 0) with h | ⟨y,h1,h2⟩
     · exact .inl h
     · exact .inr ⟨y,List.mem_cons_of_mem _ h1,h2⟩
theorem clr_clrW (ls:List Int) (V:List (Option Nat)):clr (.pointer none) ls (optrs V)=optrs (clrW ls V) ∨ ∃ x ∈ ls,x=0:=by
 induction ls generalizing V with
 | nil => exact .inl rfl
 | cons x ls ih =>
   by_cases hx:x=0
   · exact .inr ⟨x,List.mem_cons_self,hx⟩
   · unfold clr clrW
     rw [List.foldl_cons,List.foldl_cons,vr_idx hx]
     have:(optrs V).set (vr x) (.pointer none)=optrs (V.set (vr x) none):=(optrs_set V _ none).symm
     rw [this]
     rcases ih (V.set (vr x) none) with h | ⟨y,h1,h2⟩
     · exact .inl h
     · exact .inr ⟨y,List.mem_cons_of_mem _ h1,h2⟩
theorem r91 {σ:PH} {T:Nat→Tag} {s:Nat} {ff:List Value} {st:St} (h:Rep σ T s ff st) (j:Nat) (hj:j < 1000000) (hl:∀ x ∈ st.trail,Lit x∧x ≠ 0∧vr x < st.value.length) (hw:st.why.length=st.value.length) (hlim:∀ p ∈ st.limits,p≤st.trail.length)
   (hn:st.trail.length≤1000000) (hn':st.limits.length≤1000000) :
   C 91 #[.pointer (some (ptr s)),.int .i64 j] (fun v τ => v=.tuple #[]∧∃ T',Did σ T τ T'∧Rep τ T' s ff (st.undo j)) σ:=by
 obtain ⟨g,H,hff,A⟩:=h
 have n11:=H.n11 A; have n12:=H.n12 A
 unfold St.undo
 by_cases hlt:j < st.limits.length
 · rw [dif_pos hlt]
   refine (c91 H (tr:=st.trail) A.trail (fun x hx => ?_) (lev:=j) (n0:=st.limits[j]) (by omega) ?_ (hlim _ (List.getElem_mem _)) (by omega)).mono hb ?_
   · obtain ⟨q1,q2,q3⟩:=hl x hx
     refine ⟨q1,q2,?_,?_⟩
     · rw [vr_idx q2,A.value]; simpa [ints] using q3
     · rw [vr_idx q2,A.why]; simpa [optrs,hw] using q3
   · rw [A.limits]; simp [nats,hlt]
   · rintro _ τ ⟨rfl,D,H'⟩
     refine ⟨rfl,T,D,_,H',hff,?_⟩
     have z:¬ ∃ x ∈ st.trail.drop st.limits[j],x=0:=fun ⟨x,h1,h2⟩ => (hl x (List.mem_of_mem_drop h1)).2.1 h2
     refine ⟨A.steps,A.clauses,A.W,?_,A.level,?_,?_,?_,rfl,?_,A.empty,A.units,A.R⟩
     · show clr _ _ (g.V 8)=_
       rw [A.value]
       exact (clr_clrI _ _).resolve_right z
     · show clr _ _ (g.V 10)=_
       rw [A.why]
       exact (clr_clrW _ _).resolve_right z
     · show (g.V 11).take _=_
       rw [A.trail]; simp [ints,St.undoTo,List.map_take]
     · show (g.V 12).take _=_
       rw [A.limits]; simp [nats,St.undoTo,List.map_take]
     · obtain ⟨fl,h1,h2⟩:=A.act
       exact ⟨fl,h1,by show _=(clrI _ st.value).length; rw [clrI_len]; exact h2⟩
 · rw [dif_neg hlt]
   refine go (E91_0 _ _ _ _ _) ?_
   unfold S91_0
   refine ⟨_,rfl,_,H.field (k:=12) rfl,_,_,_,rfl,br_dec.2 ⟨fun hc => ⟨rfl,T,Did.refl _ _,g,H,hff,A⟩,fun hc => by omega⟩⟩
end Go.Proofs.Ythfnjogadngfiaa
