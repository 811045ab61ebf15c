/- A part of the proof: see the last text, YthfnjogadngfiaaXi14. -/
import Derived.Shelf.SlSortCmp.NoneTotal
import Derived.Shelf.Slices.CompactI
import Derived.Shelf.SlGeneric
import Derived.Ground.SlsfProg
import Derived.Ground.Names2Prog
import Derived.Test.YthfnjogadngfiaaXi7
set_option maxRecDepth 100000
set_option linter.unusedVariables false
set_option linter.unusedSimpArgs false
namespace Go.Sl
structure IterAt (σ:PH) (b m:Nat) (es:Array MapEntry) (ck:Nat) (ks:List Int) (seen:Array Nat) (vis:List Int):Prop where
 it:σ b=some (.mapIter (some m) ck seen ck)
 map:σ m=some (.map es ck)
 set:MSet es ck ks
 vsub:∀ n ∈ vis,n ∈ ks
 vnd:vis.Nodup
 vse:∀ e ∈ es.toList,∀ n,e.key=.int .i64 n→(seen.contains e.born=true ↔ n ∈ vis)
theorem IterAt.ne {σ:PH} {b m:Nat} {es:Array MapEntry} {ck:Nat} {ks:List Int} {seen:Array Nat} {vis:List Int} (h:IterAt σ b m es ck ks seen vis):b ≠ m:=by
 rintro rfl
 have:=h.it
 rw [h.map] at this
 cases this
theorem find_born:∀ {l:List MapEntry} {e:MapEntry},(l.map (·.born)).Nodup→e ∈ l→l.find? (fun x => x.born == e.born)=some e
 | [],_,_,h => by simp at h
 | x :: l,e,hd,h => by
   rw [List.map_cons,List.nodup_cons] at hd
   rcases List.mem_cons.1 h with rfl | h
   · simp
   · have:(x.born == e.born)=false:=by
       rw [beq_eq_false_iff_ne]
       intro e1
       exact hd.1 (by rw [e1]; exact List.mem_map_of_mem h)
     rw [List.find?_cons,this]
     exact find_born hd.2 h
theorem MSet.key_inj {es:Array MapEntry} {ck:Nat} {ks:List Int} (h:MSet es ck ks) {e e':MapEntry} (h1:e ∈ es.toList) (h2:e' ∈ es.toList) (hb:e.born=e'.born):e=e':=by
 have a:=find_born h.once h1
 have b:=find_born h.once h2
 rw [hb] at a
 exact Option.some.inj (a.symm.trans b)
theorem nodup_map_inj {α β:Type} {f:α→β}:∀ {l:List α},(l.map f).Nodup→∀ {a b:α},a ∈ l→b ∈ l→f a=f b→a=b
 | [],_,_,_,h,_,_ => by simp at h
 | x :: l,hd,a,b,ha,hb,e => by
   rw [List.map_cons,List.nodup_cons] at hd
   rcases List.mem_cons.1 ha with ha | ha
   · rcases List.mem_cons.1 hb with hb | hb
     · rw [ha,hb]
     · exact absurd (by rw [← ha,e]; exact List.mem_map_of_mem hb) hd.1
   · rcases List.mem_cons.1 hb with hb | hb
     · exact absurd (by rw [← hb,← e]; exact List.mem_map_of_mem ha) hd.1
     · exact nodup_map_inj hd.2 ha hb e
theorem MSet.key_inj' {es:Array MapEntry} {ck:Nat} {ks:List Int} (h:MSet es ck ks) {e e':MapEntry} (h1:e ∈ es.toList) (h2:e' ∈ es.toList) (hk:e.key=e'.key):e=e':=by
 have hd:(es.toList.map (·.key)).Nodup:=by
   rw [h.keys]
   exact h.nodup.map _ fun a b hab e => hab (by cases e; rfl)
 exact nodup_map_inj hd h1 h2 hk
theorem IterAt.rule {σ:PH} {b m:Nat} {es:Array MapEntry} {ck:Nat} {ks:List Int} {seen:Array Nat} {vis:List Int} (h:IterAt σ b m es ck ks seen vis) {Q:Prop} {REST:Nat→Nat→Array Nat→Nat→MapEntry→Int→Prop}
   (hdone:(∀ l ∈ ks,l ∈ vis)→Q)
   (hnext:∀ n ∈ ks,n ∉ vis→∀ e,IterAt (σ.set b (.mapIter (some m) ck (seen.push e.born) ck)) b m es ck ks (seen.push e.born) (n :: vis)→REST m ck seen ck e n) :
   Addr.off ⟨b,0,none⟩=0∧∃ (m16 w17:Nat) (seen18:Array Nat) (last19:Nat) (es20:Array MapEntry) (ck21:Nat),σ (Addr.block ⟨b,0,none⟩)=some (.mapIter (some m16) w17 seen18 last19)∧σ m16=some (.map es20 ck21)∧(∀ e ∈ es20.toList,e.born < w17) ∧
     (seen18.isEmpty=true ∨ es20.isEmpty=true ∨ ∃ e ∈ es20.toList,e.born < last19)∧((∀ e ∈ es20.toList,seen18.contains e.born=true)→Q) ∧
     (∀ e22 ∈ es20.toList,seen18.contains e22.born=false→Addr.off ⟨b,0,none⟩=0∧∃ (m23 w24:Nat) (seen25:Array Nat) (last26:Nat) (es27:Array MapEntry) (ck28 st29:Nat) (e30:MapEntry),
       (PH.set σ (Addr.block ⟨b,0,none⟩) (.mapIter (some m16) w17 (seen18.push e22.born) ck21)) (Addr.block ⟨b,0,none⟩)=some (.mapIter (some m23) w24 seen25 last26) ∧
       (PH.set σ (Addr.block ⟨b,0,none⟩) (.mapIter (some m16) w17 (seen18.push e22.born) ck21)) m23=some (.map es27 ck28)∧ck28=last26∧seen25.back?=some st29∧es27.find? (fun x => x.born == st29)=some e30∧∃ n31:Int,e30.key=.int .i64 n31∧REST m16 w17 seen18 ck21 e22 n31):=by
 have hmb:(σ.set b (.mapIter (some m) ck #[] ck)) m=some (.map es ck):=by unfold PH.set; rw [if_neg h.ne.symm]; exact h.map
 refine ⟨rfl,m,ck,seen,ck,es,ck,h.it,h.map,h.set.born,?_,fun hall => hdone fun l hl => ?_,fun e he hs => ⟨rfl,m,ck,seen.push e.born,ck,es,ck,e.born,e,?_,?_,rfl,by simp,(Array.find?_toList ..).symm.trans (find_born h.set.once he),?_⟩⟩
 · cases hl:es.toList with
   | nil => right; left; rw [Array.isEmpty_iff]; exact Array.toList_inj.1 (by rw [hl])
   | cons x l => right; right; exact ⟨x,List.mem_cons_self,h.set.born x (by rw [hl]; exact List.mem_cons_self)⟩
 · have:Value.int .i64 l ∈ es.toList.map (·.key):=by rw [h.set.keys]; exact List.mem_map_of_mem hl
   rw [List.mem_map] at this
   obtain ⟨e,he,hk⟩:=this
   exact (h.vse e he l hk).1 (hall e he)
 · unfold PH.set; rw [if_pos rfl]
 · unfold PH.set; rw [if_neg h.ne.symm]; exact h.map
 · obtain ⟨n,hn⟩:=h.set.ints e he
   have hnk:n ∈ ks:=by
     have:e.key ∈ es.toList.map (·.key):=List.mem_map_of_mem he
     rw [h.set.keys,List.mem_map,hn] at this
     obtain ⟨q,hq,e1⟩:=this
     cases e1; exact hq
   have hnv:n ∉ vis:=by
     intro hv
     have:=(h.vse e he n hn).2 hv
     rw [hs] at this; cases this
   refine ⟨n,hn,hnext n hnk hnv e ⟨by unfold PH.set; rw [if_pos rfl],by unfold PH.set; rw [if_neg h.ne.symm]; exact h.map,h.set,?_,List.nodup_cons.2 ⟨hnv,h.vnd⟩,?_⟩⟩
   · intro l hl
     rcases List.mem_cons.1 hl with rfl | hl
     · exact hnk
     · exact h.vsub l hl
   · intro e' he' n' hn'
     rw [Array.contains_push,Bool.or_eq_true,h.vse e' he' n' hn',List.mem_cons]
     constructor
     · rintro (h1 | h1)
       · exact .inr h1
       · have h2:e'.born=e.born:=by simpa using h1
         have:=h.set.key_inj he' he h2
         subst this
         rw [hn] at hn'
         cases hn'
         exact .inl rfl
     · rintro (h1 | h1)
       · subst h1
         have:=h.set.key_inj' he' he (hn'.trans hn.symm)
         subst this
         exact .inr (by simp)
       · exact .inl h1
theorem IterAt.start {σ:PH} {b m:Nat} {es:Array MapEntry} {ck:Nat} {ks:List Int} (hm:σ m=some (.map es ck)) (h:MSet es ck ks) (hb:σ b=none):IterAt (σ.set b (.mapIter (some m) ck #[] ck)) b m es ck ks #[] []:=by
 refine ⟨by unfold PH.set; rw [if_pos rfl],?_,h,by simp,by simp,by simp⟩
 unfold PH.set
 rw [if_neg (by rintro rfl; rw [hb] at hm; cases hm)]
 exact hm
theorem iloopS_ind {L:Type} {S:(L→PH→Prop)→L→PH→Prop} (I:Nat→L→PH→Prop) (h:∀ n x σ,I n x σ→∀ R:L→PH→Prop,(∀ m y τ,m < n→I m y τ→R y τ)→S R x σ) {n:Nat} {x:L} {σ:PH} (h0:I n x σ):iloopS S x σ:=by
 intro R hR
 have:∀ n x σ,I n x σ→R x σ:=by
   intro n
   induction n using Nat.strongRecOn with
   | _ n ih => intro x σ hI; exact hR _ _ (h n x σ hI R fun m y τ hlt hI' => ih m hlt y τ hI')
 exact this n x σ h0
theorem sub_len {a b:List Int} (hn:a.Nodup) (h:∀ x ∈ a,x ∈ b):a.length≤b.length:=List.Nodup.length_le_of_subset hn h
theorem count_same {a b:List Int} (hn:a.Nodup) (hb:b.Nodup) (h:∀ x,x ∈ a ↔ x ∈ b) (p:Int→Bool):a.countP p=b.countP p:=((List.perm_ext_iff_of_nodup hn hb).2 h).countP_eq p
end Go.Sl
namespace Go.Proofs.Ythfnjogadngfiaa
open Go.Sl Go.Sv
theorem sub_set_new {σ υ:PH} {b:Nat} {o:Obj} (hs:σ.sub υ) (hb:σ b=none):σ.sub (υ.set b o):=by
 intro c o' hc
 unfold PH.set
 rw [if_neg (by rintro rfl; rw [hb] at hc; cases hc)]
 exact hs c o' hc
theorem r92 {σ:PH} {T:Nat→Tag} {s:Nat} {ff:List Value} {st:St} (h:Rep σ T s ff st) {m:Nat} {es:Array MapEntry} {ck:Nat} {ks:List Int} (hm:σ m=some (.map es ck)) (hs:MSet es ck ks)
   (hl:∀ l ∈ ks,Lit l∧l ≠ 0∧vr l < st.level.length) (hn:ks.length≤1000000) (lev:Nat) :
   C 92 #[.pointer (some (ptr s)),.map (some m),.int .i64 lev] (fun v τ => v=.int .i64 (ks.countP fun l => lv st.level l == lev)∧σ.sub τ) σ:=by
 obtain ⟨g,H,hff,A⟩:=h
 refine go (E92_0 _ _ _ _ _ _) ?_
 unfold S92_0
 refine ⟨m,rfl,es,ck,hm,fun b hbn => ?_⟩
 unfold S92_1
 refine iloopS_ind (fun k x υ => ∃ (vis:List Int) (seen:Array Nat),k=ks.length - vis.length∧x=(some (ptr s),(lev:Int),((vis.countP fun l => lv st.level l == lev:Nat):Int),ptr b)∧σ.sub υ∧IterAt υ b m es ck ks seen vis) ?_
   (n:=ks.length) ⟨[],#[],rfl,rfl,PH.sub_set hbn,IterAt.start hm hs hbn⟩
 rintro k x υ ⟨vis,seen,rfl,rfl,hsub,it⟩ R hR
 unfold S92_2
 dsimp only
 have hvl:=sub_len it.vnd it.vsub
 refine it.rule (fun hall => ⟨?_,hsub⟩) fun n hn1 hn2 e it' => ?_
 · rw [count_same it.vnd hs.nodup fun x => ⟨it.vsub x,hall x⟩]
 · obtain ⟨l1,l2,l3⟩:=hl n hn1
   have hsub':σ.sub (υ.set b (.mapIter (some m) ck (seen.push e.born) ck)):=sub_set_new hsub hbn
   have hvl':=sub_len it'.vnd it'.vsub
   rw [List.length_cons] at hvl'
   have hO:=(H.fld 9 3 1 rfl).1
   obtain ⟨p,hp,hc⟩:=hO.get (i:=vr n) (v:=.int .i64 (lv st.level n)) (by rw [A.level]; unfold lv; simp [nats,l3])
   have hi:0≤idx n / 2:=by rw [idx_half l2]; omega
   have n9:=H.n9 A
   refine ⟨_,[],_,rfl,_,hsub'.cell (H.field (k:=9) rfl),_,_,_,rfl,quiet74 l1 l2 _,p,hp,hi,by rw [idx_half l2]; omega,_,by rw [idx_toNat l2,Nat.mul_one]; exact hsub'.cell hc,_,rfl,?_⟩
   have cnt:((n :: vis).countP fun l => lv st.level l == lev)=(vis.countP fun l => lv st.level l == lev) + if (lv st.level n == lev)=true then 1 else 0:=List.countP_cons
   refine br_iff.2 ⟨fun h1 => ?_,fun h1 => ?_⟩
   · have h2:(lv st.level n == lev)=true:=by simp at h1 ⊢; omega
     rw [if_pos h2] at cnt
     rw [wnat (by have:=List.countP_le_length (p:=fun l => lv st.level l == lev) (l:=vis); omega),← cnt]
     exact hR _ _ _ (by rw [List.length_cons]; omega) ⟨n :: vis,_,rfl,rfl,hsub',it'⟩
   · have h2:¬ (lv st.level n == lev)=true:=by simp at h1 ⊢; omega
     rw [if_neg h2,Nat.add_zero] at cnt
     rw [← cnt]
     exact hR _ _ _ (by rw [List.length_cons]; omega) ⟨n :: vis,_,rfl,rfl,hsub',it'⟩
theorem Abs.setAct {g:Low} {st:St} (a:Abs g st) (i f:Nat):Abs (g.setV 14 ((g.V 14).set i (.float .f64 f))) st:=by
 refine ⟨a.steps,a.clauses,a.W,a.value,a.level,a.why,a.trail,a.limits,a.head,?_,a.empty,a.units,a.R⟩
 obtain ⟨fl,h1,h2⟩:=a.act
 exact ⟨fl.set i f,by show (g.V 14).set _ _=_; rw [h1,List.map_set],by rw [List.length_set]; exact h2⟩
theorem Abs.setBump {g:Low} {st:St} (a:Abs g st) (n:Nat):Abs { g with bump:=n } st:=⟨a.steps,a.clauses,a.W,a.value,a.level,a.why,a.trail,a.limits,a.head,a.act,a.empty,a.units,a.R⟩
theorem Sol.actAt {σ:PH} {T:Nat→Tag} {s:Nat} {g:Low} (H:Sol σ T s g) {st:St} (A:Abs g st) {i:Nat} (hi:i < st.value.length):∃ p f,(g.F 14).a=some p∧σ.cell? (p.add i)=some (.float .f64 f):=by
 obtain ⟨fl,h1,h2⟩:=A.act
 obtain ⟨p,hp,hc⟩:=(H.fld 14 83 1 rfl).1.get (i:=i) (v:=.float .f64 (fl[i]'(by omega))) (by rw [h1]; simp [h2,hi])
 exact ⟨p,_,hp,hc⟩
theorem r93 {σ:PH} {T:Nat→Tag} {s:Nat} {ff:List Value} {st:St} (h:Rep σ T s ff st) {x:Int} (hl:Lit x) (h0:x ≠ 0) (hv:vr x < st.value.length) (hn:st.value.length≤1000000) :
   C 93 #[.pointer (some (ptr s)),.int .i64 x] (fun v τ => v=.tuple #[]∧∃ T',Did σ T τ T'∧Rep τ T' s ff st) σ:=by
 obtain ⟨g,H,hff,A⟩:=h
 have n14:=H.n14 A
 have l14:=H.len (k:=14) rfl
 refine go (E93_0 _ _ _ _ _) ?_
 unfold S93_0
 have hi:0≤idx x / 2:=by rw [idx_half h0]; omega
 have hi':idx x / 2 < (((g.F 14).n:Nat):Int):=by rw [idx_half h0]; omega
 obtain ⟨p,f,hp,hc⟩:=H.actAt A hv
 obtain ⟨p',hp',hu,hf,hset⟩:=H.setAt (k:=14) rfl (by decide) (i:=vr x) (by omega)
 obtain rfl:p=p':=Option.some.inj (hp.symm.trans hp')
 simp only [Nat.mul_one,idx_toNat h0]
 refine ⟨_,[],_,rfl,_,H.field (k:=14) rfl,_,_,_,rfl,quiet74 hl h0 _,p,hp,hi,hi',_,by rw [idx_toNat h0]; exact hc,_,rfl,_,rfl,_,H.blk.get (cellsOf_15 H.ff),_,rfl,fun f1 => ?_⟩
 obtain ⟨H1,D1⟩:=hset (.float .f64 f1)
 have A1:=A.setAct (vr x) f1
 refine ⟨p,hp,hi,hi',by rw [idx_toNat h0]; exact hu,by rw [idx_toNat h0]; exact hf,?_⟩
 rw [idx_toNat h0]
 refine ⟨_,rfl,_,H1.blk.get (cellsOf_15 H1.ff),_,rfl,fun f2 => ?_⟩
 obtain ⟨H2,D2⟩:=H1.setBump f2
 have A2:=A1.setBump f2
 refine ⟨_,rfl,⟨_,H1.blk.get (cellsOf_15 H1.ff)⟩,H1.blk.froz 15,_,rfl,_,H2.blk.get (cellsOf_15 H2.ff),_,rfl,fun f3 => br_iff.2 ⟨fun _ => ?_,fun _ => ⟨trivial,T,D1.trans D2,_,H2,hff,A2⟩⟩⟩
 refine ⟨_,rfl,_,H2.field (k:=14) rfl,_,_,_,rfl,?_⟩
 unfold S93_1
 refine iloopS_for (G:=Low) (fun k _ => (some (ptr s),(((g.F 14).n:Nat):Int),(k:Int))) (fun k g' υ => Did σ T υ T∧Sol υ T s g'∧g'.ff=ff∧Abs g' st∧(g'.F 14).n=(g.F 14).n) (g.F 14).n ?_ (g:=_) ⟨D1.trans D2,H2,hff,A2,rfl⟩
 rintro k g' υ hk ⟨D,H',hff',A',hn'⟩ R hR
 unfold S93_2
 dsimp only
 simp only [Nat.mul_one]
 refine br_dec.2 ⟨fun hlt => ?_,fun hge => ?_⟩
 · have hkn:k < st.value.length:=by omega
   obtain ⟨q,f,hq,hqc⟩:=H'.actAt A' hkn
   have l14':=H'.len (k:=14) rfl
   obtain ⟨q',hq',hu',hf',hset'⟩:=H'.setAt (k:=14) rfl (by decide) (i:=k) (by omega)
   obtain rfl:q=q':=Option.some.inj (hq.symm.trans hq')
   refine ⟨_,rfl,_,H'.field (k:=14) rfl,_,_,_,rfl,q,hq,by omega,by omega,_,hqc,_,rfl,fun f4 => ⟨q,hq,by omega,by omega,hu',hf',?_⟩⟩
   obtain ⟨H3,D3⟩:=hset' (.float .f64 f4)
   rw [wnat (by omega)]
   exact hR _ _ (by omega) ⟨D.trans D3,H3,hff',A'.setAct k f4,hn'⟩
 · refine ⟨_,rfl,_,H'.blk.get (cellsOf_15 H'.ff),_,rfl,fun f5 => ⟨_,rfl,⟨_,H'.blk.get (cellsOf_15 H'.ff)⟩,H'.blk.froz 15,trivial,?_⟩⟩
   obtain ⟨H3,D3⟩:=H'.setBump f5
   exact ⟨T,D.trans D3,_,H3,hff',A'.setBump f5⟩
def oth (σ:PH) (T:Nat→Tag):PH:=fun b => if T b=.other then σ b else none
theorem oth_sub (σ:PH) (T:Nat→Tag):(oth σ T).sub σ:=by
 intro b o h
 unfold oth at h
 split at h
 · exact h
 · cases h
theorem Did.oth {σ τ:PH} {T T':Nat→Tag} (h:Did σ T τ T'):(oth σ T).sub (oth τ T'):=by
 intro b o hb
 unfold Go.Proofs.Ythfnjogadngfiaa.oth at hb ⊢
 split at hb
 · rename_i ht
   rw [if_pos ((h.tags b (by rw [hb]; simp)).trans ht)]
   exact h.step.same b o hb (by rw [ht]; simp)
 · cases hb
def Atoms (σ:PH) (a:Option Addr) (n:Nat) (l:List (Int × Int × Int)):Prop :=
 l.length=n∧∀ i (d:Int × Int × Int),l[i]?=some d→∃ p,a=some p∧σ.cell? (p.add (i * 3))=some (.int .i64 d.1)∧σ.cell? ((p.add (i * 3)).add 1)=some (.int .i64 d.2.1)∧σ.cell? ((p.add (i * 3)).add 2)=some (.int .i64 d.2.2)
theorem Atoms.sub {σ τ:PH} (h:σ.sub τ) {a:Option Addr} {n:Nat} {l:List (Int × Int × Int)} (hr:Atoms σ a n l):Atoms τ a n l :=
 ⟨hr.1,fun i d hd => let ⟨p,h1,h2,h3,h4⟩:=hr.2 i d hd; ⟨p,h1,h.cell h2,h.cell h3,h.cell h4⟩⟩
def Lists (σ:PH) (a:Option Addr) (n:Nat) (l:List (List Int)):Prop :=
 l.length=n∧∀ i (c:List Int),l[i]?=some c→∃ p x m k,a=some p∧σ.cell? (p.add i)=some (.slice x m k)∧Ints σ x m c∧m≤k
theorem Lists.sub {σ τ:PH} (h:σ.sub τ) {a:Option Addr} {n:Nat} {l:List (List Int)} (hr:Lists σ a n l):Lists τ a n l :=
 ⟨hr.1,fun i d hd => let ⟨p,x,m,k,h1,h2,h3,h4⟩:=hr.2 i d hd; ⟨p,x,m,k,h1,h.cell h2,h3.sub h,h4⟩⟩
def Frm (σ:PH) (ff:List Value) (F:Fm):Prop :=
 ∃ aa an ac ca cn cc,ff=[.int .i64 F.ints,.int .i64 F.bools,.slice aa an ac,.slice ca cn cc]∧Atoms σ aa an F.atoms∧Lists σ ca cn F.clauses∧an≤ac∧cn≤cc
theorem Frm.sub {σ τ:PH} (h:σ.sub τ) {ff:List Value} {F:Fm} (hf:Frm σ ff F):Frm τ ff F:=by
 obtain ⟨aa,an,ac,ca,cn,cc,h1,h2,h3,h4,h5⟩:=hf
 exact ⟨aa,an,ac,ca,cn,cc,h1,h2.sub h,h3.sub h,h4,h5⟩
theorem cellsOf_ff {g:Low} {v0 v1 v2 v3:Value} (h:g.ff=[v0,v1,v2,v3]):(cellsOf g)[0]?=some v0∧(cellsOf g)[1]?=some v1∧(cellsOf g)[2]?=some v2∧(cellsOf g)[3]?=some v3:=by
 unfold cellsOf; rw [h]; exact ⟨rfl,rfl,rfl,rfl⟩
theorem r53 {σ:PH} {T:Nat→Tag} {s:Nat} {ff:List Value} {st:St} (h:Rep σ T s ff st) {x:Int} (hl:Lit x) (hv:∀ y ∈ st.value,Lit y) :
   C 53 #[.pointer (some (ptr s)),.int .i64 x] (fun v τ => v=.int .i64 (valS st.value x)∧τ=σ) σ:=by
 obtain ⟨g,H,hff,A⟩:=h
 refine go (E53_0 _ _ _ _ _) ?_
 unfold S53_0
 refine ⟨_,rfl,_,H.field (k:=8) rfl,_,_,_,rfl,?_⟩
 refine (c43 hl (l:=st.value) ⟨(H.n8 A).symm,?_⟩ hv).mono hb ?_
 · rcases (H.fld 8 3 1 rfl).1.row with h' | ⟨b,arr,h1,h2⟩
   · left
     have:=(H.fld 8 3 1 rfl).1.le
     have h8:=H.n8 A
     have:st.value.length=0:=by omega
     rw [List.length_eq_zero_iff.1 this]; rfl
   · right
     refine ⟨_,h1,fun i v hv' => ?_⟩
     obtain ⟨p,hp,hc⟩:=(H.fld 8 3 1 rfl).1.get (i:=i) (v:=v) (by rw [A.value]; exact hv')
     rw [h1] at hp
     cases hp
     exact hc
 · rintro _ τ ⟨rfl,rfl⟩
   exact ⟨_,PH.sub.refl _,_,rfl,rfl,rfl⟩
theorem r79 {σ:PH} {T:Nat→Tag} {s:Nat} {ff:List Value} {st:St} (h:Rep σ T s ff st) {F:Fm} (hF:Frm (oth σ T) ff F) (hn:st.value.length≤1000000) :
   C 79 #[.pointer (some (ptr s))] (fun v τ => τ=σ∧∃ x,v=.int .i64 x∧((x=0∧∀ i,i < st.value.length→st.value[i]? ≠ some 0) ∨ (LitN st.value.length x∧st.value[vr x]?=some 0))) σ:=by
 obtain ⟨g,H,hff,A⟩:=h
 have n8:=H.n8 A
 have n14:=H.n14 A
 refine go (E79_0 _ _ _ _) ?_
 unfold S79_0
 refine ⟨_,rfl,_,H.field (k:=8) rfl,_,_,_,rfl,?_⟩
 unfold S79_1
 refine iloopS_for (G:=Int) (fun k best => (some (ptr s),best,(g.F 8).a,(g.F 8).n,(g.F 8).c,(((g.F 8).n:Nat):Int),(k:Int)))
   (fun k best υ => υ=σ∧((best=-1∧∀ i,i < k→st.value[i]? ≠ some 0) ∨ (0≤best∧best < k∧st.value[best.toNat]?=some 0))) (g.F 8).n ?_ (g:=-1) ⟨rfl,.inl ⟨rfl,fun i hi => by omega⟩⟩
 rintro k best υ hk ⟨rfl,hI⟩ R hR
 unfold S79_2
 dsimp only
 simp only [Nat.mul_one]
 refine br_dec.2 ⟨fun hlt => ?_,fun hge => ?_⟩
 · have hkn:k < st.value.length:=by omega
   obtain ⟨p,hp,hc⟩:=(H.fld 8 3 1 rfl).1.get (i:=k) (v:=.int .i64 st.value[k]) (by rw [A.value]; simp [ints,hkn])
   refine ⟨p,hp,by omega,by omega,_,hc,_,rfl,?_⟩
   rw [wnat (by omega)]
   have hsk:st.value[k]?=some st.value[k]:=List.getElem?_eq_getElem hkn
   refine br_iff.2 ⟨fun h0 => ?_,fun h0 => ?_⟩
   · have h0:st.value[k]=0:=by simpa using h0
     have here:υ=υ∧((((k:Nat):Int)=-1∧∀ i,i < k + 1→st.value[i]? ≠ some 0) ∨ (0≤((k:Nat):Int)∧((k:Nat):Int) < ((k + 1:Nat):Int)∧st.value[((k:Nat):Int).toNat]?=some 0)) :=
       ⟨rfl,.inr ⟨by omega,by omega,by rw [Int.toNat_natCast,hsk,h0]⟩⟩
     refine br_dec.2 ⟨fun hb => hR _ _ (by omega) here,fun hb => ?_⟩
     rcases hI with ⟨h1,_⟩ | ⟨h1,h2,h3⟩
     · omega
     · obtain ⟨q,f,hq,hqc⟩:=H.actAt A hkn
       obtain ⟨q',f',hq',hqc'⟩:=H.actAt A (i:=best.toNat) (by omega)
       refine ⟨_,rfl,_,H.field (k:=14) rfl,_,_,_,rfl,q,hq,by omega,by omega,_,hqc,_,rfl,_,rfl,_,H.field (k:=14) rfl,_,_,_,rfl,q',hq',by omega,by omega,_,hqc',_,rfl,fun c => br_iff.2 ⟨fun _ => hR _ _ (by omega) here,fun _ => hR _ _ (by omega) ⟨rfl,.inr ⟨h1,by omega,h3⟩⟩⟩⟩
   · refine hR _ _ (by omega) ⟨rfl,?_⟩
     rcases hI with ⟨h1,h2⟩ | ⟨h1,h2,h3⟩
     · refine .inl ⟨h1,fun i hi => ?_⟩
       by_cases e:i=k
       · subst e
         rw [hsk]
         intro e
         rw [Option.some.inj e] at h0
         simp at h0
       · exact h2 i (by omega)
     · exact .inr ⟨h1,by omega,h3⟩
 · have hkn:k=st.value.length:=by omega
   subst hkn
   obtain ⟨aa,an,ac,ca,cn,cc,e,ha,_,_,_⟩:=hF
   have c2:=(cellsOf_ff (hff.trans e)).2.2.1
   refine br_dec.2 ⟨fun hb => ⟨trivial,_,rfl,?_⟩,fun hb => ?_⟩
   · rcases hI with ⟨h1,h2⟩ | ⟨h1,h2,h3⟩
     · exact .inl ⟨rfl,h2⟩
     · omega
   · rcases hI with ⟨h1,_⟩ | ⟨h1,h2,h3⟩
     · omega
     · have pos:LitN st.value.length (best + 1)∧st.value[vr (best + 1)]?=some 0:=⟨⟨by omega,by omega⟩,by rw [show vr (best + 1)=best.toNat from by unfold vr; omega]; exact h3⟩
       have neg:LitN st.value.length (0 - best - 1)∧st.value[vr (0 - best - 1)]?=some 0:=⟨⟨by omega,by omega⟩,by rw [show vr (0 - best - 1)=best.toNat from by unfold vr; omega]; exact h3⟩
       have wneg:IntKind.wrap .i64 (IntKind.wrap .i64 (0 - best) - 1)=0 - best - 1:=by rw [w64 (n:=0 - best) (by omega) (by omega),w64 (by omega) (by omega)]
       rw [wneg]
       refine ⟨_,rfl,_,H.blk.get c2,_,_,_,rfl,br_dec.2 ⟨fun hlt => ?_,fun _ => ⟨trivial,_,rfl,.inr neg⟩⟩⟩
       have hbl:best.toNat < F.atoms.length:=by have:=ha.1; omega
       obtain ⟨p,hp,q1,q2,q3⟩:=ha.2 best.toNat _ (List.getElem?_eq_getElem hbl)
       refine ⟨_,rfl,_,H.blk.get c2,_,_,_,rfl,p,hp,h1,hlt,_,(oth_sub _ _).cell q1,_,rfl,_,rfl,_,H.blk.get c2,_,_,_,rfl,p,hp,h1,hlt,_,(oth_sub _ _).cell q2,_,rfl,br_dec.2 ⟨fun _ => ⟨trivial,_,rfl,.inr ?_⟩,fun _ => ⟨trivial,_,rfl,.inr neg⟩⟩⟩
       rw [w64 (by omega) (by omega)]
       exact pos
end Go.Proofs.Ythfnjogadngfiaa
namespace Go.Sl
theorem newSet {σ:PH} {b i:Nat} {arr:Array Value} {e:TypeId} {f:Nat × Nat} {v:Value}:PH.setCell (PH.set σ b (.cells arr e f)) ((⟨b,0,none⟩:Addr).add i) v=PH.set σ b (.cells (arr.setIfInBounds i v) e f):=by
 rw [add_off,Nat.zero_add]
 funext x
 unfold PH.setCell PH.set
 dsimp only
 by_cases h:x=b
 · rw [if_pos h,if_pos h,if_pos h]; rfl
 · rw [if_neg h,if_neg h,if_neg h]
theorem newSet0 {σ:PH} {b:Nat} {arr:Array Value} {e:TypeId} {f:Nat × Nat} {v:Value}:PH.setCell (PH.set σ b (.cells arr e f)) (⟨b,0,none⟩:Addr) v=PH.set σ b (.cells (arr.setIfInBounds 0 v) e f):=newSet (i:=0)
theorem newCell {σ:PH} {b i:Nat} {arr:Array Value} {e:TypeId} {f:Nat × Nat}:PH.cell? (PH.set σ b (.cells arr e f)) ((⟨b,0,none⟩:Addr).add i)=arr[i]?:=by
 rw [add_off,Nat.zero_add]
 unfold PH.cell? PH.set
 simp
theorem newCell0 {σ:PH} {b:Nat} {arr:Array Value} {e:TypeId} {f:Nat × Nat}:PH.cell? (PH.set σ b (.cells arr e f)) (⟨b,0,none⟩:Addr)=arr[0]?:=newCell (i:=0)
theorem newFroz {σ:PH} {b i:Nat} {arr:Array Value} {e:TypeId}:PH.froz (PH.set σ b (.cells arr e (0,0))) ((⟨b,0,none⟩:Addr).add i)=some false:=by
 rw [add_off]; unfold PH.froz PH.set; simp
theorem newFroz0 {σ:PH} {b:Nat} {arr:Array Value} {e:TypeId}:PH.froz (PH.set σ b (.cells arr e (0,0))) (⟨b,0,none⟩:Addr)=some false:=newFroz (i:=0)
theorem set_set {σ:PH} {b:Nat} {o o':Obj}:PH.set (PH.set σ b o) b o'=PH.set σ b o':=by
 funext x; unfold PH.set; split <;> rfl
theorem set_self {σ:PH} {b:Nat} {o:Obj}:(PH.set σ b o) b=some o:=by unfold PH.set; rw [if_pos rfl]
theorem set_other {σ:PH} {b c:Nat} {o:Obj} (h:c ≠ b):(PH.set σ b o) c=σ c:=by unfold PH.set; rw [if_neg h]
end Go.Sl
namespace Go.Sv
def St.resolved (st:St) (r:Nat) (rc:RC) (step:Int) (x:Int):St :=
 (st.derive r rc).step (if x < 0 then pRes (st.stepOf rc) step (vr x) else pRes step (st.stepOf rc) (vr x))
end Go.Sv
namespace Go.Proofs.Ythfnjogadngfiaa
open Go.Sl Go.Sv
structure DidX (X:Nat→Prop) (σ:PH) (T:Nat→Tag) (τ:PH) (T':Nat→Tag):Prop where
 step:Step (fun b => T b ≠ .other ∨ X b) σ τ
 tags:∀ b,σ b ≠ none→T' b=T b
theorem Did.x {X:Nat→Prop} {σ τ:PH} {T T':Nat→Tag} (h:Did σ T τ T'):DidX X σ T τ T':=⟨h.step.weaken fun _ h => .inl h,h.tags⟩
theorem DidX.refl {X:Nat→Prop} (σ:PH) (T:Nat→Tag):DidX X σ T σ T:=⟨.refl _,fun _ _ => rfl⟩
theorem DidX.trans {X:Nat→Prop} {σ τ υ:PH} {T T' T'':Nat→Tag} (h:DidX X σ T τ T') (h':DidX X τ T' υ T''):DidX X σ T υ T'':=by
 refine ⟨⟨fun b o hb hm => ?_,fun b hb => h'.step.dom b (h.step.dom b hb)⟩,fun b hb => (h'.tags b (h.step.dom b hb)).trans (h.tags b hb)⟩
 refine h'.step.same b o (h.step.same b o hb hm) ?_
 rw [h.tags b (by rw [hb]; simp)]
 exact hm
theorem Did.of_x {X:Nat→Prop} {σ τ υ:PH} {T T' T'':Nat→Tag} (h:Did σ T τ T') (h':DidX X τ T' υ T'') (hx:∀ b,X b→σ b=none):Did σ T υ T'':=by
 refine ⟨⟨fun b o hb hm => ?_,fun b hb => h'.step.dom b (h.step.dom b hb)⟩,fun b hb => (h'.tags b (h.step.dom b hb)).trans (h.tags b hb)⟩
 refine h'.step.same b o (h.step.same b o hb hm) ?_
 rw [h.tags b (by rw [hb]; simp)]
 rintro (h1 | h1)
 · exact hm h1
 · rw [hx b h1] at hb; cases hb
theorem Did.none {σ τ:PH} {T T':Nat→Tag} (h:Did σ T τ T') {b:Nat} (hb:τ b=none):σ b=none:=by
 cases hs:σ b with
 | none => rfl
 | some o => exact absurd hb (h.step.dom b (by rw [hs]; simp))
theorem Rep.setOther {σ:PH} {T:Nat→Tag} {s:Nat} {ff:List Value} {st:St} (h:Rep σ T s ff st) {m:Nat} (hm:T m=.other) (o:Obj):Rep (σ.set m o) T s ff st∧DidX (·=m) σ T (σ.set m o) T:=by
 obtain ⟨g,H,hff,A⟩:=h
 refine ⟨⟨g,H.keep (M:=(·=m)) set_step (fun b hb => ?_),hff,A⟩,set_step.weaken fun b hb => .inr hb,fun _ _ => rfl⟩
 rintro rfl
 exact hb hm
theorem idx_ne {x y:Int} (hx:x ≠ 0) (hy:y ≠ 0):(idx x / 2 != idx y / 2)=(vr x != vr y):=by
 rw [idx_half hx,idx_half hy]
 by_cases h:vr x=vr y
 · rw [h]; simp
 · have:((vr x:Nat):Int) ≠ ((vr y:Nat):Int):=by omega
   rw [bne_iff_ne.2 this,bne_iff_ne.2 h]
theorem r77 {σ:PH} {T:Nat→Tag} {s:Nat} {ff:List Value} {st:St} (h:Rep σ T s ff st) {m:Nat} {es:Array MapEntry} {ck:Nat} {ks:List Int} (hm:σ m=some (.map es ck)) (htm:T m=.other) (hs:MSet es ck ks)
   (step:Int) {x:Int} (hl:Lit x) (h0:x ≠ 0) {r:Nat} (hr:st.why[vr x]?=some (some r)) {rc:RC} (hrc:st.R r=some rc) (hls:∀ l ∈ rc.lits,Lit l∧l ≠ 0) (hln:rc.lits.length≤1000000) (hn:st.steps.length≤3500000000000 - 1) :
   C 77 #[.pointer (some (ptr s)),.map (some m),.int .i64 step,.int .i64 x] (fun v τ => v=.int .i64 ((st.derive r rc).steps.length:Nat)∧∃ T' es' ck' ks',DidX (·=m) σ T τ T'∧Rep τ T' s ff (st.resolved r rc step x) ∧
     τ m=some (.map es' ck')∧MSet es' ck' ks'∧∀ l,l ∈ ks' ↔ (l ∈ ks∧l ≠ x) ∨ (l ∈ rc.lits∧vr l ≠ vr x)) σ:=by
 have h':=h
 obtain ⟨g,H,hff,A⟩:=h
 have n10:=H.n10 A
 have hvw:vr x < st.why.length:=(List.getElem?_eq_some_iff.1 hr).1
 refine go (E77_0 _ _ _ _ _ _ _) ?_
 unfold S77_0
 obtain ⟨p,hp,hc⟩:=(H.fld 10 84 1 rfl).1.get (i:=vr x) (v:=.pointer (some (ptr r))) (by rw [A.why]; simp [optrs,hr])
 have hi:0≤idx x / 2:=by rw [idx_half h0]; omega
 refine ⟨_,[],_,rfl,_,H.field (k:=10) rfl,_,_,_,rfl,quiet74 hl h0 _,p,hp,hi,by rw [idx_half h0]; omega,_,by rw [idx_toNat h0,Nat.mul_one]; exact hc,_,rfl,?_⟩
 refine (r76 h' hrc (by omega)).mono hb ?_
 rintro _ υ1 ⟨rfl,T1,D1,R1⟩
 refine ⟨υ1,PH.sub.refl _,_,rfl,?_⟩
 refine (c74 hl h0 υ1).mono hb ?_
 rintro _ υ2 ⟨rfl,rfl⟩
 refine ⟨υ2,PH.sub.refl _,_,rfl,fun b hbn => ?_⟩
 have hm1:υ2 m=some (.map es ck):=D1.step.same m _ hm (by rw [htm]; simp)
 have ht1:T1 m=.other:=(D1.tags m (by rw [hm]; simp)).trans htm
 have hbm:b ≠ m:=by rintro rfl; rw [hbn] at hm1; cases hm1
 obtain ⟨y,hy,ey1,ey2,ey3⟩:∃ y,(st.derive r rc).R r=some y∧y.lits=rc.lits∧True∧True:=by
   unfold St.derive
   split
   · exact ⟨_,if_pos rfl,rfl,trivial,trivial⟩
   · exact ⟨_,hrc,rfl,trivial,trivial⟩
 simp only [newSet,newSet0,newCell,newCell0,newFroz,newFroz0,List.setIfInBounds_toArray,List.set_cons_zero,List.set_cons_succ,List.getElem?_toArray,List.getElem?_cons_zero,List.getElem?_cons_succ,Option.some.injEq,exists_eq',true_and,Value.int.injEq,exists_eq_left',br_dec]
 have tail:∀ pp qq:Int,(pRes pp qq (vr x)=if x < 0 then pRes (st.stepOf rc) step (vr x) else pRes step (st.stepOf rc) (vr x)) →
     S77_1 C (fun v τ => v=.int .i64 ((st.derive r rc).steps.length:Nat)∧∃ T' es' ck' ks',DidX (·=m) σ T τ T'∧Rep τ T' s ff (st.resolved r rc step x) ∧
     τ m=some (.map es' ck')∧MSet es' ck' ks'∧∀ l,l ∈ ks' ↔ (l ∈ ks∧l ≠ x) ∨ (l ∈ rc.lits∧vr l ≠ vr x)) (some (ptr s)) (some m) x (some (ptr r)) ⟨b,0,none⟩
     (υ2.set b (.cells #[.int .i64 3,.int .i64 0,.slice none 0 0,.int .i64 pp,.int .i64 qq,.int .i64 (idx x / 2)] 95)):=by
   intro pp qq hpq
   obtain ⟨T2,R2,D2,hT2⟩:=R1.grow (PH.sub_set (o:=.cells #[.int .i64 3,.int .i64 0,.slice none 0 0,.int .i64 pp,.int .i64 qq,.int .i64 (idx x / 2)] 95) hbn)
   have hm2:(υ2.set b (.cells #[.int .i64 3,.int .i64 0,.slice none 0 0,.int .i64 pp,.int .i64 qq,.int .i64 (idx x / 2)] 95)) m=some (.map es ck):=by rw [set_other hbm.symm]; exact hm1
   have ht2:T2 m=.other:=(D2.tags m (by rw [hm1]; simp)).trans ht1
   generalize hυ:(υ2.set b (.cells #[.int .i64 3,.int .i64 0,.slice none 0 0,.int .i64 pp,.int .i64 qq,.int .i64 (idx x / 2)] 95))=υ at *
   have hstr:υ b=some (.cells #[.int .i64 3,.int .i64 0,.slice none 0 0,.int .i64 pp,.int .i64 qq,.int .i64 (idx x / 2)] 95):=by rw [← hυ]; exact set_self
   have D12:=D1.trans D2
   unfold S77_1
   obtain ⟨es1,ck1,e1,ms1⟩:=hs.del x
   rw [← hυ] at hm2
   refine ⟨m,rfl,es,ck,by rw [hυ] at hm2; exact hm2,hs.ints,?_⟩
   rw [hυ] at hm2
   rw [e1]
   obtain ⟨R3,D3⟩:=R2.setOther ht2 (.map es1 ck1)
   have R3':=R3
   obtain ⟨g3,H3,hff3,A3⟩:=R3
   obtain ⟨z,hz,ez1,_,_⟩:=A3.R_of hy
   have B3:=H3.rblk r z hz
   have hO3:=(H3.rl r z hz).1
   have hzl:z.lits=rc.lits:=ez1.trans ey1
   have hzn:=hO3.len
   rw [hzl] at hzn
   simp only [ints,List.length_map,Nat.mul_one] at hzn
   have e0:(Addr.mk r 0 none).add 0=⟨r,0,none⟩:=rfl
   refine ⟨_,rfl,_,e0 ▸ B3.get (i:=0) rfl,_,_,_,rfl,?_⟩
   unfold S77_2
   have memX:∀ l,l ∈ ks.erase x ↔ l ∈ ks∧l ≠ x:=by
     intro l; rw [hs.nodup.mem_erase_iff]; exact And.comm
   refine iloopS_for (G:=Unit) (fun k _ => (some (ptr s),some m,x,ptr b,z.l.a,z.l.n,z.l.c,((z.l.n:Nat):Int),(k:Int)))
     (fun k _ ω => ∃ es' ck' ks',ω=υ.set m (.map es' ck')∧MSet es' ck' ks'∧∀ l,l ∈ ks' ↔ (l ∈ ks∧l ≠ x) ∨ (l ∈ rc.lits.take k∧vr l ≠ vr x)) z.l.n ?_ (g:=()) ⟨es1,ck1,_,rfl,ms1,fun l => by rw [memX]; simp⟩
   rintro k _ ω hk ⟨es',ck',ks',rfl,ms,hmem⟩ Q hQ
   unfold S77_3
   dsimp only
   simp only [Nat.mul_one]
   obtain ⟨R4,D4⟩:=R2.setOther ht2 (.map es' ck')
   refine br_dec.2 ⟨fun hlt => ?_,fun hge => ?_⟩
   · have hkl:k < rc.lits.length:=by omega
     have R4':=R4
     obtain ⟨g4,H4,hff4,A4⟩:=R4
     have hO4:Own (υ.set m (.map es' ck')) 3 1 z.l.a z.l.n z.l.c (ints z.lits):=by
       refine hO3.keep (M:=(·=m)) (σ:=υ.set m (.map es1 ck1)) ?_ ?_
       · have:=set_step (σ:=υ.set m (.map es1 ck1)) (c:=m) (o:=.map es' ck')
         rw [set_set] at this
         exact this
       · rintro p hp' rfl
         have:=(H3.rl r z hz).2 p hp'
         rw [ht2] at this; cases this
     obtain ⟨q,hq,hqc⟩:=hO4.get (i:=k) (v:=.int .i64 rc.lits[k]) (by rw [hzl]; simp [ints,hkl])
     obtain ⟨l1,l2⟩:=hls _ (List.getElem_mem hkl)
     refine ⟨q,hq,by omega,by omega,_,hqc,_,rfl,?_⟩
     refine (c74 l1 l2 _).mono hb ?_
     rintro _ _ ⟨rfl,rfl⟩
     refine ⟨_,PH.sub.refl _,_,rfl,?_⟩
     refine (c74 hl h0 _).mono hb ?_
     rintro _ _ ⟨rfl,rfl⟩
     refine ⟨_,PH.sub.refl _,_,rfl,?_⟩
     rw [idx_ne l2 h0,wnat (by omega)]
     refine br_iff.2 ⟨fun hne => ?_,fun heq => ?_⟩
     · have hne:vr rc.lits[k] ≠ vr x:=by simpa using hne
       obtain ⟨es2,ck2,e2,ms2⟩:=ms.put rc.lits[k]
       refine ⟨m,rfl,es',ck',set_self,ms.ints,?_⟩
       rw [e2,set_set]
       refine hQ () _ (by omega) ⟨es2,ck2,_,rfl,ms2,fun l => ?_⟩
       rw [List.take_succ_eq_append_getElem hkl,List.mem_append,List.mem_singleton]
       by_cases hin:rc.lits[k] ∈ ks'
       · rw [if_pos hin,hmem]
         constructor
         · rintro (h1 | ⟨h1,h2⟩)
           · exact .inl h1
           · exact .inr ⟨.inl h1,h2⟩
         · rintro (h1 | ⟨h1 | h1,h2⟩)
           · exact .inl h1
           · exact .inr ⟨h1,h2⟩
           · subst h1; exact (hmem _).1 hin
       · rw [if_neg hin,List.mem_append,List.mem_singleton,hmem]
         constructor
         · rintro ((h1 | ⟨h1,h2⟩) | h1)
           · exact .inl h1
           · exact .inr ⟨.inl h1,h2⟩
           · subst h1; exact .inr ⟨.inr rfl,hne⟩
         · rintro (h1 | ⟨h1 | h1,h2⟩)
           · exact .inl (.inl h1)
           · exact .inl (.inr ⟨h1,h2⟩)
           · exact .inr h1
     · have heq:vr rc.lits[k]=vr x:=by simpa using heq
       refine hQ () _ (by omega) ⟨es',ck',ks',rfl,ms,fun l => ?_⟩
       rw [hmem,List.take_succ_eq_append_getElem hkl,List.mem_append,List.mem_singleton]
       constructor
       · rintro (h1 | ⟨h1,h2⟩)
         · exact .inl h1
         · exact .inr ⟨.inl h1,h2⟩
       · rintro (h1 | ⟨h1 | h1,h2⟩)
         · exact .inl h1
         · exact .inr ⟨h1,h2⟩
         · subst h1; exact absurd heq h2
   · have hkk:k=rc.lits.length:=by omega
     subst hkk
     rw [List.take_length] at hmem
     have hstr':(υ.set m (.map es' ck')) b=some (.cells #[.int .i64 3,.int .i64 0,.slice none 0 0,.int .i64 pp,.int .i64 qq,.int .i64 (idx x / 2)] 95):=by rw [set_other hbm]; exact hstr
     have BB:Blk (υ.set m (.map es' ck')) b 95 [.int .i64 3,.int .i64 0,.slice none 0 0,.int .i64 pp,.int .i64 qq,.int .i64 (idx x / 2)]:=hstr'
     refine ⟨_,BB.get (i:=0) rfl,_,BB.get (i:=1) rfl,_,BB.get (i:=2) rfl,_,BB.get (i:=3) rfl,_,BB.get (i:=4) rfl,_,BB.get (i:=5) rfl,_,_,_,_,_,_,_,_,rfl,?_⟩
     have hsl:(st.derive r rc).steps.length≤3500000000000:=by
       unfold St.derive
       split
       · show (st.steps ++ [_]).length≤_
         simp; omega
       · omega
     refine (r72s R4 3 0 pp qq (idx x / 2) hsl).mono hb ?_
     rintro _ τ ⟨rfl,T5,D5,R5⟩
     refine ⟨τ,PH.sub.refl _,_,rfl,rfl,T5,es',ck',ks',((D1.trans D2).x.trans D4).trans D5.x,?_,D5.step.same m _ set_self (by rw [ht2]; simp),ms,hmem⟩
     unfold St.resolved
     rw [← hpq]
     rw [idx_half h0] at R5
     exact R5
 constructor
 · intro hneg
   exact tail _ _ (by rw [if_pos hneg])
 · intro hpos
   exact tail _ _ (by rw [if_neg hpos])
end Go.Proofs.Ythfnjogadngfiaa
namespace Go.Sv
structure RGood (F:Fm) (n:Nat) (cs:List (List Int)) (rc:RC):Prop where
 lit:∀ x ∈ rc.lits,LitN n x
 dis:rc.lits.Pairwise fun a b => vr a ≠ vr b
 der:0≤rc.step→∃ c,cs[rc.step.toNat]?=some c∧∀ x,x ∈ c ↔ x ∈ rc.lits
 lazy:rc.step < 0→∃ c,cyclic F rc.cyc=some c∧∀ x,x ∈ c ↔ x ∈ rc.lits
structure Inv (F:Fm) (n:Nat) (st:St):Prop where
 tr:Tr n st.value st.level st.trail st.limits
 wlen:st.why.length=n
 stp:∃ cs,stepsOf F st.steps=some cs∧∀ r rc,st.R r=some rc→RGood F n cs rc
 imp:∀ pre x post,st.trail=pre ++ x :: post→pre.length ∉ st.limits→∃ r rc,st.why[vr x]?=some (some r)∧st.R r=some rc∧x ∈ rc.lits∧∀ y ∈ rc.lits,y ≠ x→-y ∈ pre
theorem RGood.append {F:Fm} {n:Nat} {cs:List (List Int)} {rc:RC} (h:RGood F n cs rc) (ds:List (List Int)):RGood F n (cs ++ ds) rc:=by
 refine ⟨h.lit,h.dis,fun h0 => ?_,h.lazy⟩
 obtain ⟨c,h1,h2⟩:=h.der h0
 refine ⟨c,?_,h2⟩
 rw [List.getElem?_append_left]
 · exact h1
 · exact (List.getElem?_eq_some_iff.1 h1).1
theorem RGood.inj {F:Fm} {n:Nat} {cs:List (List Int)} {rc:RC} (h:RGood F n cs rc) {a b:Int} (ha:a ∈ rc.lits) (hb:b ∈ rc.lits) (e:vr a=vr b):a=b:=by
 have key:∀ {l:List Int},(l.Pairwise fun a b => vr a ≠ vr b)→a ∈ l→b ∈ l→a=b:=by
   intro l hl ha hb
   induction l with
   | nil => simp at ha
   | cons x l ih =>
     rw [List.pairwise_cons] at hl
     rcases List.mem_cons.1 ha with ha | ha
     · rcases List.mem_cons.1 hb with hb | hb
       · rw [ha,hb]
       · exact absurd e (by rw [ha]; exact hl.1 b hb)
     · rcases List.mem_cons.1 hb with hb | hb
       · exact absurd e.symm (by rw [hb]; exact hl.1 a ha)
       · exact ih hl.2 ha hb
 exact key h.dis ha hb
theorem RGood.nodup {F:Fm} {n:Nat} {cs:List (List Int)} {rc:RC} (h:RGood F n cs rc):rc.lits.Nodup:=h.dis.imp fun hab e => hab (by rw [e])
structure Same (st st':St):Prop where
 clauses:st'.clauses=st.clauses
 W:st'.W=st.W
 value:st'.value=st.value
 level:st'.level=st.level
 why:st'.why=st.why
 trail:st'.trail=st.trail
 limits:st'.limits=st.limits
 head:st'.head=st.head
 empty:st'.empty=st.empty
 units:st'.units=st.units
 lits:∀ r,(st'.R r).map (·.lits)=(st.R r).map (·.lits)
theorem Same.refl (st:St):Same st st:=⟨rfl,rfl,rfl,rfl,rfl,rfl,rfl,rfl,rfl,rfl,fun _ => rfl⟩
theorem Same.trans {a b c:St} (h:Same a b) (k:Same b c):Same a c :=
 ⟨k.clauses.trans h.clauses,k.W.trans h.W,k.value.trans h.value,k.level.trans h.level,k.why.trans h.why,k.trail.trans h.trail,k.limits.trans h.limits,k.head.trans h.head,k.empty.trans h.empty,k.units.trans h.units,fun r => (k.lits r).trans (h.lits r)⟩
theorem Same.R {st st':St} (h:Same st st') {r:Nat} {rc:RC} (hr:st.R r=some rc):∃ rc',st'.R r=some rc'∧rc'.lits=rc.lits:=by
 have:=h.lits r
 rw [hr] at this
 cases hx:st'.R r with
 | none => rw [hx] at this; cases this
 | some rc' => rw [hx] at this; exact ⟨rc',rfl,by simpa using this⟩
theorem Same.R' {st st':St} (h:Same st st') {r:Nat} {rc:RC} (hr:st'.R r=some rc):∃ rc',st.R r=some rc'∧rc'.lits=rc.lits:=by
 have:=h.lits r
 rw [hr] at this
 cases hx:st.R r with
 | none => rw [hx] at this; cases this
 | some rc' => rw [hx] at this; exact ⟨rc',rfl,by simpa using this.symm⟩
theorem Inv.same {F:Fm} {n:Nat} {st st':St} (h:Inv F n st) (s:Same st st') (hs:∃ cs,stepsOf F st'.steps=some cs∧∀ r rc,st'.R r=some rc→RGood F n cs rc):Inv F n st':=by
 refine ⟨by rw [s.value,s.level,s.trail,s.limits]; exact h.tr,by rw [s.why]; exact h.wlen,hs,fun pre x post e hl => ?_⟩
 rw [s.trail] at e
 rw [s.limits] at hl
 obtain ⟨r,rc,h1,h2,h3,h4⟩:=h.imp pre x post e hl
 obtain ⟨rc',q1,q2⟩:=s.R h2
 exact ⟨r,rc',by rw [s.why]; exact h1,q1,by rw [q2]; exact h3,by rw [q2]; exact h4⟩
theorem derive_same (st:St) {r:Nat} {rc:RC} (hr:st.R r=some rc):Same st (st.derive r rc):=by
 unfold St.derive
 split
 · refine ⟨rfl,rfl,rfl,rfl,rfl,rfl,rfl,rfl,rfl,rfl,fun q => ?_⟩
   show (if q=r then _ else st.R q).map _=_
   by_cases e:q=r
   · subst e; rw [if_pos rfl,hr]; rfl
   · rw [if_neg e]
 · exact .refl _
theorem derive_len (st:St) (r:Nat) (rc:RC):(st.derive r rc).steps.length≤st.steps.length + 1:=by
 unfold St.derive
 split
 · show (st.steps ++ [_]).length≤_; simp
 · omega
theorem Inv.derive {F:Fm} {n:Nat} {st:St} (h:Inv F n st) {r:Nat} {rc:RC} (hr:st.R r=some rc) :
   Inv F n (st.derive r rc)∧0≤st.stepOf rc∧∃ cs c,stepsOf F (st.derive r rc).steps=some cs∧cs[(st.stepOf rc).toNat]?=some c∧∀ x,x ∈ c ↔ x ∈ rc.lits:=by
 obtain ⟨cs,hcs,hg⟩:=h.stp
 have same:=derive_same st hr
 by_cases hneg:rc.step < 0
 · obtain ⟨c,h1,h2⟩:=(hg r rc hr).lazy hneg
   have e1:(st.derive r rc).steps=st.steps ++ [pCyc rc.cyc]:=by unfold St.derive; rw [if_pos hneg]; rfl
   have hst:stepsOf F (st.derive r rc).steps=some (cs ++ [c]):=by
     rw [e1]
     refine stepsOf_snoc hcs ?_
     unfold stepClause pCyc
     simp only [show (2:Int)=1 ↔ False from by decide,if_false]
     rw [if_pos trivial]
     exact h1
   have hlen:=stepsOf_len hcs
   have hso:st.stepOf rc=(st.steps.length:Nat):=by unfold St.stepOf; rw [if_pos hneg]
   have hat:(cs ++ [c])[(st.stepOf rc).toNat]?=some c:=by rw [hso,Int.toNat_natCast,← hlen]; simp
   refine ⟨h.same same ⟨_,hst,fun q y hq => ?_⟩,by rw [hso]; omega,_,c,hst,hat,h2⟩
   unfold St.derive at hq
   rw [if_pos hneg] at hq
   replace hq:(if q=r then some { rc with step:=(st.steps.length:Int) } else st.R q)=some y:=hq
   by_cases e:q=r
   · rw [if_pos e] at hq
     cases hq
     have:=hg r rc hr
     refine ⟨this.lit,this.dis,fun _ => ⟨c,?_,h2⟩,fun h0 => ?_⟩
     · rw [← hso]; exact hat
     · dsimp only at h0; omega
   · rw [if_neg e] at hq
     exact (hg q y hq).append _
 · have e1:st.derive r rc=st:=by unfold St.derive; rw [if_neg hneg]
   have hso:st.stepOf rc=rc.step:=by unfold St.stepOf; rw [if_neg hneg]
   obtain ⟨c,h1,h2⟩:=(hg r rc hr).der (by omega)
   exact ⟨by rw [e1]; exact h,by rw [hso]; omega,cs,c,by rw [e1]; exact hcs,by rw [hso]; exact h1,h2⟩
theorem step_same (st:St) (p:PStep):Same st (st.step p):=⟨rfl,rfl,rfl,rfl,rfl,rfl,rfl,rfl,rfl,rfl,fun _ => rfl⟩
theorem resolved_same (st:St) {r:Nat} {rc:RC} (hr:st.R r=some rc) (step x:Int):Same st (st.resolved r rc step x):=(derive_same st hr).trans (step_same _ _)
theorem resolved_len (st:St) (r:Nat) (rc:RC) (step x:Int):(st.resolved r rc step x).steps.length≤st.steps.length + 2:=by
 have:=derive_len st r rc
 show ((st.derive r rc).steps ++ [_]).length≤_
 rw [List.length_append,List.length_singleton]; omega
structure CL (F:Fm) (st:St) (ks:List Int) (step:Int) (m:Nat):Prop where
 fls:∀ l ∈ ks,-l ∈ st.trail.take m
 pos:0≤step
 der:∃ cs c,stepsOf F st.steps=some cs∧cs[step.toNat]?=some c∧∀ l,l ∈ c ↔ l ∈ ks
theorem LitN.small {n:Nat} {x:Int} (h:LitN n x) (hn:n≤1024):x ≠ 0∧x ≠ minInt:=by
 obtain ⟨h1,h2⟩:=h
 unfold minInt
 exact ⟨h1,by omega⟩
theorem take_snoc {l:List Int} {i:Nat} {t:Int} (h:l[i]?=some t):l.take (i + 1)=l.take i ++ [t]:=by
 obtain ⟨h1,h2⟩:=List.getElem?_eq_some_iff.1 h
 rw [List.take_succ_eq_append_getElem h1,h2]
theorem CL.skip {F:Fm} {st:St} {ks:List Int} {step:Int} {i:Nat} {t:Int} (h:CL F st ks step (i + 1)) (ht:st.trail[i]?=some t) (hn:-t ∉ ks):CL F st ks step i:=by
 refine ⟨fun l hl => ?_,h.pos,h.der⟩
 have:=h.fls l hl
 rw [take_snoc ht,List.mem_append,List.mem_singleton] at this
 rcases this with h1 | h1
 · exact h1
 · exact absurd (by rw [← h1,Int.neg_neg]; exact hl) hn
theorem CL.resolve {F:Fm} {n:Nat} {st:St} (hn:n≤1024) (hI:Inv F n st) {ks ks':List Int} {step:Int} {i:Nat} {t:Int} (h:CL F st ks step (i + 1)) (ht:st.trail[i]?=some t) (hi:i ∉ st.limits) (hk:-t ∈ ks)
   {r:Nat} {rc:RC} (hw:st.why[vr t]?=some (some r)) (hr:st.R r=some rc) (hks:∀ l,l ∈ ks' ↔ (l ∈ ks∧l ≠ -t) ∨ (l ∈ rc.lits∧vr l ≠ vr (-t))) :
   Inv F n (st.resolved r rc step (-t))∧CL F (st.resolved r rc step (-t)) ks' ((st.derive r rc).steps.length:Nat) i:=by
 have hti:=List.getElem?_eq_some_iff.1 ht
 have hsp:st.trail=st.trail.take i ++ t :: st.trail.drop (i + 1):=by rw [← hti.2,← List.drop_eq_getElem_cons hti.1,List.take_append_drop]
 have htm:t ∈ st.trail:=by rw [← hti.2]; exact List.getElem_mem _
 have hpl:(st.trail.take i).length=i:=by rw [List.length_take]; have:=hti.1; omega
 obtain ⟨r',rc',q1,q2,q3,q4⟩:=hI.imp _ t _ hsp (by rw [hpl]; exact hi)
 rw [hw] at q1
 cases q1
 rw [hr] at q2
 cases q2
 have htl:=hI.tr.lit t htm
 obtain ⟨J,hpos,cs,c,hcs,hc,hcm⟩:=hI.derive hr
 obtain ⟨cs0,c0,hcs0,hc0,hcm0⟩:=h.der
 have hmono:∃ ds,cs=cs0 ++ ds:=by
   by_cases hneg:rc.step < 0
   · have e1:(st.derive r rc).steps=st.steps ++ [pCyc rc.cyc]:=by unfold St.derive; rw [if_pos hneg]; rfl
     rw [e1] at hcs
     unfold stepsOf at hcs hcs0
     rw [stepsFrom_append,hcs0] at hcs
     obtain ⟨_,e,he⟩:=stepsFrom_len hcs
     exact ⟨e,he⟩
   · have e1:st.derive r rc=st:=by unfold St.derive; rw [if_neg hneg]
     rw [e1,hcs0] at hcs
     exact ⟨[],by cases hcs; simp⟩
 have hc0':cs[step.toNat]?=some c0:=by
   obtain ⟨ds,e⟩:=hmono
   rw [e,List.getElem?_append_left]
   · exact hc0
   · exact (List.getElem?_eq_some_iff.1 hc0).1
 obtain ⟨csI,hcsI,hgood⟩:=hI.stp
 have hG:=hgood r rc hr
 have fls':∀ l ∈ ks',-l ∈ st.trail.take i:=by
   intro l hl
   rcases (hks l).1 hl with ⟨h1,h2⟩ | ⟨h1,h2⟩
   · have:=h.fls l h1
     rw [take_snoc ht,List.mem_append,List.mem_singleton] at this
     rcases this with h3 | h3
     · exact h3
     · exact absurd (by rw [← h3,Int.neg_neg]) h2
   · exact q4 l h1 (by rintro rfl; exact h2 (by rw [vr_neg]))
 have clean:∀ l:List Int,(∀ z,z ∈ l→z ∈ ks')→Clean l:=by
   intro l hl z hz
   have h1:=fls' z (hl z hz)
   have h2:=hI.tr.lit _ (List.mem_of_mem_take h1)
   have h3:=(show LitN n z from by have:=h2.neg; rwa [Int.neg_neg] at this).small hn
   refine ⟨h3.1,h3.2,fun h4 => ?_⟩
   have h5:=fls' (-z) (hl _ h4)
   exact hI.tr.anti (List.mem_of_mem_take h1) (List.mem_of_mem_take h5)
 have hvr:((vr t:Nat):Int) < 1024:=by have:=htl.vr_lt; omega
 have hv1:(vr (-t):Nat)=vr t:=vr_neg
 have key:∃ c',stepClause F cs (if -t < 0 then pRes (st.stepOf rc) step (vr (-t)) else pRes step (st.stepOf rc) (vr (-t)))=some c'∧∀ l,l ∈ c' ↔ l ∈ ks':=by
   have res:∀ (P Q:Int) (a b:List Int),0≤P→0≤Q→cs[P.toNat]?=some a→cs[Q.toNat]?=some b→((vr (-t):Nat):Int) + 1 ∈ a→-(((vr (-t):Nat):Int) + 1) ∈ b →
       (∀ z,((z ∈ a∧z ≠ ((vr (-t):Nat):Int) + 1) ∨ (z ∈ b∧z ≠ -(((vr (-t):Nat):Int) + 1))) ↔ z ∈ ks')→∃ c',stepClause F cs (pRes P Q (vr (-t)))=some c'∧∀ l,l ∈ c' ↔ l ∈ ks':=by
     intro P Q a b hP hQ ha hb h1 h2 h3
     have hmem:∀ z,z ∈ a.filter (· != ((vr (-t):Nat):Int) + 1) ++ b.filter (· != -(((vr (-t):Nat):Int) + 1)) ↔ z ∈ ks':=by
       intro z
       rw [List.mem_append,List.mem_filter,List.mem_filter,bne_iff_ne,bne_iff_ne]
       exact h3 z
     obtain ⟨out,ho⟩:=norm_ok (clean _ fun z hz => (hmem z).1 hz)
     refine ⟨out,?_,fun l => ((norm_some ho).2.1 l).trans (hmem l)⟩
     unfold stepClause pRes
     simp only [show (3:Int)=1 ↔ False from by decide,show (3:Int)=2 ↔ False from by decide,if_false]
     rw [if_pos trivial,if_pos ⟨hP,hQ⟩,ha,hb]
     dsimp only
     unfold resolvent
     rw [if_pos ⟨by omega,by rw [hv1]; exact hvr,h1,h2⟩]
     exact ho
   have rs:∀ z,z ∈ rc.lits→(z ≠ t ↔ vr z ≠ vr (-t)):=by
     intro z hz
     rw [hv1]
     exact not_congr ⟨fun e => by rw [e],fun e => hG.inj hz q3 e⟩
   by_cases hneg:-t < 0
   · rw [if_pos hneg]
     have et:((vr (-t):Nat):Int) + 1=t:=by unfold vr; omega
     refine res _ _ c c0 hpos h.pos hc hc0' (by rw [et]; exact (hcm t).2 q3) (by rw [et]; exact (hcm0 _).2 hk) fun z => ?_
     rw [et,hks,hcm,hcm0]
     constructor
     · rintro (⟨h1,h2⟩ | h1)
       · exact .inr ⟨h1,(rs z h1).1 h2⟩
       · exact .inl h1
     · rintro (h1 | ⟨h1,h2⟩)
       · exact .inr h1
       · exact .inl ⟨h1,(rs z h1).2 h2⟩
   · rw [if_neg hneg]
     have h0:=htl.1
     have et:((vr (-t):Nat):Int) + 1=-t:=by unfold vr; omega
     refine res _ _ c0 c h.pos hpos hc0' hc (by rw [et]; exact (hcm0 _).2 hk) (by rw [et,Int.neg_neg]; exact (hcm t).2 q3) fun z => ?_
     rw [et,Int.neg_neg,hks,hcm,hcm0]
     constructor
     · rintro (h1 | ⟨h1,h2⟩)
       · exact .inl h1
       · exact .inr ⟨h1,(rs z h1).1 h2⟩
     · rintro (h1 | ⟨h1,h2⟩)
       · exact .inl h1
       · exact .inr ⟨h1,(rs z h1).2 h2⟩
 obtain ⟨c',hc',hm'⟩:=key
 have hst:stepsOf F (st.resolved r rc step (-t)).steps=some (cs ++ [c']):=stepsOf_snoc hcs hc'
 have same:=resolved_same st hr step (-t)
 obtain ⟨csJ,hcsJ,hgJ⟩:=J.stp
 rw [hcs] at hcsJ
 cases hcsJ
 refine ⟨hI.same same ⟨_,hst,fun q y hq => (hgJ q y hq).append _⟩,fun l hl => by rw [same.trail]; exact fls' l hl,by omega,_,c',hst,?_,hm'⟩
 rw [Int.toNat_natCast,← stepsOf_len hcs]
 simp
end Go.Sv
namespace Go.Proofs.Ythfnjogadngfiaa
open Go.Sl Go.Sv
theorem _root_.Go.Sv.LitN.lit {n:Nat} {x:Int} (h:LitN n x) (hn:n≤1000000):Lit x:=by
 obtain ⟨_,h⟩:=h; unfold Lit; omega
theorem cells_get:∀ (xs:List Stp) (i j:Nat) (x:Stp),xs[i]?=some x→j < 6→(xs.flatMap Stp.cells)[i * 6 + j]?=x.cells[j]?
 | [],i,j,x,h,_ => by simp at h
 | y :: xs,0,j,x,h,hj => by
   simp only [List.getElem?_cons_zero,Option.some.injEq] at h
   subst h
   rw [List.flatMap_cons,Nat.zero_mul,Nat.zero_add,List.getElem?_append_left (by simpa using hj)]
 | y :: xs,i + 1,j,x,h,hj => by
   rw [List.flatMap_cons,List.getElem?_append_right (by simp; omega)]
   have:=cells_get xs i j x (by simpa using h) hj
   rw [← this]
   congr 1
   simp; omega
theorem pushStep {σ:PH} {T:Nat→Tag} {s:Nat} {g:Low} (H:Sol σ T s g) {ff:List Value} (hff:g.ff=ff) {st:St} (A:Abs g st) (x:Stp) {p:PStep} (hx:StpOk g.R x p) (hn:st.steps.length≤3500000000000) {b:Nat} (hb:σ b=some (.cells x.cells.toArray 95))
   {Q:Value→PH→Prop} (hQ:∀ a' c' τ,(∃ u,τ.cell? ((ptr s).add 4)=some u)→τ.froz ((ptr s).add 4)=some false →
     (∃ T',Rep (τ.setCell ((ptr s).add 4) (.slice a' ((g.F 4).n + 1) c')) T' s ff (st.step p)∧Did σ T (τ.setCell ((ptr s).add 4) (.slice a' ((g.F 4).n + 1) c')) T')→Q (.slice a' ((g.F 4).n + 1) c') τ) :
   iappend prog 95 (.slice (g.F 4).a (g.F 4).n (g.F 4).c) (.slice (some (ptr b)) 1 1) Q σ:=by
 have n4:=H.n4 A
 refine H.appendF (k:=4) rfl (by decide) t95.1 t95.2.1 t95.2.2 rfl (by decide) (news:=x.cells) ?_ rfl ?_ (by omega) ?_
 · exact rowAt_of (b:=b) (arr:=x.cells.toArray) (e:=95) (f:=(0,0)) hb _ 0 0 (fun j v hv => by simpa using hv)
 · intro v hv; simp at hv; rcases hv with rfl | rfl | rfl | rfl | rfl | rfl <;> trivial
 · rintro a' c' τ q1 q2 ⟨T5,H5,D5⟩
   refine hQ a' c' τ q1 q2 ⟨T5,⟨_,H5,hff,?_⟩,D5⟩
   obtain ⟨xs,h1,h2⟩:=A.steps
   refine ⟨⟨xs ++ [x],?_,h2.snoc hx⟩,A.clauses,A.W,A.value,A.level,A.why,A.trail,A.limits,A.head,A.act,A.empty,A.units,A.R⟩
   show g.V 4 ++ _=_
   rw [h1,List.flatMap_append]; simp
theorem copyStep {σ:PH} {T:Nat→Tag} {s:Nat} {ff:List Value} {st:St} (h:Rep σ T s ff st) {k:Nat} {p:PStep} (hp:st.steps[k]?=some p) :
   ∃ g x,Sol σ T s g∧g.ff=ff∧Abs g st∧StpOk g.R x p∧(g.F 4).n=st.steps.length∧∃ q,(g.F 4).a=some q∧σ.cell? (q.add (k * 6))=some (.int .i64 x.kind)∧σ.cell? ((q.add (k * 6)).add 1)=some (.int .i64 x.index)∧σ.cell? ((q.add (k * 6)).add 2)=some x.l.v ∧
     σ.cell? ((q.add (k * 6)).add 3)=some (.int .i64 x.p)∧σ.cell? ((q.add (k * 6)).add 4)=some (.int .i64 x.q)∧σ.cell? ((q.add (k * 6)).add 5)=some (.int .i64 x.v):=by
 obtain ⟨g,H,hff,A⟩:=h
 obtain ⟨xs,h1,h2⟩:=A.steps
 have hk:k < xs.length:=by rw [h2.len]; exact (List.getElem?_eq_some_iff.1 hp).1
 obtain ⟨p',hp',hx⟩:=h2.get (List.getElem?_eq_getElem hk)
 rw [hp] at hp'
 cases hp'
 have hO:=(H.fld 4 95 6 rfl).1
 have get:∀ j v,xs[k].cells[j]?=some v→j < 6→∃ q,(g.F 4).a=some q∧σ.cell? (q.add (k * 6 + j))=some v:=by
   intro j v hv hj
   exact hO.get (i:=k * 6 + j) (by rw [h1,cells_get xs k j _ (List.getElem?_eq_getElem hk) hj]; exact hv)
 obtain ⟨q,hq,c0⟩:=get 0 _ rfl (by decide)
 obtain ⟨q1,hq1,c1⟩:=get 1 _ rfl (by decide)
 obtain ⟨q2,hq2,c2⟩:=get 2 _ rfl (by decide)
 obtain ⟨q3,hq3,c3⟩:=get 3 _ rfl (by decide)
 obtain ⟨q4,hq4,c4⟩:=get 4 _ rfl (by decide)
 obtain ⟨q5,hq5,c5⟩:=get 5 _ rfl (by decide)
 obtain rfl:q=q1:=Option.some.inj (hq.symm.trans hq1)
 obtain rfl:q=q2:=Option.some.inj (hq.symm.trans hq2)
 obtain rfl:q=q3:=Option.some.inj (hq.symm.trans hq3)
 obtain rfl:q=q4:=Option.some.inj (hq.symm.trans hq4)
 obtain rfl:q=q5:=Option.some.inj (hq.symm.trans hq5)
 have off:∀ j,(q.add (k * 6)).add j=q.add (k * 6 + j):=by
   intro j
   rcases hO.row with ⟨h3,_⟩ | ⟨b,arr,h3,_⟩
   · rw [h3] at hq; cases hq
   · rw [h3] at hq; cases hq
     rw [add_off,add_off,add_off]; congr 1; omega
 refine ⟨g,xs[k],H,hff,A,hx,H.n4 A,q,hq,?_,?_,?_,?_,?_,?_⟩
 · exact c0
 · rw [off]; exact c1
 · rw [off]; exact c2
 · rw [off]; exact c3
 · rw [off]; exact c4
 · rw [off]; exact c5
theorem Rep.R_blk {σ:PH} {T:Nat→Tag} {s:Nat} {ff:List Value} {st:St} (h:Rep σ T s ff st) {r:Nat} {rc:RC} (hr:st.R r=some rc) :
   ∃ (sl sc:Sli),Blk σ r 102 [sl.v,.int .i64 rc.step,sc.v]∧Own σ 3 1 sl.a sl.n sl.c (ints rc.lits)∧sl.n=rc.lits.length:=by
 obtain ⟨g,H,hff,A⟩:=h
 obtain ⟨x,hx,e1,e2,e3⟩:=A.R_of hr
 have hO:=(H.rl r x hx).1
 refine ⟨x.l,x.c,by rw [← e2]; exact H.rblk r x hx,by rw [← e1]; exact hO,?_⟩
 have:=hO.len
 rw [← e1]; simp [ints] at this; omega
theorem Rep.trail {σ:PH} {T:Nat→Tag} {s:Nat} {ff:List Value} {st:St} (h:Rep σ T s ff st):∃ a c,σ.cell? ((ptr s).add 11)=some (.slice a st.trail.length c)∧st.trail.length≤c∧∀ i x,st.trail[i]?=some x→∃ p,a=some p∧σ.cell? (p.add i)=some (.int .i64 x):=by
 obtain ⟨g,H,hff,A⟩:=h
 have n11:=H.n11 A
 refine ⟨(g.F 11).a,(g.F 11).c,by rw [← n11]; exact H.field (k:=11) rfl,by rw [← n11]; exact (H.fld 11 3 1 rfl).1.le,fun i x hx => ?_⟩
 exact (H.fld 11 3 1 rfl).1.get (by rw [A.trail]; simp [ints,hx])
theorem Rep.steps {σ:PH} {T:Nat→Tag} {s:Nat} {ff:List Value} {st:St} (h:Rep σ T s ff st):∃ a c,σ.cell? ((ptr s).add 4)=some (.slice a st.steps.length c):=by
 obtain ⟨g,H,hff,A⟩:=h
 exact ⟨_,_,by rw [← H.n4 A]; exact H.field (k:=4) rfl⟩
theorem nil_of {l:List Int} (h:∀ x,x ∉ l):l=[]:=List.eq_nil_iff_forall_not_mem.2 h
theorem last_of {cs:List (List Int)} {k:Nat} {c:List Int} (h:cs[k]?=some c) (hk:k + 1=cs.length):cs.getLast?=some c:=by
 rw [List.getLast?_eq_getElem?,← h]; congr 1; omega
theorem r55 {σ:PH} {T:Nat→Tag} {s:Nat} {ff:List Value} {st:St} (h:Rep σ T s ff st) {F:Fm} {n:Nat} (hn:n≤1024) (hI:Inv F n st) (hlim:st.limits=[]) {r:Nat} {rc:RC} (hr:st.R r=some rc) (hfl:∀ l ∈ rc.lits,-l ∈ st.trail)
   (htl:st.trail.length≤n) (hst:st.steps.length + 2 * st.trail.length + 2≤3500000000000) (hrl:rc.lits.length≤1000000) :
   C 55 #[.pointer (some (ptr s)),.pointer (some (ptr r))] (fun v τ => v=.tuple #[]∧∃ T' st',Did σ T τ T'∧Rep τ T' s ff st'∧Same st st'∧st'.steps.length≤st.steps.length + 2 * st.trail.length + 2∧∃ cs,stepsOf F st'.steps=some cs∧cs.getLast?=some []) σ:=by
 refine go (E55_0 _ _ _ _ _) ?_
 unfold S55_0
 obtain ⟨cs0,hcs0,hg0⟩:=hI.stp
 have hG:=hg0 r rc hr
 obtain ⟨sl,sc,hB,hO,hsn⟩:=h.R_blk hr
 refine (c75 hB hO (by omega) hG.nodup).mono hb ?_
 rintro _ σ1 ⟨m,es,ck,rfl,hm0,hm1,ms,hsub⟩
 refine ⟨σ1,PH.sub.refl _,_,rfl,?_⟩
 obtain ⟨T1,R1,D1,hT1⟩:=h.grow hsub
 refine (r76 R1 hr (by omega)).mono hb ?_
 rintro _ σ2 ⟨rfl,T2,D2,R2⟩
 obtain ⟨J,hpos,csd,cd,hcsd,hcd,hcdm⟩:=hI.derive hr
 have same:=derive_same st hr
 have hm2:σ2 m=some (.map es ck):=D2.step.same m _ hm1 (by rw [hT1 m hm0]; simp)
 have ht2:T2 m=.other:=(D2.tags m (by rw [hm1]; simp)).trans (hT1 m hm0)
 obtain ⟨ta,tc,htr,htc,htg⟩:=R2.trail
 rw [same.trail] at htr
 refine ⟨σ2,PH.sub.refl _,_,rfl,_,rfl,_,htr,_,_,_,rfl,?_⟩
 unfold S55_1
 have w:IntKind.wrap .i64 ((st.trail.length:Int) - 1)=(st.trail.length:Int) - 1 - (0:Nat):=by rw [w64 (by omega) (by omega)]; omega
 rw [w]
 refine iloopS_for (G:=Int) (fun k step => (some (ptr s),some m,step,(st.trail.length:Int) - 1 - (k:Nat)))
   (fun k step υ => ∃ T' st' es ck ks,DidX (·=m) σ2 T2 υ T'∧Rep υ T' s ff st'∧Inv F n st'∧Same st st'∧υ m=some (.map es ck)∧T' m=.other∧MSet es ck ks∧k≤st.trail.length∧CL F st' ks step (st.trail.length - k)∧st'.steps.length≤st.steps.length + 1 + 2 * k) st.trail.length ?_
   (g:=st.stepOf rc) ⟨T2,_,es,ck,rc.lits,DidX.refl _ _,R2,J,same,hm2,ht2,ms,Nat.zero_le _,⟨fun l hl => ?_,hpos,csd,cd,hcsd,hcd,hcdm⟩,derive_len _ _ _⟩
 · rintro k step υ hk ⟨T',st',es',ck',ks,D,R,I',S',hm',ht',ms',hkl,cl,hlen⟩ Q hQ
   unfold S55_2
   dsimp only
   simp only [Nat.mul_one]
   obtain ⟨ta',tc',htr',htc',htg'⟩:=R.trail
   rw [S'.trail] at htr' htg'
   refine br_dec.2 ⟨fun hge => ?_,fun hlt => ?_⟩
   · have hlt:k < st.trail.length:=by omega
     have hidx:((st.trail.length:Int) - 1 - (k:Nat)).toNat=st.trail.length - k - 1:=by omega
     have hii:st.trail.length - k - 1 < st.trail.length:=by omega
     have hget:st.trail[st.trail.length - k - 1]?=some st.trail[st.trail.length - k - 1]:=List.getElem?_eq_getElem hii
     obtain ⟨p,hp,hc⟩:=htg' _ _ hget
     generalize hte:st.trail[st.trail.length - k - 1]=t at *
     have htm:t ∈ st.trail:=List.mem_of_getElem? hget
     have hlt':=hI.tr.lit t htm
     have hlit:=hlt'.lit (by omega)
     have wneg:IntKind.wrap .i64 (0 - t)=-t:=by rw [w64 (by unfold Lit at hlit; omega) (by unfold Lit at hlit; omega)]; omega
     have wdec:IntKind.wrap .i64 ((st.trail.length:Int) - 1 - (k:Nat) - 1)=(st.trail.length:Int) - 1 - ((k + 1:Nat):Int):=by rw [w64 (by omega) (by omega)]; omega
     have hfind:=ms'.find (-t)
     refine ⟨_,rfl,_,htr',_,_,_,rfl,p,hp,by omega,by omega,_,by rw [hidx]; exact hc,_,rfl,m,rfl,es',ck',hm',ms'.ints,(decide (-t ∈ ks)),by rw [wneg,hfind]; by_cases e:-t ∈ ks <;> simp [e],?_⟩
     have hsucc:st.trail.length - k=(st.trail.length - k - 1) + 1:=by omega
     rw [hsucc] at cl
     refine br_dec.2 ⟨fun hin => ?_,fun hin => ?_⟩
     · refine ⟨_,rfl,_,htr',_,_,_,rfl,p,hp,by omega,by omega,_,by rw [hidx]; exact hc,_,rfl,?_⟩
       rw [wneg]
       have hnl:(st.trail.length - k - 1) ∉ st'.limits:=by rw [S'.limits,hlim]; simp
       have hget':st'.trail[st.trail.length - k - 1]?=some t:=by rw [S'.trail]; exact hget
       have hsp:st'.trail=st'.trail.take (st.trail.length - k - 1) ++ t :: st'.trail.drop (st.trail.length - k - 1 + 1):=by
         obtain ⟨h1,h2⟩:=List.getElem?_eq_some_iff.1 hget'
         conv => lhs; rw [← List.take_append_drop (st.trail.length - k - 1) st'.trail]
         rw [List.drop_eq_getElem_cons h1,h2]
       obtain ⟨r',rc',q1,q2,q3,q4⟩:=I'.imp _ t _ hsp (by rw [List.length_take,S'.trail,Nat.min_eq_left (by omega)]; exact hnl)
       obtain ⟨cs',hcs',hg'⟩:=I'.stp
       have hG':=hg' r' rc' q2
       have hrl':rc'.lits.length≤1000000:=by
         have hd:=hG'.dis
         have:rc'.lits.length≤n:=by
           have h1:(rc'.lits.map vr).Nodup:=by rw [List.nodup_iff_pairwise_ne,List.pairwise_map]; exact hd
           have h2:∀ v ∈ rc'.lits.map vr,v ∈ List.range n:=by
             intro v hv
             obtain ⟨x,hx,rfl⟩:=List.mem_map.1 hv
             exact List.mem_range.2 (hG'.lit x hx).vr_lt
           have:=h1.length_le_of_subset h2
           simpa using this
         omega
       have hlneg:Lit (-t):=hlt'.neg.lit (by omega)
       refine (r77 R hm' ht' ms' step hlneg hlt'.neg.1 (r:=r') (by rw [vr_neg]; exact q1) q2 (fun l hl => ⟨(hG'.lit l hl).lit (by omega),(hG'.lit l hl).1⟩) hrl' (by omega)).mono hb ?_
       rintro _ τ ⟨rfl,T3,es3,ck3,ks3,D3,R3,hm3,ms3,hmem3⟩
       refine ⟨τ,PH.sub.refl _,_,rfl,?_⟩
       rw [wdec]
       obtain ⟨I3,cl3⟩:=CL.resolve hn I' cl hget' hnl hin q1 q2 hmem3
       have hlen3:=resolved_len st' r' rc' step (-t)
       refine hQ _ _ hlt ⟨T3,_,es3,ck3,ks3,D.trans D3,R3,I3,S'.trans (resolved_same st' q2 step (-t)),hm3,?_,ms3,hlt,?_,by omega⟩
       · exact (D3.tags m (by rw [hm']; simp)).trans ht'
       · rw [show st.trail.length - (k + 1)=st.trail.length - k - 1 from by omega]; exact cl3
     · rw [wdec]
       refine hQ _ _ hlt ⟨T',st',es',ck',ks,D,R,I',S',hm',ht',ms',hlt,?_,by omega⟩
       rw [show st.trail.length - (k + 1)=st.trail.length - k - 1 from by omega]
       exact cl.skip (by rw [S'.trail]; exact hget) hin
   · have hkk:k=st.trail.length:=by omega
     subst hkk
     rw [Nat.sub_self] at cl
     obtain ⟨cs,c,hcs,hcc,hcm⟩:=cl.der
     have hnil:c=[]:=nil_of fun x hx => by
       have:=cl.fls x ((hcm x).1 hx)
       simp at this
     subst hnil
     have hlen':=stepsOf_len hcs
     have hlt:=(List.getElem?_eq_some_iff.1 hcc).1
     have DD:Did σ T υ T':=(D1.trans D2).of_x D (by rintro b rfl; exact hm0)
     obtain ⟨a4,c4,h4⟩:=R.steps
     refine ⟨_,rfl,_,h4,_,_,_,rfl,?_⟩
     rw [w64 (n:=(st'.steps.length:Int) - 1) (by omega) (by omega)]
     refine br_iff.2 ⟨fun hne => ?_,fun heq => ?_⟩
     · have hp4:st'.steps[step.toNat]?=some st'.steps[step.toNat]:=List.getElem?_eq_getElem (by omega)
       obtain ⟨g,x,H,hff,A,hx,hn4,q,hq,c0,c1,c2,c3,c4',c5⟩:=copyStep R hp4
       refine ⟨_,rfl,_,H.field (k:=4) rfl,_,_,_,rfl,_,rfl,_,H.field (k:=4) rfl,_,_,_,rfl,q,hq,cl.pos,by rw [hn4]; have:=cl.pos; omega,_,c0,_,c1,_,c2,_,c3,_,c4',_,c5,_,_,_,_,_,_,_,_,rfl,fun b hbn => ?_⟩
       obtain ⟨T6,H6,D6,_⟩:=H.fresh hbn (.cells x.cells.toArray 95)
       refine pushStep H6 hff A x hx (by omega) (b:=b) (by unfold PH.set; rw [if_pos rfl]) ?_
       rintro a' c' τ q1 q2 ⟨T7,R7,D7⟩
       refine ⟨_,_,_,rfl,_,rfl,q1,q2,trivial,T7,_,DD.trans (D6.trans D7),R7,S'.trans (step_same _ _),?_,?_⟩
       · show (st'.steps ++ [_]).length≤_
         rw [List.length_append,List.length_singleton]; omega
       · obtain ⟨c',hc1,hc2⟩:=stepsOf_at hcs hp4
         rw [hcc] at hc1
         cases hc1
         exact ⟨_,stepsOf_snoc hcs hc2,by simp⟩
     · refine ⟨trivial,T',st',DD,R,S',by omega,cs,hcs,last_of hcc ?_⟩
       have:=cl.pos
       simp at heq
       omega
 · rw [Nat.sub_zero,same.trail,List.take_length]; exact hfl l hl
end Go.Proofs.Ythfnjogadngfiaa
namespace Go.Sv
def St.jumped (st:St) (r:Nat) (lits:List Int) (step:Int) (back:Nat):St :=
 ((if 1 < lits.length then ((st.setR r ⟨lits,step,[]⟩).undo back).add r lits else (st.setR r ⟨lits,step,[]⟩).undo back)).assign (lits.headD 0) (some r)
def swp (l:List Int) (i j:Nat):List Int:=(l.set i (l.getD j 0)).set j (l.getD i 0)
theorem swp_len (l:List Int) (i j:Nat):(swp l i j).length=l.length:=by unfold swp; simp
theorem swp_perm {l:List Int} {i j:Nat} (hi:i < l.length) (hj:j < l.length):(swp l i j).Perm l:=by
 unfold swp
 rw [show l.getD j 0=l[j] from by simp [hj],show l.getD i 0=l[i] from by simp [hi]]
 exact List.set_set_perm hi hj
theorem swp_left {l:List Int} {i j:Nat} (hi:i < l.length) (hj:j < l.length):(swp l i j)[i]?=l[j]?:=by
 unfold swp
 by_cases e:i=j
 · subst e; simp [hi]
 · rw [List.getElem?_set_ne (Ne.symm e),List.getElem?_set_self hi]; simp [hj]
theorem swp_right {l:List Int} {i j:Nat} (hi:i < l.length) (hj:j < l.length):(swp l i j)[j]?=l[i]?:=by
 unfold swp
 rw [List.getElem?_set_self (by simpa using hj)]; simp [hi]
theorem swp_ne {l:List Int} {i j k:Nat} (hi:k ≠ i) (hj:k ≠ j):(swp l i j)[k]?=l[k]?:=by
 unfold swp
 rw [List.getElem?_set_ne (Ne.symm hj),List.getElem?_set_ne (Ne.symm hi)]
theorem Tr.limit_le {n:Nat} {value:List Int} {level:List Nat} {trail:List Int} {limits:List Nat} (h:Tr n value level trail limits) {p q:Nat} (hp:limits[limits.length - 1]?=some p) (hq:q ∈ limits):q≤p:=by
 obtain ⟨i,hi⟩:=List.mem_iff_getElem?.1 hq
 obtain ⟨h1,h2⟩:=List.getElem?_eq_some_iff.1 hi
 obtain ⟨h3,h4⟩:=List.getElem?_eq_some_iff.1 hp
 rcases Nat.lt_or_ge i (limits.length - 1) with h5 | h5
 · have:=List.pairwise_iff_getElem.1 h.srt i (limits.length - 1) h1 h3 h5
   omega
 · have:i=limits.length - 1:=by omega
   subst this
   omega
theorem Tr.top_drop {n:Nat} {value:List Int} {level:List Nat} {trail:List Int} {limits:List Nat} (h:Tr n value level trail limits) {p:Nat} (hp:limits[limits.length - 1]?=some p) {x:Int} (hx:x ∈ trail) (hl:lv level x=limits.length):x ∉ trail.take p:=by
 obtain ⟨h3,h4⟩:=List.getElem?_eq_some_iff.1 hp
 intro hm
 have:=(h.lv_take h3 hx).2 (by rw [h4]; exact hm)
 omega
theorem not_take {l:List Int} {p m:Nat} {x:Int} (h1:x ∈ l.take m) (h2:x ∉ l.take p):∃ i,p≤i∧i < m∧l[i]?=some x:=by
 obtain ⟨i,hi⟩:=List.mem_iff_getElem?.1 h1
 rw [List.getElem?_take] at hi
 split at hi
 · rename_i him
   refine ⟨i,?_,him,hi⟩
   rcases Nat.lt_or_ge i p with h3 | h3
   · refine absurd (List.mem_iff_getElem?.2 ⟨i,?_⟩) h2
     rw [List.getElem?_take,if_pos h3]; exact hi
   · exact h3
 · cases hi
theorem two_of_count {l:List Int} {p:Int→Bool} (hd:l.Nodup) (h:1 < l.countP p):∃ a b,a ∈ l∧b ∈ l∧a ≠ b∧p a=true∧p b=true:=by
 rw [List.countP_eq_length_filter] at h
 have hn:(l.filter p).Nodup:=hd.filter p
 have mem:∀ x,x ∈ l.filter p→x ∈ l∧p x=true:=fun x hx => List.mem_filter.1 hx
 match hf:l.filter p,h with
 | a :: b :: r,_ =>
   rw [hf] at mem hn
   rw [List.nodup_cons] at hn
   obtain ⟨a1,a2⟩:=mem a List.mem_cons_self
   obtain ⟨b1,b2⟩:=mem b (List.mem_cons_of_mem _ List.mem_cons_self)
   exact ⟨a,b,a1,b1,fun e => hn.1 (by rw [e]; exact List.mem_cons_self),a2,b2⟩
theorem one_of_count {l:List Int} {p:Int→Bool} (h:¬ 1 < l.countP p) {a b:Int} (ha:a ∈ l) (hb:b ∈ l) (hpa:p a=true) (hpb:p b=true):a=b:=by
 rw [List.countP_eq_length_filter] at h
 have ma:a ∈ l.filter p:=List.mem_filter.2 ⟨ha,hpa⟩
 have mb:b ∈ l.filter p:=List.mem_filter.2 ⟨hb,hpb⟩
 match hf:l.filter p with
 | [] => rw [hf] at ma; simp at ma
 | [c] => rw [hf] at ma mb; rw [List.mem_singleton] at ma mb; rw [ma,mb]
 | c :: d :: r => rw [hf] at h; simp at h
def maxLv (level:List Nat):List Int→Nat
 | [] => 0
 | x :: l => max (lv level x) (maxLv level l)
theorem maxLv_le {level:List Nat}:∀ {l:List Int} {x:Int},x ∈ l→lv level x≤maxLv level l
 | y :: l,x,h => by
   unfold maxLv
   rcases List.mem_cons.1 h with rfl | h
   · omega
   · have:=maxLv_le (level:=level) h; omega
theorem maxLv_mem {level:List Nat}:∀ {l:List Int},maxLv level l=0 ∨ ∃ x ∈ l,lv level x=maxLv level l
 | [] => .inl rfl
 | y :: l => by
   unfold maxLv
   rcases maxLv_mem (level:=level) (l:=l) with h | ⟨x,h1,h2⟩
   · rw [h]
     by_cases hy:lv level y=0
     · left; omega
     · right; exact ⟨y,List.mem_cons_self,by omega⟩
   · rcases Nat.le_total (lv level y) (maxLv level l) with h3 | h3
     · right; exact ⟨x,List.mem_cons_of_mem _ h1,by omega⟩
     · right; exact ⟨y,List.mem_cons_self,by omega⟩
theorem maxLv_snoc {level:List Nat}:∀ {l:List Int} {x:Int},maxLv level (l ++ [x])=max (maxLv level l) (lv level x)
 | [],x => by simp [maxLv]
 | y :: l,x => by
   rw [List.cons_append]
   unfold maxLv
   rw [maxLv_snoc]; omega
theorem clrW_len:∀ (ls:List Int) (V:List (Option Nat)),(clrW ls V).length=V.length
 | [],_ => rfl
 | x :: ls,V => by unfold clrW; rw [List.foldl_cons]; exact (clrW_len ls _).trans (List.length_set ..)
theorem clrW_get:∀ (ls:List Int) (V:List (Option Nat)) (i:Nat),i ∉ ls.map vr→(clrW ls V)[i]?=V[i]?
 | [],_,_,_ => rfl
 | x :: ls,V,i,h => by
   rw [List.map_cons,List.mem_cons] at h
   have:=clrW_get ls (V.set (vr x) none) i fun h' => h (.inr h')
   unfold clrW at this ⊢
   rw [List.foldl_cons,this,List.getElem?_set_ne fun e => h (.inl e.symm)]
theorem Inv.undo {F:Fm} {n:Nat} {st:St} (h:Inv F n st) (j:Nat):Inv F n (st.undo j):=by
 unfold St.undo
 split
 · rename_i hj
   refine ⟨h.tr.undo hj,by show (clrW _ _).length=n; rw [clrW_len]; exact h.wlen,h.stp,fun pre x post e hl => ?_⟩
   replace e:st.trail.take st.limits[j]=pre ++ x :: post:=e
   replace hl:pre.length ∉ st.limits.take j:=hl
   have e1:st.trail=pre ++ x :: (post ++ st.trail.drop st.limits[j]):=by rw [← List.cons_append,← List.append_assoc,← e,List.take_append_drop]
   have hp:pre.length < st.limits[j]:=by
     have:=congrArg List.length e
     rw [List.length_take,List.length_append,List.length_cons] at this
     omega
   obtain ⟨r,rc,h1,h2,h3,h4⟩:=h.imp pre x _ e1 fun hm => by
     rw [← List.take_append_drop j st.limits,List.mem_append] at hm
     rcases hm with hm | hm
     · exact hl hm
     · rw [List.drop_eq_getElem_cons hj] at hm
       have hs:=h.tr.srt
       rw [← List.take_append_drop j st.limits,List.pairwise_append,List.drop_eq_getElem_cons hj,List.pairwise_cons] at hs
       rcases List.mem_cons.1 hm with hm | hm
       · omega
       · have:=hs.2.1.1 _ hm; omega
   refine ⟨r,rc,?_,h2,h3,h4⟩
   show (clrW _ _)[vr x]?=_
   rw [clrW_get,h1]
   intro hm
   obtain ⟨y,hy,hv⟩:=List.mem_map.1 hm
   have hxm:x ∈ st.trail:=by rw [e1]; simp
   have hym:=List.mem_of_mem_drop hy
   obtain ⟨q1,q2,e2⟩:=mem_pre hy
   have hd:=h.tr.dis (st.trail.take st.limits[j] ++ q1) y q2 (by rw [List.append_assoc,← e2,List.take_append_drop])
   have hxt:x ∈ st.trail.take st.limits[j]:=by rw [e]; simp
   rcases vr_eq (h.tr.lit y hym).1 (h.tr.lit x hxm).1 hv with h5 | h5
   · exact hd.1 (List.mem_append_left _ (by rw [← h5]; exact hxt))
   · exact hd.2 (List.mem_append_left _ (by rw [← h5]; exact hxt))
 · exact h
structure Learned (F:Fm) (n:Nat) (st st':St) (top:Nat):Prop where
 pos:0 < top
 ex:∃ (st2:St) (r:Nat) (lits:List Int) (step:Int) (back m p:Nat) (t0:Int),Same (st.undo top) st2∧Inv F n st2∧st2.limits.length=top∧st2.limits[top - 1]?=some p∧st'=st2.jumped r lits step back∧st2.R r=none∧CL F st2 lits step m ∧
   (lits.Pairwise fun a b => vr a ≠ vr b)∧lits[0]?=some t0∧lv st2.level t0=top∧(∀ x ∈ lits,x ≠ t0→lv st2.level x≤back)∧back < top∧(∀ y,lits[1]?=some y→lv st2.level y=back) ∧
   st2.steps.length≤st.steps.length + 1 + 2 * (st2.trail.length - p - 1)∧(back=0 ∨ ∃ x ∈ lits,lv st2.level x=back∧x ≠ t0)
def bo (x:Int):Int:=if x < 0 then -x - 1 else x - 1
def cf (x y:Int):Int:=if bo x=bo y then y - x else bo x - bo y
theorem bo_eq {x y:Int} (h:bo x=bo y):x=y ∨ (x=-y) ∨ x=0 ∨ y=0:=by unfold bo at h; split at h <;> split at h <;> omega
theorem cf_irrefl (x:Int):¬ cf x x < 0:=by unfold cf; rw [if_pos rfl]; omega
theorem cf_trans {x y z:Int} (h1:cf x y < 0) (h2:cf y z < 0):cf x z < 0:=by
 unfold cf at *
 split at h1 <;> split at h2 <;> split <;> omega
theorem cf_ntrans {x y z:Int} (h1:¬ cf x y < 0) (h2:¬ cf y z < 0):¬ cf x z < 0:=by
 unfold cf at *
 split at h1 <;> split at h2 <;> split <;> omega
theorem cf_total {x y:Int} (h1:¬ cf x y < 0) (h2:¬ cf y x < 0):x=y:=by
 unfold cf at *
 split at h1 <;> split at h2 <;> first | omega | (have:=bo_eq ‹_›; omega)
theorem cf_bo {x y:Int} (h:cf x y < 0):bo x≤bo y:=by
 unfold cf at h; split at h <;> omega
theorem bo_abs {x:Int} (h:x ≠ 0):bo x=(x.natAbs:Int) - 1:=by unfold bo; split <;> omega
theorem norm_of_sorted {c out:List Int} (hs:out.Pairwise fun a b => cf a b < 0) (hm:∀ z,z ∈ out ↔ z ∈ c) (hz:∀ x ∈ c,x ≠ 0∧x ≠ minInt) (hadj:∀ i,i + 1 < out.length→bo (out.getD (i + 1) 0) ≠ bo (out.getD i 0)):norm c=some out:=by
 have hsb:SortedA out:=by
   rw [SortedA,List.pairwise_iff_getElem]
   intro i j hi hj hij
   have hle:∀ k,i + 1≤k→(hk:k < out.length)→bo out[i] < bo out[k]:=by
     intro k hik
     induction k with
     | zero => omega
     | succ k ih =>
       intro hk
       have ha:=hadj k hk
       rw [show out.getD (k + 1) 0=out[k + 1] from by simp [hk],show out.getD k 0=out[k] from by simp [show k < out.length from by omega]] at ha
       have hp:=List.pairwise_iff_getElem.1 hs k (k + 1) (by omega) hk (by omega)
       have hb:=cf_bo hp
       by_cases e:i=k
       · subst e; omega
       · have:=ih (by omega) (by omega); omega
   have:=hle j (by omega) hj
   rw [bo_abs (hz _ ((hm _).1 (List.getElem_mem hi))).1,bo_abs (hz _ ((hm _).1 (List.getElem_mem hj))).1] at this
   omega
 refine norm_eq hsb hm fun x hx => ⟨(hz x hx).1,(hz x hx).2,fun hn => ?_⟩
 have h1:=(hm x).2 hx
 have h2:=(hm _).2 hn
 obtain ⟨i,hi,e1⟩:=List.mem_iff_getElem.1 h1
 obtain ⟨j,hj,e2⟩:=List.mem_iff_getElem.1 h2
 have hx0:=(hz x hx).1
 rcases Nat.lt_trichotomy i j with h | h | h
 · have:=List.pairwise_iff_getElem.1 hsb i j hi hj h
   rw [e1,e2,Int.natAbs_neg] at this; omega
 · subst h; omega
 · have:=List.pairwise_iff_getElem.1 hsb j i hj hi h
   rw [e1,e2,Int.natAbs_neg] at this; omega
theorem norm_of_pair {c out:List Int} (hs:out.Pairwise fun a b => cf a b < 0) (hm:∀ z,z ∈ out ↔ z ∈ c) (hz:∀ x ∈ c,x ≠ 0) {i:Nat} (hi:i + 1 < out.length) (h:bo (out.getD (i + 1) 0)=bo (out.getD i 0)):norm c=none:=by
 refine norm_none fun hc => ?_
 rw [show out.getD (i + 1) 0=out[i + 1] from by simp [hi],show out.getD i 0=out[i] from by simp [show i < out.length from by omega]] at h
 have hp:=List.pairwise_iff_getElem.1 hs i (i + 1) (by omega) hi (by omega)
 have m1:=(hm _).1 (List.getElem_mem (n:=i + 1) hi)
 have m2:=(hm _).1 (List.getElem_mem (l:=out) (n:=i) (by omega))
 have:=hz _ m1
 have:=hz _ m2
 rcases bo_eq h with e | e | e | e
 · rw [e] at hp; exact cf_irrefl _ hp
 · exact (hc _ m2).2.2 (by rw [← e]; exact m1)
 · omega
 · omega
end Go.Sv
namespace Go.Proofs
open Go.Shelf
def Ythfnjogadngfiaa.sortL_ren:Go.Shelf.Ren:=⟨fun | 6 => 68 | 15 => 90 | 14 => 89 | 28 => 109 | 29 => 110 | 20 => 101 | 21 => 102 | 22 => 103 | 23 => 104 | 24 => 105 | 25 => 106 | 26 => 107 | 27 => 108 | 46 => 112 | 47 => 113 | 48 => 114 | 49 => 115 | 50 => 116 | 57 => 118 | n => n,fun | 22 => 33 | 24 => 3 | 25 => 115 | 3 => 3 | 39 => 131 | 0 => 0 | 53 => 148 | 55 => 150 | 4 => 4 | 46 => 142 | 45 => 141 | 50 => 117 | 5 => 5 | 9 => 9 | 66 => 153 | 70 => 157 | 76 => 159 | 77 => 160 | n => n,fun | n => n⟩
theorem Ythfnjogadngfiaa.sortL:Go.Proofs.SlLaysF.n6 Try.prog Ythfnjogadngfiaa.sortL_ren:={
 mixed:=by kernel_rfl
 f6:=⟨Try.f68.name,by decide,Try.func68.trans (congrArg some (by kernel_rfl))⟩
 f14:=⟨Try.f89.name,by decide,Try.func89.trans (congrArg some (by kernel_rfl))⟩
 f15:=Try.func90.trans (congrArg some (by kernel_rfl))
 f20:=⟨Try.f101.name,by decide,Try.func101.trans (congrArg some (by kernel_rfl))⟩
 f21:=⟨Try.f102.name,by decide,Try.func102.trans (congrArg some (by kernel_rfl))⟩
 f22:=⟨Try.f103.name,by decide,Try.func103.trans (congrArg some (by kernel_rfl))⟩
 f23:=⟨Try.f104.name,by decide,Try.func104.trans (congrArg some (by kernel_rfl))⟩
 f24:=⟨Try.f105.name,by decide,Try.func105.trans (congrArg some (by kernel_rfl))⟩
 f25:=⟨Try.f106.name,by decide,Try.func106.trans (congrArg some (by kernel_rfl))⟩
 f26:=⟨Try.f107.name,by decide,Try.func107.trans (congrArg some (by kernel_rfl))⟩
 f27:=⟨Try.f108.name,by decide,Try.func108.trans (congrArg some (by kernel_rfl))⟩
 f28:=Try.func109.trans (congrArg some (by kernel_rfl))
 f29:=Try.func110.trans (congrArg some (by kernel_rfl))
 f46:=⟨Try.f112.name,by decide,Try.func112.trans (congrArg some (by kernel_rfl))⟩
 f47:=Try.func113.trans (congrArg some (by kernel_rfl))
 f48:=Try.func114.trans (congrArg some (by kernel_rfl))
 f49:=⟨Try.f115.name,by decide,Try.func115.trans (congrArg some (by kernel_rfl))⟩
 f50:=⟨Try.f116.name,by decide,Try.func116.trans (congrArg some (by kernel_rfl))⟩
 f57:=⟨Try.f118.name,by decide,Try.func118.trans (congrArg some (by kernel_rfl))⟩
 t0:=Try.underlying0
 a0:=Try.isAgg0
 z0:=Try.sizeOf0
 v0:=Try.zeroValue0
 t3:=Try.underlying3
 a3:=Try.isAgg3
 z3:=Try.sizeOf3
 v3:=Try.zeroValue3
 t4:=Try.underlying4
 a4:=Try.isAgg4
 z4:=Try.sizeOf4
 v4:=Try.zeroValue4
 t5:=Try.underlying5
 a5:=Try.isAgg5
 z5:=Try.sizeOf5
 v5:=Try.zeroValue5
 t9:=Try.underlying9
 a9:=Try.isAgg9
 z9:=Try.sizeOf9
 v9:=Try.zeroValue9
 t22:=Try.underlying33
 a22:=Try.isAgg33
 z22:=Try.sizeOf33
 v22:=Try.zeroValue33
 a24:=Try.isAgg3
 z24:=Try.sizeOf3
 t25:=Try.underlying115
 a25:=Try.isAgg115
 z25:=Try.sizeOf115
 v25:=Try.zeroValue115
 t39:=Try.underlying131
 a39:=Try.isAgg131
 z39:=Try.sizeOf131
 v39:=Try.zeroValue131
 t45:=Try.underlying141
 a45:=Try.isAgg141
 z45:=Try.sizeOf141
 v45:=Try.zeroValue141
 t46:=Try.underlying142
 a46:=Try.isAgg142
 z46:=Try.sizeOf142
 v46:=Try.zeroValue142
 t50:=Try.underlying117
 a50:=Try.isAgg117
 z50:=Try.sizeOf117
 v50:=Try.zeroValue117
 t53:=Try.underlying148
 a53:=Try.isAgg148
 z53:=Try.sizeOf148
 v53:=Try.zeroValue148
 t55:=Try.underlying150
 a55:=Try.isAgg150
 z55:=Try.sizeOf150
 v55:=Try.zeroValue150
 t66:=Try.underlying153
 a66:=Try.isAgg153
 z66:=Try.sizeOf153
 v66:=Try.zeroValue153
 t70:=Try.underlying157
 a70:=Try.isAgg157
 z70:=Try.sizeOf157
 v70:=Try.zeroValue157
 t76:=Try.underlying159
 a76:=Try.isAgg159
 z76:=Try.sizeOf159
 v76:=Try.zeroValue159
 t77:=Try.underlying160
 a77:=Try.isAgg160
 z77:=Try.sizeOf160
 v77:=Try.zeroValue160 }
def Ythfnjogadngfiaa.compactL_ren:Go.Shelf.Ren:=⟨fun | 20 => 71 | n => n,fun | 22 => 33 | 3 => 3 | 4 => 4 | 0 => 0 | n => n,fun | n => n⟩
theorem Ythfnjogadngfiaa.compactL:Go.Proofs.Lays2.n20 Try.prog Ythfnjogadngfiaa.compactL_ren:={
 mixed:=by kernel_rfl
 f20:=Try.func71.trans (congrArg some (by kernel_rfl))
 t0:=Try.underlying0
 a0:=Try.isAgg0
 z0:=Try.sizeOf0
 v0:=Try.zeroValue0
 t3:=Try.underlying3
 a3:=Try.isAgg3
 z3:=Try.sizeOf3
 v3:=Try.zeroValue3
 t4:=Try.underlying4
 a4:=Try.isAgg4
 z4:=Try.sizeOf4
 v4:=Try.zeroValue4
 t22:=Try.underlying33
 a22:=Try.isAgg33
 z22:=Try.sizeOf33
 v22:=Try.zeroValue33
 i3:=by kernel_rfl }
end Go.Proofs
namespace Go.Proofs.Ythfnjogadngfiaa
open Go.Shelf Go.RowKit Go.Lib Go.Sort
open Go.Sv (bo cf)
theorem cl70 (x:Int) (hx:Lit x) (W:World):Calls Try.prog 70 #[.int .i64 x] W fun e w' => e=.returned (.int .i64 (bo x))∧w'=W:=by
 obtain ⟨h1,h2⟩:=hx
 have e1:IntKind.i64.wrap (0 - x)=-x:=by rw [Go.Sl.w64 (by omega) (by omega)]; omega
 have e2:IntKind.i64.wrap (-x - 1)=-x - 1:=Go.Sl.w64 (by omega) (by omega)
 have e3:IntKind.i64.wrap (x - 1)=x - 1:=Go.Sl.w64 (by omega) (by omega)
 by_cases h:x < 0
 · have:bo x=-x - 1:=if_pos h
   rw [this]
   go_enter Try.func70,Try.ntmps70
   go_wp2
   go_ret
   exact ⟨rfl,rfl⟩
 · have:bo x=x - 1:=if_neg h
   rw [this]
   go_enter Try.func70,Try.ntmps70
   go_wp2
   go_ret
   exact ⟨rfl,rfl⟩
theorem cl69 (x y:Int) (hx:Lit x) (hy:Lit y) (W:World):Calls Try.prog 69 #[.int .i64 x,.int .i64 y] W fun e w' => e=.returned (.int .i64 (cf x y))∧∃ q,w'=W.drewN q:=by
 have b1:-1152921504606846977≤bo x∧bo x≤1152921504606846976:=by unfold Lit at hx; unfold bo; split <;> omega
 have b2:-1152921504606846977≤bo y∧bo y≤1152921504606846976:=by unfold Lit at hy; unfold bo; split <;> omega
 have e1:IntKind.i64.wrap (bo x - bo y)=bo x - bo y:=Go.Sl.w64 (by omega) (by omega)
 have e2:IntKind.i64.wrap (y - x)=y - x:=by unfold Lit at hx hy; exact Go.Sl.w64 (by omega) (by omega)
 have hcf:cf x y=if bo x=bo y then y - x else bo x - bo y:=rfl
 clear b1 b2
 generalize cf x y=r at *
 by_cases h:bo x=bo y
 · rw [if_pos h] at hcf
   subst hcf
   have h0:bo x - bo y=0:=by omega
   rw [h0] at e1
   go_enter Try.func69,Try.ntmps69
   go_wp2_with (go_at_call 70; refine (cl70 _ (by assumption) _).mono ?_; rintro e w' ⟨rfl,rfl⟩)
   go_ret
   exact ⟨rfl,0,rfl⟩
 · rw [if_neg h] at hcf
   subst hcf
   have h0:¬ bo x - bo y=0:=by omega
   go_enter Try.func69,Try.ntmps69
   go_wp2_with (go_at_call 70; refine (cl70 _ (by assumption) _).mono ?_; rintro e w' ⟨rfl,rfl⟩)
   go_ret
   exact ⟨rfl,0,rfl⟩
end Go.Proofs.Ythfnjogadngfiaa
namespace Go.Proofs.Ythfnjogadngfiaa
open Go.Sl Go.Sv
abbrev LitT:={ x:Int // Lit x }
instance:Inhabited LitT:=⟨⟨1,by unfold Lit; omega⟩⟩
def encL (x:LitT):Value:=.int .i64 x.1
def dOf (l:List Int) (h:∀ x ∈ l,Lit x):Array LitT:=(l.pmap Subtype.mk h).toArray
theorem dOf_size {l:List Int} (h:∀ x ∈ l,Lit x):(dOf l h).size=l.length:=by unfold dOf; simp
theorem dOf_map {l:List Int} (h:∀ x ∈ l,Lit x):(dOf l h).toList.map Subtype.val=l:=by
 unfold dOf
 simp [List.map_pmap]
theorem dOf_get {l:List Int} (h:∀ x ∈ l,Lit x) {j:Nat} (hj:j < l.length):((dOf l h)[j]!).1=l[j]:=by
 have h1:j < (dOf l h).size:=by rw [dOf_size]; exact hj
 rw [getElem!_pos (dOf l h) j h1]
 have h2:(dOf l h)[j]?=some ⟨l[j],h _ (List.getElem_mem hj)⟩:=by
   unfold dOf
   rw [List.getElem?_toArray,List.getElem?_pmap]
   simp [hj]
 rw [Array.getElem?_eq_getElem h1] at h2
 rw [Option.some.inj h2]
theorem cp_of_row {α:Type} [Inhabited α] {enc:α→Value} {σ:PH} {w:World} (hw:σ.le w) {b:Nat} {arr:Array Value} {e:TypeId} {f:Nat × Nat} (hb:σ b=some (.cells arr e f)) (n:Nat) (d':Array α) (os:Array Obj) {v:Value} {Q:Value→PH→Prop}
   (hQ:Q v (σ.set b (.cells (Go.Sort.putCells enc 0 d' arr) e f))):CP Q σ w (.returned v) (Go.Sort.grow (Go.Sort.putRow enc (Go.Sort.ahead w n) b 0 d') os):=by
 have hbw:=hw _ _ hb
 have hlt:b < w.heap.size:=(Array.getElem?_eq_some_iff.1 hbw).1
 refine ⟨v,_,rfl,hQ,?_,rfl,rfl,rfl,?_,?_,?_⟩
 · intro c o hc
   show (w.heap.modify b _ ++ os)[c]?=some o
   unfold PH.set at hc
   by_cases hcb:c=b
   · rw [if_pos hcb] at hc
     cases hc
     rw [hcb,Array.getElem?_append_left (by simpa using hlt),Array.getElem?_modify,if_pos rfl,hbw]
     rfl
   · rw [if_neg hcb] at hc
     have hcw:=hw _ _ hc
     have hcl:c < w.heap.size:=(Array.getElem?_eq_some_iff.1 hcw).1
     rw [Array.getElem?_append_left (by simpa using hcl),Array.getElem?_modify,if_neg (Ne.symm hcb)]
     exact hcw
 · show w.heap.size≤(w.heap.modify b _ ++ os).size
   rw [Array.size_append,Array.size_modify]; omega
 · intro c hc hn
   show (w.heap.modify b _ ++ os)[c]?=_
   have hcb:b ≠ c:=by rintro rfl; rw [hb] at hn; cases hn
   rw [Array.getElem?_append_left (by simpa using hc),Array.getElem?_modify,if_neg hcb]
 · intro c hc hn
   rw [set_other]
   · exact hn
   · rintro rfl; rw [hb] at hn; cases hn
theorem holds_of {α:Type} [Inhabited α] {enc:α→Value} {σ:PH} {w:World} (hw:σ.le w) {b:Nat} {arr:Array Value} {e:TypeId} (hb:σ b=some (.cells arr e (0,0))) {d:Array α} (h:∀ j,j < d.size→arr[j]?=some (enc d[j]!)):Go.Sort.Holds enc w b 0 d:=by
 intro j hj
 have hbw:=hw _ _ hb
 refine ⟨?_,?_⟩
 · unfold World.cell?
   simp only [hbw,Nat.zero_add]
   exact h j hj
 · unfold World.frozen?
   simp only [hbw]
   simp
theorem putCells_take {α:Type} [Inhabited α] {enc:α→Value} {d:Array α} {arr:Array Value} {n:Nat} (hn:d.size=n) (ha:n≤arr.size):(Go.Sort.putCells enc 0 d arr).toList.take n=d.toList.map enc:=by
 apply List.ext_getElem?
 intro i
 rw [List.getElem?_take]
 by_cases hi:i < n
 · rw [if_pos hi,Array.getElem?_toList,List.getElem?_map,Array.getElem?_toList]
   unfold Go.Sort.putCells
   rw [Array.getElem?_mapIdx,Array.getElem?_eq_getElem (by omega),Array.getElem?_eq_getElem (by omega)]
   simp only [Option.map_some,Nat.zero_le,Nat.zero_add,true_and,Nat.sub_zero]
   rw [if_pos (by omega),getElem!_pos d i (by omega)]
 · rw [if_neg hi,List.getElem?_eq_none]
   simp; omega
theorem putCells_size {α:Type} [Inhabited α] {enc:α→Value} {d:Array α} {arr:Array Value}:(Go.Sort.putCells enc 0 d arr).size=arr.size:=by unfold Go.Sort.putCells; simp
theorem c68 {σ:PH} {b c:Nat} {l:List Int} (hO:Own σ 3 1 (some ⟨b,0,none⟩) l.length c (ints l)) (hl:∀ x ∈ l,Lit x) (hn:l.length≤1000000) :
   C 68 #[.slice (some ⟨b,0,none⟩) l.length c,.func (.func 69) #[] #[]] (fun v τ => v=.tuple #[]∧∃ l',l'.Perm l∧(l'.Pairwise fun x y => ¬ cf y x < 0)∧Own τ 3 1 (some ⟨b,0,none⟩) l.length c (ints l')∧Step (·=b) σ τ) σ:=by
 refine ICall.ofBase ?_
 intro w hw
 obtain ⟨arr,hb,hs,ht⟩:∃ arr,σ b=some (.cells arr 3 (0,0))∧arr.size=c∧arr.toList.take l.length=ints l:=by
   rcases hO.row with ⟨h,_⟩ | ⟨b',arr,h1,h2,h3,h4⟩
   · cases h
   · cases h1; exact ⟨arr,h2,by rw [h3,Nat.mul_one],by rw [← h4,Nat.mul_one]⟩
 have hle:=hO.le
 have hbw:=hw _ _ hb
 have hlt:b < w.heap.size:=(Array.getElem?_eq_some_iff.1 hbw).1
 have eg:∀ args w,(callFunc 69 args).run Try.prog w=.ok (.enter 69 args) w:=enters_of Try.func69 (by kernel_rfl) rfl
 have hcmp:CmpReads Try.prog 69 #[] encL (fun x y:LitT => cf x.1 y.1) b 0 (dOf l hl).size w:=fun _ _ _ _ x y => cl69 x.1 y.1 x.2 y.2 _
 have hswo:Go.Sort.SWO (ltOf fun x y:LitT => cf x.1 y.1):=⟨fun x => decide_eq_false (cf_irrefl x.1),fun x y z h1 h2 => decide_eq_true (cf_trans (of_decide_eq_true h1) (of_decide_eq_true h2)),fun x y z h1 h2 => decide_eq_false (cf_ntrans (of_decide_eq_false h1) (of_decide_eq_false h2))⟩
 have hH:Go.Sort.Holds encL w b 0 (dOf l hl):=holds_of hw hb fun j hj => by
   rw [dOf_size] at hj
   have:(ints l)[j]?=some (.int .i64 l[j]):=by simp [ints,hj]
   rw [← ht,List.getElem?_take,if_pos hj,Array.getElem?_toList] at this
   rw [this]
   unfold encL
   rw [dOf_get hl hj]
 have hcon:=Any.slices_SortFunc sortL encL (fun _ => rfl) (fun x y:LitT => cf x.1 y.1) hswo 69 #[] b 0 c (dOf l hl) w eg hcmp.lays hH hlt (by rw [dOf_size]; omega)
 rw [dOf_size] at hcon
 refine Calls.mono hcon ?_
 rintro e w' ⟨rfl,d',n,os,hp,hsd,rfl⟩
 have hsz:d'.size=l.length:=by rw [hp.1,dOf_size]
 refine cp_of_row hw hb n d' os ⟨rfl,d'.toList.map Subtype.val,?_,?_,⟨?_,hle,.inr ⟨b,_,rfl,set_self,?_,?_⟩⟩,set_step⟩
 · have h3:=hp.2.2
   rw [Array.extract_eq_self_of_le (by omega),Array.extract_eq_self_of_le (by rw [dOf_size]; omega)] at h3
   have:=h3.map Subtype.val
   rw [dOf_map] at this
   exact this
 · rw [List.pairwise_map,List.pairwise_iff_getElem]
   intro i j hi hj hij
   have:=hsd i j (Nat.zero_le _) hij (by simpa [hsz] using hj)
   rw [getElem!_pos d' j (by simpa using hj),getElem!_pos d' i (by simpa using hi)] at this
   simpa using of_decide_eq_false this
 · simp [ints,hsz]
 · rw [putCells_size,hs,Nat.mul_one]
 · rw [Nat.mul_one,putCells_take hsz (by omega)]
   unfold ints
   rw [List.map_map]; rfl
theorem compact_spec {zs:List Int} (hs:zs.Pairwise fun x y => ¬ cf y x < 0):((Go.Lib.compact zs).Pairwise fun x y => cf x y < 0)∧(∀ z,z ∈ Go.Lib.compact zs ↔ z ∈ zs)∧(Go.Lib.compact zs).length≤zs.length:=by
 have get:∀ j,j < zs.length→zs.toArray[j]! = zs[j]!:=fun j hj => by simp
 have le:∀ i j,i≤j→(hj:j < zs.length)→¬ cf zs[j]! zs[i]! < 0:=by
   intro i j hij hj
   rcases Nat.eq_or_lt_of_le hij with h | h
   · subst h; exact cf_irrefl _
   · rw [getElem!_pos zs j hj,getElem!_pos zs i (by omega)]
     exact List.pairwise_iff_getElem.1 hs i j (by omega) hj h
 refine ⟨?_,fun z => ⟨fun h => ?_,fun h => ?_⟩,?_⟩
 · unfold Go.Lib.compact Go.Lib.compactUpTo
   rw [List.pairwise_map,List.pairwise_filter]
   rw [List.pairwise_iff_getElem]
   intro i j hi hj hij _ hk
   simp only [List.length_range] at hi hj
   simp only [List.getElem_range] at hk ⊢
   simp only [Go.Lib.keeps,decide_eq_true_eq] at hk
   rw [get i hi,get j hj]
   rw [get j hj,get (j - 1) (by omega)] at hk
   have hne:zs[j]! ≠ zs[j - 1]!:=by
     rcases hk with h | h
     · omega
     · exact h
   have h1:=le (j - 1) j (by omega) hj
   have h2:cf zs[j - 1]! zs[j]! < 0:=by
     by_cases h3:cf zs[j - 1]! zs[j]! < 0
     · exact h3
     · exact absurd (cf_total h1 h3) hne
   by_cases h3:cf zs[i]! zs[j]! < 0
   · exact h3
   · exact absurd h2 (cf_ntrans (le i (j - 1) (by omega) (by omega)) h3)
 · unfold Go.Lib.compact Go.Lib.compactUpTo at h
   obtain ⟨j,hj,rfl⟩:=List.mem_map.1 h
   have hj:=(List.mem_filter.1 hj).1
   rw [List.mem_range] at hj
   rw [get j hj,getElem!_pos zs j hj]
   exact List.getElem_mem hj
 · obtain ⟨j,hj,rfl⟩:=List.mem_iff_getElem.1 h
   have key:∀ j,(hj:j < zs.length)→zs[j] ∈ Go.Lib.compact zs:=by
     intro j
     induction j with
     | zero =>
       intro hj
       unfold Go.Lib.compact Go.Lib.compactUpTo
       refine List.mem_map.2 ⟨0,List.mem_filter.2 ⟨List.mem_range.2 hj,by simp [Go.Lib.keeps]⟩,?_⟩
       rw [get 0 hj,getElem!_pos zs 0 hj]
     | succ j ih =>
       intro hj
       by_cases h:zs[j + 1]=zs[j]
       · rw [h]; exact ih (by omega)
       · unfold Go.Lib.compact Go.Lib.compactUpTo
         refine List.mem_map.2 ⟨j + 1,List.mem_filter.2 ⟨List.mem_range.2 hj,?_⟩,?_⟩
         · simp only [Go.Lib.keeps,decide_eq_true_eq]
           right
           rw [get _ hj,Nat.add_sub_cancel,get j (by omega),getElem!_pos zs (j + 1) hj,getElem!_pos zs j (by omega)]
           exact h
         · rw [get _ hj,getElem!_pos zs (j + 1) hj]
   exact key j hj
 · unfold Go.Lib.compact Go.Lib.compactUpTo
   rw [List.length_map]
   exact Nat.le_trans (List.length_filter_le ..) (by simp)
theorem c71 {σ:PH} {b c:Nat} {l:List Int} (hO:Own σ 3 1 (some ⟨b,0,none⟩) l.length c (ints l)) (hn:l.length≤1000000) (hs:l.Pairwise fun x y => ¬ cf y x < 0) :
   C 71 #[.slice (some ⟨b,0,none⟩) l.length c] (fun v τ => ∃ l',v=.slice (some ⟨b,0,none⟩) l'.length c∧(l'.Pairwise fun x y => cf x y < 0)∧(∀ z,z ∈ l' ↔ z ∈ l)∧l'.length≤l.length∧Own τ 3 1 (some ⟨b,0,none⟩) l'.length c (ints l')∧Step (·=b) σ τ) σ:=by
 refine ICall.ofBase ?_
 intro w hw
 obtain ⟨arr,hb,hsz,ht⟩:∃ arr,σ b=some (.cells arr 3 (0,0))∧arr.size=c∧arr.toList.take l.length=ints l:=by
   rcases hO.row with ⟨h,_⟩ | ⟨b',arr,h1,h2,h3,h4⟩
   · cases h
   · cases h1; exact ⟨arr,h2,by rw [h3,Nat.mul_one],by rw [← h4,Nat.mul_one]⟩
 have hle:=hO.le
 have hH:Go.Sort.Holds (Value.int .i64) w b 0 l.toArray:=holds_of hw hb fun j hj => by
   have hj:j < l.length:=by simpa using hj
   have:(ints l)[j]?=some (.int .i64 l[j]):=by simp [ints,hj]
   rw [← ht,List.getElem?_take,if_pos hj,Array.getElem?_toList] at this
   rw [this]
   simp [hj]
 have hcon:=Any.slices_Compact_int compactL b 0 c l w hH (by omega) hle
 refine Calls.mono hcon ?_
 obtain ⟨c1,c2,c3⟩:=compact_spec hs
 rintro e w' ⟨rfl,q,rfl⟩
 have e0:∀ w:World,w=Go.Sort.grow w #[]:=fun w => by simp [Go.Sort.grow]
 rw [e0 (Go.Sort.putRow _ _ _ _ _)]
 have hsz2:(Go.Lib.compact l ++ List.replicate (l.length - (Go.Lib.compact l).length) 0).toArray.size=l.length:=by simp; omega
 refine cp_of_row hw hb q _ #[] ⟨Go.Lib.compact l,rfl,c1,c2,c3,⟨by simp [ints],by omega,.inr ⟨b,_,rfl,set_self,?_,?_⟩⟩,set_step⟩
 · rw [putCells_size,hsz,Nat.mul_one]
 · have:=putCells_take (enc:=Value.int .i64) hsz2 (arr:=arr) (by omega)
   have h2:=congrArg (List.take (Go.Lib.compact l).length) this
   rw [List.take_take,Nat.min_eq_left c3] at h2
   rw [Nat.mul_one,h2]
   unfold ints
   simp
theorem c70 {x:Int} (h:Lit x) (σ:PH):C 70 #[.int .i64 x] (fun v τ => v=.int .i64 (bo x)∧τ=σ) σ:=by
 refine go (E70_0 _ _ _ _) ?_
 unfold S70_0
 obtain ⟨h1,h2⟩:=h
 unfold bo
 refine br_dec.2 ⟨fun hl => ⟨?_,rfl⟩,fun hl => ⟨?_,rfl⟩⟩
 · rw [if_pos hl,w64 (n:=0 - x) (by omega) (by omega),w64 (by omega) (by omega)]
   congr 1; omega
 · rw [if_neg hl,w64 (by omega) (by omega)]
theorem quiet70 {i:Int} (h:Lit i) (σ:PH):quiet C 70 #[.int .i64 i] (.int .i64 (bo i)) [] σ :=
 ⟨fun _ h => (by cases h),(c70 h _).mono hb fun v τ ⟨h1,h2⟩ => ⟨h1,h2 ▸ PH.sub.refl _⟩⟩
theorem c88 {σ:PH} {a:Option Addr} {n c:Nat} {l:List Int} {i:Int} (hn:Len n) (hl:Ints σ a n l):C 88 #[.slice a n c,.int .i64 i] (fun v τ => τ=σ∧∃ k:Int,v=.int .i64 k∧(0≤k ↔ i ∈ l)) σ:=by
 refine go (E88_0 _ _ _ _ _ _ _) ?_
 unfold S88_0 S88_1
 refine iloopS_for (G:=Unit) (fun k _ => (a,n,c,i,((n:Nat):Int),(k:Int))) (fun k _ τ => σ=τ∧i ∉ l.take k) n ?_ (g:=()) ⟨rfl,by simp⟩
 rintro k _ τ hk ⟨rfl,hI⟩ R hR
 unfold S88_2
 dsimp only
 refine br_dec.2 ⟨fun h => ?_,fun h => ?_⟩
 · obtain ⟨p,hp,hc⟩:=hl.at (i:=(k:Int)) (by omega) (by omega)
   have hlt:k < l.length:=by have:=hl.1; omega
   have hg:l.getD (k:Int).toNat 0=l[k]:=by simp [hlt]
   refine ⟨p,hp,by omega,by omega,_,hc,_,rfl,?_⟩
   rw [hg]
   refine br_iff.2 ⟨fun h1 => ⟨rfl,_,rfl,?_⟩,fun h1 => ?_⟩
   · have h1:i=l[k]:=by simpa using h1
     exact ⟨fun _ => h1 ▸ List.getElem_mem hlt,fun _ => by omega⟩
   · have h1:i ≠ l[k]:=by simpa using h1
     unfold Len at hn
     rw [wnat (by omega)]
     refine hR () σ (by omega) ⟨rfl,?_⟩
     rw [List.take_succ_eq_append_getElem hlt,List.mem_append,List.mem_singleton]
     rintro (h2 | h2)
     · exact hI h2
     · exact h1 h2
 · have hkn:k=n:=by omega
   subst hkn
   rw [List.take_of_length_le (by rw [hl.1]; exact Nat.le_refl _)] at hI
   exact ⟨rfl,_,rfl,⟨fun h => by omega,fun h => absurd h hI⟩⟩
theorem c67 {σ:PH} {a:Option Addr} {n c:Nat} {l:List Int} {i:Int} (hn:Len n) (hl:Ints σ a n l):C 67 #[.slice a n c,.int .i64 i] (fun v τ => σ=τ∧v=.bool (decide (i ∈ l))) σ:=by
 refine go (E67_0 _ _ _ _ _ _ _) ?_
 unfold S67_0
 refine (c88 hn hl).mono hb ?_
 rintro _ τ ⟨rfl,k,rfl,hk⟩
 refine ⟨_,PH.sub.refl _,_,rfl,rfl,?_⟩
 congr 1
 exact decide_eq_decide.2 (by rw [← hk])
theorem own_len {σ:PH} {a:Option Addr} {n c:Nat} {l:List Int} (o:Own σ 3 1 a n c (ints l)):n=l.length:=by
 have:=o.len; simp [ints] at this; omega
theorem own_known {σ:PH} {a:Option Addr} {n c:Nat} {l:List Int} (o:Own σ 3 1 a n c (ints l)) (hn:l ≠ []):∃ b,a=some ⟨b,0,none⟩:=by
 rcases o.row with ⟨h1,h2⟩ | ⟨b,_,h1,_⟩
 · have q1:=own_len o
   have q2:=o.le
   have h3:l.length=0:=by omega
   exact absurd (List.length_eq_zero_iff.1 h3) hn
 · exact ⟨b,h1⟩
theorem row_reads' {σ:PH} {a:Option Addr} {vs:List Value} (h:Row σ a vs):readsRow σ a vs:=by
 have key:∀ (vs:List Value) (p:Addr) (i:Nat),(∀ j v,vs[j]?=some v→σ.cell? (p.add (i + j))=some v)→Go.Sl.rowAt σ p i vs:=by
   intro vs
   induction vs with
   | nil => intro p i h; trivial
   | cons x xs ih =>
     intro p i h
     refine ⟨h 0 x rfl,ih p (i + 1) fun j v hv => ?_⟩
     have:=h (j + 1) v hv
     rw [← this]; congr 2; omega
 rcases h with rfl | ⟨p,rfl,h⟩
 · cases a <;> trivial
 · exact key vs p 0 fun j v hv => by rw [Nat.zero_add]; exact h j v hv
theorem ints_plain (l:List Int):∀ v ∈ ints l,Go.Sl.plainCell v:=by
 intro v hv
 obtain ⟨y,_,rfl⟩:=List.mem_map.1 hv
 trivial
theorem copyRow {σ:PH} {a:Option Addr} {n c:Nat} {l:List Int} (hl:Ints σ a n l) (hn:n≤1000000) {Q:Value→PH→Prop}
   (hQ:∀ a' c' τ,Own τ 3 1 a' n c' (ints l)→σ.sub τ→(∀ p,a'=some p→σ p.block=none)→Q (.slice a' n c') τ):iappend prog 3 (.slice none 0 0) (.slice a n c) Q σ:=by
 refine Own.append t3.1 t3.2.1 t3.2.2 rfl (by decide) (n:=0) (c:=0) (vs:=[]) (a:=none) ⟨by simp,Nat.le_refl _,.inl ⟨rfl,rfl⟩⟩ (m:=n) (news:=ints l) (row_reads' hl.2) (by simp [ints,hl.1]) (ints_plain l) (by omega) ?_
 intro a' c' τ hO hst hnew
 rw [Nat.zero_add] at hO ⊢
 rw [List.nil_append] at hO
 refine hQ a' c' τ hO (fun b o hb => hst.same b o hb (by rintro ⟨p,h,_⟩; cases h)) fun p hp => ?_
 rcases hnew with h1 | ⟨b,h1,h2⟩
 · rw [h1] at hp; cases hp
 · rw [hp] at h2; cases h2; exact h1
theorem c50 {σ:PH} {a:Option Addr} {n c:Nat} {l:List Int} (hl:Ints σ a n l) (hlit:∀ x ∈ l,Lit x) (hn:l.length≤1000000) :
   C 50 #[.slice a n c] (fun v τ => σ.sub τ∧∃ sl:Sli,(match norm l with
     | some out => v=.tuple #[sl.v,.bool true]∧Own τ 3 1 sl.a sl.n sl.c (ints out)∧(∀ p,sl.a=some p→σ p.block=none)
     | none => v=.tuple #[.slice none 0 0,.bool false])) σ:=by
 have hln:=hl.1
 refine go (E50_0 _ _ _ _ _ _) ?_
 unfold S50_0
 refine copyRow hl (by omega) fun a1 c1 σ1 O1 sub1 new1 => ?_
 refine ⟨_,_,_,rfl,?_⟩
 have L1:Len n:=by unfold Len; omega
 have I1:Ints σ1 a1 n l:=by
   refine ⟨hl.1,?_⟩
   by_cases hv:l=[]
   · left; rw [hv]; rfl
   · obtain ⟨b,hb⟩:=own_known O1 hv
     right
     refine ⟨_,hb,fun i v hi => ?_⟩
     obtain ⟨q,hq,hc⟩:=O1.get hi
     rw [hb] at hq; cases hq
     exact hc
 refine (c67 L1 I1).mono hb ?_
 rintro _ _ ⟨rfl,rfl⟩
 refine ⟨_,PH.sub.refl _,_,rfl,br_dec.2 ⟨fun h0 => ?_,fun h0 => ?_⟩⟩
 · rw [norm_none fun hc => (hc 0 h0).1 rfl]
   exact ⟨sub1,⟨none,0,0⟩,rfl⟩
 refine (c67 L1 I1).mono hb ?_
 rintro _ _ ⟨rfl,rfl⟩
 refine ⟨_,PH.sub.refl _,_,rfl,br_dec.2 ⟨fun hmin => ?_,fun hmin => ?_⟩⟩
 · rw [norm_none fun hc => (hc _ hmin).2.1 rfl]
   exact ⟨sub1,⟨none,0,0⟩,rfl⟩
 have hz:∀ x ∈ l,x ≠ 0∧x ≠ minInt:=fun x hx => ⟨fun e => h0 (e ▸ hx),fun e => hmin (by unfold minInt at e; exact e ▸ hx)⟩
 have back:∀ (l2:List Int) (a2:Option Addr) (c2:Nat) (σ2:PH),(l2.Pairwise fun x y => cf x y < 0)→(∀ z,z ∈ l2 ↔ z ∈ l)→l2.length≤l.length→Own σ2 3 1 a2 l2.length c2 (ints l2)→σ.sub σ2→(∀ p,a2=some p→σ p.block=none) →
     S50_1 C (fun v τ => σ.sub τ∧∃ sl:Sli,(match norm l with
     | some out => v=.tuple #[sl.v,.bool true]∧Own τ 3 1 sl.a sl.n sl.c (ints out)∧(∀ p,sl.a=some p→σ p.block=none)
     | none => v=.tuple #[.slice none 0 0,.bool false])) a2 l2.length c2 1 σ2:=by
   intro l2 a2 c2 σ2 hs2 hm2 hlen2 O2 sub2 new2
   unfold S50_1
   refine iloopS_for (G:=Unit) (fun k _ => (a2,l2.length,c2,((k + 1:Nat):Int))) (fun k _ υ => σ2=υ∧∀ i,i < k→i + 1 < l2.length→bo (l2.getD (i + 1) 0) ≠ bo (l2.getD i 0)) l2.length ?_ (g:=()) ⟨rfl,fun i hi => by omega⟩
   rintro k _ _ hk ⟨rfl,hI⟩ R hR
   unfold S50_2
   dsimp only
   simp only [Nat.mul_one]
   refine br_dec.2 ⟨fun hlt => ?_,fun hge => ?_⟩
   · have hk1:k + 1 < l2.length:=by omega
     obtain ⟨p,hp,hc⟩:=O2.get (i:=k + 1) (v:=.int .i64 (l2.getD (k + 1) 0)) (by simp [ints,hk1])
     obtain ⟨q,hq,hc'⟩:=O2.get (i:=k) (v:=.int .i64 (l2.getD k 0)) (by simp [ints,show k < l2.length from by omega])
     have w:IntKind.wrap .i64 (((k + 1:Nat):Int) - 1)=(k:Int):=by rw [w64 (by omega) (by omega)]; omega
     rw [w]
     have l1:Lit (l2.getD (k + 1) 0):=by rw [show l2.getD (k + 1) 0=l2[k + 1] from by simp [hk1]]; exact hlit _ ((hm2 _).1 (List.getElem_mem hk1))
     have l2':Lit (l2.getD k 0):=by rw [show l2.getD k 0=l2[k] from by simp [show k < l2.length from by omega]]; exact hlit _ ((hm2 _).1 (List.getElem_mem _))
     refine ⟨_,[],_,[],p,hp,by omega,by omega,_,by rw [Int.toNat_natCast]; exact hc,_,rfl,quiet70 l1 _,q,hq,by omega,by omega,_,by rw [Int.toNat_natCast]; exact hc',_,rfl,quiet70 l2' _,br_iff.2 ⟨fun he => ?_,fun he => ?_⟩⟩
     · rw [norm_of_pair hs2 hm2 (fun x hx => (hz x hx).1) hk1 (by simpa using he)]
       exact ⟨sub2,⟨none,0,0⟩,trivial⟩
     · rw [wnat (by omega)]
       refine hR () _ (by omega) ⟨rfl,fun i hi hi' => ?_⟩
       by_cases e:i=k
       · subst e; simpa using he
       · exact hI i (by omega) hi'
   · rw [norm_of_sorted hs2 hm2 hz fun i hi => hI i (by omega) hi]
     exact ⟨sub2,⟨a2,l2.length,c2⟩,rfl,O2,new2⟩
 by_cases hv:l=[]
 · subst hv
   have hn0:n=0:=by rw [← hl.1]; rfl
   subst hn0
   refine ICall.ofBase (P:=prog) (anns:=anns) (base:=SemCall prog) ?_
   intro w hw
   refine Calls.mono (AnyF.slices_SortFunc_none (P:=prog) { sortL with } a1 c1 _ w) ?_
   rintro e w' ⟨rfl,rfl⟩
   refine ⟨_,σ1,rfl,⟨σ1,PH.sub.refl _,rfl,?_⟩,hw,Fr.refl _ _⟩
   refine ICall.ofBase (P:=prog) (anns:=anns) (base:=SemCall prog) ?_
   intro w hw
   refine Calls.mono (Any.slices_Compact_int_empty (P:=prog) compactL a1 c1 w) ?_
   rintro e w' ⟨rfl,rfl⟩
   refine ⟨_,σ1,rfl,⟨σ1,PH.sub.refl _,_,_,_,rfl,?_⟩,hw,Fr.refl _ _⟩
   exact back [] a1 c1 σ1 .nil (fun z => Iff.rfl) (Nat.le_refl _) O1 sub1 new1
 · obtain ⟨b,rfl⟩:=own_known O1 hv
   obtain rfl:n=l.length:=hl.1.symm
   have hnb:σ b=none:=new1 _ rfl
   refine (c68 O1 hlit hn).mono hb ?_
   rintro _ σ2 ⟨rfl,l2,hp2,hs2,O2,st2⟩
   refine ⟨σ2,PH.sub.refl _,rfl,?_⟩
   have hll:=hp2.length_eq
   rw [← hll] at O2 ⊢
   refine (c71 O2 (by omega) hs2).mono hb ?_
   rintro _ σ3 ⟨l3,rfl,hs3,hm3,hlen3,O3,st3⟩
   refine ⟨σ3,PH.sub.refl _,_,_,_,rfl,back l3 _ _ σ3 hs3 (fun z => (hm3 z).trans hp2.mem_iff) (by omega) O3 ?_ (fun p hp => by cases hp; exact hnb)⟩
   intro c o hc
   have hcb:c ≠ b:=by rintro rfl; rw [hnb] at hc; cases hc
   exact st3.same c o (st2.same c o (sub1 _ _ hc) hcb) hcb
theorem c117 {σ:PH} {a:Option Addr} {n c:Nat} {l:List Int} (hO:Own σ 3 1 a n c (ints l)) (hn:l.length≤1000000) :
   C 117 #[.slice a n c] (fun v τ => ∃ sl:Sli,v=sl.v∧σ.sub τ∧Own τ 3 1 sl.a sl.n sl.c (ints l)∧(∀ p,sl.a=some p→σ p.block=none)) σ:=by
 have hln:=own_len hO
 refine go (E117_0 _ _ _ _ _ _) ?_
 unfold S117_0
 refine br_iff.2 ⟨fun h => ?_,fun h => fun b hbn => ?_⟩
 · have ha:a=none:=by simpa using h
   subst ha
   have hl0:l=[]:=by
     by_cases e:l=[]
     · exact e
     · obtain ⟨b,hb⟩:=own_known hO e; cases hb
   subst hl0
   exact ⟨⟨none,0,0⟩,rfl,PH.sub.refl _,⟨by simp [ints],Nat.le_refl _,.inl ⟨rfl,rfl⟩⟩,fun p hp => by cases hp⟩
 · have sb:=PH.sub_set (o:=.cells #[] 3) hbn
   have O1:Own (σ.set b (.cells #[] 3)) 3 1 (some ⟨b,0,none⟩) 0 0 []:=⟨by simp,Nat.le_refl _,.inr ⟨b,#[],rfl,set_self,rfl,rfl⟩⟩
   have O2:=hO.keep (M:=fun _ => False) sb.step (fun _ _ h => h)
   refine Own.append t3.1 t3.2.1 t3.2.2 rfl (by decide) O1 (m:=n) (news:=ints l) O2.reads (by simp [ints]; omega) (ints_plain l) (by omega) ?_
   intro a' c' τ hO' hst hnew
   rw [Nat.zero_add] at hO' ⊢
   rw [List.nil_append] at hO'
   refine ⟨_,_,_,rfl,⟨a',n,c'⟩,rfl,fun x o hx => ?_,hO',fun p hp => ?_⟩
   · refine hst.same x o (sb _ _ hx) ?_
     rintro ⟨p,h1,h2⟩
     cases h1
     rw [h2,hbn] at hx; cases hx
   · replace hp:a'=some p:=hp
     rcases hnew with h1 | ⟨b',h1,h2⟩
     · rw [h1] at hp; cases hp; exact hbn
     · rw [hp] at h2; cases h2
       cases hq:σ b' with
       | none => rfl
       | some o => rw [sb _ _ hq] at h1; cases h1
theorem c111 {σ:PH} {a:Option Addr} {n c:Nat} {l:List Int} (hl:Ints σ a n l) (hlit:∀ x ∈ l,Lit x) (hn:l.length≤1000000) {out:List Int} (ho:norm l=some out) :
   C 111 #[.slice a n c] (fun v τ => ∃ sl:Sli,v=sl.v∧σ.sub τ∧Own τ 3 1 sl.a sl.n sl.c (ints out)∧(∀ p,sl.a=some p→σ p.block=none)∧sl.n=out.length) σ:=by
 refine go (E111_0 _ _ _ _ _ _) ?_
 unfold S111_0
 refine (c50 hl hlit hn).mono hb ?_
 rintro v σ1 ⟨sub1,sl1,h1⟩
 rw [ho] at h1
 obtain ⟨rfl,O1,new1⟩:=h1
 refine ⟨σ1,PH.sub.refl _,_,_,_,_,rfl,?_⟩
 obtain ⟨o1,o2,o3⟩:=norm_some ho
 have hond:out.Nodup:=o1.imp fun hab e => by rw [e] at hab; omega
 have hol:out.length≤l.length:=hond.length_le_of_subset fun x hx => (o2 x).1 hx
 refine (c117 O1 (by omega)).mono hb ?_
 rintro _ σ2 ⟨sl2,rfl,sub2,O2,new2⟩
 refine ⟨σ2,PH.sub.refl _,_,_,_,rfl,sl2,rfl,sub1.trans sub2,O2,fun p hp => ?_,own_len O2⟩
 cases hq:σ p.block with
 | none => rfl
 | some o => have:=new2 p hp; rw [sub1 _ _ hq] at this; cases this
end Go.Proofs.Ythfnjogadngfiaa
