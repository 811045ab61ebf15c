/- A part of the proof: see the last text, YthfnjogadngfiaaXi14. -/
import Derived.Test.YthfnjogadngfiaaXi8
set_option maxRecDepth 100000
set_option linter.unusedVariables false
set_option linter.unusedSimpArgs false
namespace Go.Proofs.Ythfnjogadngfiaa
open Go.Sl Go.Sv
theorem Sol.retag' {σ:PH} {T T':Nat→Tag} {s:Nat} {g:Low} (h:Sol σ T s g) (hT:∀ b,T b ≠ .other→T' b=T b):Sol σ T' s g:=by
 have up:∀ b t,T b=t→t ≠ .other→T' b=t:=fun b t h1 h2 => (hT b (by rw [h1]; exact h2)).trans h1
 exact ⟨h.ff,h.blk,up _ _ h.tag (by simp),fun k e size hk => ⟨(h.fld k e size hk).1,fun p hp => up _ _ ((h.fld k e size hk).2 p hp) (by simp)⟩,h.map,up _ _ h.mtag (by simp),h.keys,h.wv,
   fun i sl l hi => ⟨(h.wat i sl l hi).1,fun p hp => up _ _ ((h.wat i sl l hi).2 p hp) (by simp)⟩,h.rblk,fun r x hr => up _ _ (h.rtag r x hr) (by simp),
   fun r x hr => ⟨(h.rl r x hr).1,fun p hp => up _ _ ((h.rl r x hr).2 p hp) (by simp)⟩,fun r x hr => ⟨(h.rc r x hr).1,fun p hp => up _ _ ((h.rc r x hr).2 p hp) (by simp)⟩⟩
theorem Sol.newR {τ:PH} {T:Nat→Tag} {s:Nat} {g:Low} (h:Sol τ T s g) {r:Nat} {sl sc:Sli} {step:Int} {lits cyc:List Int} (hB:Blk τ r 102 [sl.v,.int .i64 step,sc.v])
   (hl:Own τ 3 1 sl.a sl.n sl.c (ints lits)) (hc:Own τ 3 1 sc.a sc.n sc.c (ints cyc)) (hr:T r=.other) (hsl:∀ p,sl.a=some p→T p.block=.other∧p.block ≠ r) (hsc:∀ p,sc.a=some p→T p.block=.other∧p.block ≠ r)
   (hd:∀ p q,sl.a=some p→sc.a=some q→p.block ≠ q.block) :
   g.R r=none∧∃ T',Sol τ T' s (g.setR r ⟨sl,lits,step,sc,cyc⟩)∧∀ b,(T b ≠ .other ∨ (b ≠ r∧(∀ p,sl.a=some p→b ≠ p.block)∧∀ p,sc.a=some p→b ≠ p.block))→T' b=T b:=by
 have hn:g.R r=none:=by
   cases hx:g.R r with
   | none => rfl
   | some x => have:=h.rtag r x hx; rw [hr] at this; cases this
 obtain ⟨T',ht,t1,t2,t3⟩:∃ T':Nat→Tag,(∀ b,(T b ≠ .other ∨ (b ≠ r∧(∀ p,sl.a=some p→b ≠ p.block)∧∀ p,sc.a=some p→b ≠ p.block))→T' b=T b)∧T' r=.rsn∧(∀ p,sl.a=some p→T' p.block=.lits r)∧(∀ p,sc.a=some p→T' p.block=.cyc r):=by
   refine ⟨fun b => if b=r then .rsn else tagAt (tagAt T sc.a (.cyc r)) sl.a (.lits r) b,fun b hb => ?_,if_pos rfl,fun p hp => ?_,fun p hp => ?_⟩
   · have h1:b ≠ r:=by
       rcases hb with h1 | h1
       · rintro rfl; exact h1 hr
       · exact h1.1
     have h2:∀ p,sl.a=some p→b ≠ p.block:=by
       intro p hp
       rcases hb with h1 | h1
       · rintro rfl; exact h1 (hsl p hp).1
       · exact h1.2.1 p hp
     have h3:∀ p,sc.a=some p→b ≠ p.block:=by
       intro p hp
       rcases hb with h1 | h1
       · rintro rfl; exact h1 (hsc p hp).1
       · exact h1.2.2 p hp
     show (if b=r then _ else _)=_
     rw [if_neg h1,tagAt_other fun p hp e => absurd e (h2 p hp),tagAt_other fun p hp e => absurd e (h3 p hp)]
   · show (if p.block=r then _ else _)=_
     rw [if_neg (hsl p hp).2,hp,tagAt_self]
   · show (if p.block=r then _ else _)=_
     rw [if_neg (hsc p hp).2,tagAt_other fun q hq e => absurd e.symm (hd q p hq hp),hp,tagAt_self]
 have H:=h.retag' (T':=T') fun b hb => ht b (.inl hb)
 refine ⟨hn,T',⟨H.ff,H.blk,H.tag,H.fld,H.map,H.mtag,H.keys,H.wv,H.wat,fun q y hq => ?_,fun q y hq => ?_,fun q y hq => ?_,fun q y hq => ?_⟩,ht⟩
 · replace hq:(if q=r then some _ else g.R q)=some y:=hq
   by_cases e:q=r
   · rw [if_pos e] at hq; cases hq; rw [e]; exact hB
   · rw [if_neg e] at hq; exact H.rblk q y hq
 · replace hq:(if q=r then some _ else g.R q)=some y:=hq
   by_cases e:q=r
   · rw [e]; exact t1
   · rw [if_neg e] at hq; exact H.rtag q y hq
 · replace hq:(if q=r then some _ else g.R q)=some y:=hq
   by_cases e:q=r
   · rw [if_pos e] at hq; cases hq; rw [e]; exact ⟨hl,t2⟩
   · rw [if_neg e] at hq; exact H.rl q y hq
 · replace hq:(if q=r then some _ else g.R q)=some y:=hq
   by_cases e:q=r
   · rw [if_pos e] at hq; cases hq; rw [e]; exact ⟨hc,t3⟩
   · rw [if_neg e] at hq; exact H.rc q y hq
theorem Abs.newR {g:Low} {st:St} (a:Abs g st) {r:Nat} {y:RL} (hx:g.R r=none):Abs (g.setR r y) (st.setR r y.rc):=by
 refine ⟨?_,a.clauses,a.W,a.value,a.level,a.why,a.trail,a.limits,a.head,a.act,a.empty,a.units,fun q => ?_⟩
 · obtain ⟨xs,q1,q2⟩:=a.steps
   refine ⟨xs,q1,q2.cyc fun q z hq => ?_⟩
   by_cases e:q=r
   · rw [e,hx] at hq; cases hq
   · exact ⟨z,(if_neg e).trans hq,rfl,rfl⟩
 · show (if q=r then some y else g.R q).map RL.rc=if q=r then some y.rc else st.R q
   by_cases e:q=r
   · rw [if_pos e,if_pos e]; rfl
   · rw [if_neg e,if_neg e]; exact a.R q
theorem Rep.newR {σ τ:PH} {T0 T:Nat→Tag} {s:Nat} {ff:List Value} {st:St} (h:Rep τ T s ff st) (D:Did σ T0 τ T) {r:Nat} {sl sc:Sli} {step:Int} {lits cyc:List Int} (hB:Blk τ r 102 [sl.v,.int .i64 step,sc.v])
   (hl:Own τ 3 1 sl.a sl.n sl.c (ints lits)) (hc:Own τ 3 1 sc.a sc.n sc.c (ints cyc)) (hr:T r=.other) (hr0:σ r=none) (hsl:∀ p,sl.a=some p→T p.block=.other∧p.block ≠ r∧σ p.block=none) (hsc:∀ p,sc.a=some p→T p.block=.other∧p.block ≠ r∧σ p.block=none)
   (hd:∀ p q,sl.a=some p→sc.a=some q→p.block ≠ q.block):st.R r=none∧∃ T',Rep τ T' s ff (st.setR r ⟨lits,step,cyc⟩)∧Did σ T0 τ T'∧∀ b,(T b ≠ .other ∨ (b ≠ r∧(∀ p,sl.a=some p→b ≠ p.block)∧∀ p,sc.a=some p→b ≠ p.block))→T' b=T b:=by
 obtain ⟨g,H,hff,A⟩:=h
 obtain ⟨hn,T',H',hT⟩:=H.newR hB hl hc hr (fun p hp => ⟨(hsl p hp).1,(hsl p hp).2.1⟩) (fun p hp => ⟨(hsc p hp).1,(hsc p hp).2.1⟩) hd
 refine ⟨by rw [← A.R r,hn]; rfl,T',⟨_,H',hff,A.newR hn⟩,⟨D.step,fun b hb => ?_⟩,hT⟩
 rw [hT b,D.tags b hb]
 right
 refine ⟨?_,fun p hp => ?_,fun p hp => ?_⟩
 · rintro rfl; exact hb hr0
 · rintro rfl; exact hb (hsl p hp).2.2
 · rintro rfl; exact hb (hsc p hp).2.2
theorem Rep.level {σ:PH} {T:Nat→Tag} {s:Nat} {ff:List Value} {st:St} (h:Rep σ T s ff st):∃ a c,σ.cell? ((ptr s).add 9)=some (.slice a st.level.length c)∧∀ x,vr x < st.level.length→∃ p,a=some p∧σ.cell? (p.add (vr x))=some (.int .i64 (lv st.level x)):=by
 obtain ⟨g,H,hff,A⟩:=h
 refine ⟨(g.F 9).a,(g.F 9).c,by rw [← H.n9 A]; exact H.field (k:=9) rfl,fun x hx => ?_⟩
 exact (H.fld 9 3 1 rfl).1.get (by rw [A.level]; unfold lv; simp [nats,hx])
theorem row_reads {σ:PH} {a:Option Addr} {vs:List Value} (h:Row σ a vs):readsRow σ a vs:=by
 have key:∀ (vs:List Value) (p:Addr) (i:Nat),(∀ j v,vs[j]?=some v→σ.cell? (p.add (i + j))=some v)→Go.Sl.rowAt σ p i vs:=by
   intro vs
   induction vs with
   | nil => intro p i h; trivial
   | cons x xs ih =>
     intro p i h
     refine ⟨h 0 x rfl,ih p (i + 1) fun j v hv => ?_⟩
     have:=h (j + 1) v hv
     rw [← this]; congr 2; omega
 rcases h with rfl | ⟨p,rfl,h⟩
 · cases a <;> trivial
 · exact key vs p 0 fun j v hv => by rw [Nat.zero_add]; exact h j v hv
theorem Own.row' {σ:PH} {e:TypeId} {a:Option Addr} {n c:Nat} {vs:List Value} (o:Own σ e 1 a n c vs):Row σ a vs:=by
 by_cases hv:vs=[]
 · exact .inl hv
 · right
   obtain ⟨p,hp,_⟩:=o.get (i:=0) (v:=vs[0]'(List.length_pos_iff.2 hv)) (List.getElem?_eq_getElem _)
   refine ⟨p,hp,fun i v hi => ?_⟩
   obtain ⟨q,hq,hc⟩:=o.get hi
   rw [hp] at hq; cases hq
   exact hc
theorem own_ints {σ:PH} {a:Option Addr} {n c:Nat} {l:List Int} (o:Own σ 3 1 a n c (ints l)):Ints σ a n l:=by
 refine ⟨?_,Own.row' o⟩
 have:=o.len; simp [ints] at this; omega
theorem own_nil {σ:PH} {e size:Nat}:Own σ e size none 0 0 []:=⟨by simp,Nat.le_refl _,.inl ⟨rfl,rfl⟩⟩
structure Lay (σ υ:PH) (r:Nat) (sl:Sli) (step:Int) (l:List Int):Prop where
 blk:Blk υ r 102 [sl.v,.int .i64 step,.slice none 0 0]
 own:Own υ 3 1 sl.a sl.n sl.c (ints l)
 new:∀ p,sl.a=some p→σ p.block=none∧p.block ≠ r
 len:sl.n=l.length
theorem Lay.swap {σ υ:PH} {r:Nat} {sl:Sli} {step:Int} {l:List Int} (h:Lay σ υ r sl step l) {i j:Nat} (hi:i < l.length) (hj:j < l.length) :
   ∃ p,sl.a=some p∧υ.cell? (p.add i)=some (.int .i64 (l.getD i 0))∧υ.cell? (p.add j)=some (.int .i64 (l.getD j 0))∧υ.froz (p.add i)=some false∧(∃ u,(υ.setCell (p.add i) (.int .i64 (l.getD j 0))).cell? (p.add j)=some u)∧(υ.setCell (p.add i) (.int .i64 (l.getD j 0))).froz (p.add j)=some false ∧
     Lay σ ((υ.setCell (p.add i) (.int .i64 (l.getD j 0))).setCell (p.add j) (.int .i64 (l.getD i 0))) r sl step (swp l i j)∧Step (fun b => b=p.block) υ ((υ.setCell (p.add i) (.int .i64 (l.getD j 0))).setCell (p.add j) (.int .i64 (l.getD i 0))):=by
 obtain ⟨p,hp,hci⟩:=h.own.get (i:=i) (v:=.int .i64 (l.getD i 0)) (by simp [ints,hi])
 obtain ⟨p',hp',hcj⟩:=h.own.get (i:=j) (v:=.int .i64 (l.getD j 0)) (by simp [ints,hj])
 obtain rfl:p=p':=Option.some.inj (hp.symm.trans hp')
 obtain ⟨p1,hp1,_,hf1,hb1,hs1⟩:=h.own.set (i:=i) (by simpa [ints] using hi)
 obtain rfl:p=p1:=Option.some.inj (hp.symm.trans hp1)
 obtain ⟨p2,hp2,hu2,hf2,hb2,hs2⟩:=(hs1 (.int .i64 (l.getD j 0))).set (i:=j) (by simpa [ints] using hj)
 obtain rfl:p=p2:=Option.some.inj (hp.symm.trans hp2)
 have st1:Step (fun b => b=p.block) υ (υ.setCell (p.add i) (.int .i64 (l.getD j 0))):=setCell_step.weaken fun b hb => hb.trans hb1
 have st2:Step (fun b => b=p.block) (υ.setCell (p.add i) (.int .i64 (l.getD j 0))) ((υ.setCell (p.add i) (.int .i64 (l.getD j 0))).setCell (p.add j) (.int .i64 (l.getD i 0))):=setCell_step.weaken fun b hb => hb.trans hb2
 have hne:=(h.new p hp).2
 refine ⟨p,hp,hci,hcj,hf1,hu2,hf2,⟨h.blk.keep (st1.trans st2) (Ne.symm hne),?_,h.new,by rw [swp_len]; exact h.len⟩,st1.trans st2⟩
 have:=hs2 (.int .i64 (l.getD i 0))
 unfold swp
 rw [ints_set,ints_set]
 exact this
theorem sub_step_new {M:Nat→Prop} {σ υ τ:PH} (h:σ.sub υ) (hs:Step M υ τ) (hm:∀ b,M b→σ b=none):σ.sub τ:=by
 intro b o hb
 refine hs.same b o (h b o hb) fun hM => ?_
 rw [hm b hM] at hb; cases hb
structure JSize (n:Nat) (st:St):Prop where
 nb:n≤1024
 v:st.value.length=n
 l:st.level.length=n
 w:st.why.length=n
 W:st.W.length=2 * n
 tl:∀ x ∈ st.trail,LitN n x
 tn:st.trail.length≤n
 lim:∀ p ∈ st.limits,p≤st.trail.length
 ln:st.limits.length≤n
 cn:st.clauses.length≤5000000000000
 Wn:∀ e ∈ st.W,e.length≤5000000000000
theorem idx_lt {n:Nat} {x:Int} (h:LitN n x):(idx x).toNat < 2 * n:=by
 obtain ⟨h1,h2⟩:=h
 unfold idx; split <;> omega
theorem undo_fields (st:St) (j:Nat):(st.undo j).value.length=st.value.length∧(st.undo j).level=st.level∧(st.undo j).why.length=st.why.length∧(st.undo j).W=st.W∧(st.undo j).R=st.R∧(st.undo j).clauses=st.clauses∧(st.undo j).trail.length≤st.trail.length∧(st.undo j).steps=st.steps:=by
 have clrW_len:∀ (ls:List Int) (V:List (Option Nat)),(clrW ls V).length=V.length:=by
   intro ls
   induction ls with
   | nil => intro V; rfl
   | cons x ls ih => intro V; unfold clrW; rw [List.foldl_cons]; exact (ih _).trans (List.length_set ..)
 unfold St.undo
 split
 · refine ⟨clrI_len _ _,rfl,clrW_len _ _,rfl,rfl,rfl,?_,rfl⟩
   show (st.trail.take _).length≤_
   rw [List.length_take]; omega
 · exact ⟨rfl,rfl,rfl,rfl,rfl,rfl,Nat.le_refl _,rfl⟩
theorem headD_get {l:List Int} (h:0 < l.length):l.headD 0=l[0]:=by
 cases l
 · simp at h
 · rfl
theorem j7 {σ:PH} {T:Nat→Tag} {s:Nat} {ff:List Value} {st:St} (h:Rep σ T s ff st) {r:Nat} {rc:RC} (hr:st.R r=some rc) {x:Int} (hx:rc.lits[0]?=some x) {n:Nat} (hl:LitN n x) (hn:n≤1024) (hv:st.value.length=n) (hlv:st.level.length=n) (hw:st.why.length=n) (ht:st.trail.length≤n) :
   S94_7 C (fun v τ => v=.tuple #[]∧∃ T',Did σ T τ T'∧Rep τ T' s ff (st.assign x (some r))) (some (ptr s)) (ptr r) σ:=by
 unfold S94_7
 simp only [Nat.mul_one]
 obtain ⟨sl,sc,B,O,e⟩:=h.R_blk hr
 have e0:(Addr.mk r 0 none).add 0=⟨r,0,none⟩:=rfl
 have hlen:0 < rc.lits.length:=(List.getElem?_eq_some_iff.1 hx).1
 obtain ⟨p,hp,hc⟩:=O.get (i:=0) (v:=.int .i64 x) (by simp [ints,hx])
 refine ⟨_,rfl,_,e0 ▸ B.get (i:=0) rfl,_,_,_,rfl,p,hp,by omega,by omega,_,hc,_,rfl,?_⟩
 refine (r93 h (hl.lit (by omega)) hl.1 (by rw [hv]; exact hl.vr_lt) (by omega)).mono hb ?_
 rintro _ υ ⟨rfl,T1,D1,R1⟩
 obtain ⟨sl1,sc1,B1,O1,e1⟩:=R1.R_blk hr
 obtain ⟨p1,hp1,hc1⟩:=O1.get (i:=0) (v:=.int .i64 x) (by simp [ints,hx])
 refine ⟨υ,PH.sub.refl _,rfl,_,rfl,_,e0 ▸ B1.get (i:=0) rfl,_,_,_,rfl,p1,hp1,by omega,by omega,_,hc1,_,rfl,?_⟩
 refine (r54 R1 (hl.lit (by omega)) hl.1 (some r) (by rw [hv]; exact hl.vr_lt) (by omega) (by omega) (by omega)).mono hb ?_
 rintro _ τ ⟨rfl,T2,D2,R2⟩
 exact ⟨τ,PH.sub.refl _,rfl,trivial,T2,D1.trans D2,R2⟩
theorem j5 {σ:PH} {T:Nat→Tag} {s:Nat} {ff:List Value} {st:St} (h:Rep σ T s ff st) {n:Nat} (z:JSize n st) {υ:PH} (hsub:σ.sub υ) {r:Nat} (hr0:σ r=none) {sl:Sli} {step:Int} {l:List Int} (L:Lay σ υ r sl step l) (hl:∀ x ∈ l,LitN n x) (hl0:0 < l.length) (hln:l.length≤1000000) (back:Nat) (hbk:back≤n)
   {Q:Value→PH→Prop} (hQ:∀ τ,(∃ T' lits,Did σ T τ T'∧st.R r=none∧Rep τ T' s ff (st.jumped r lits step back)∧lits.Perm l∧lits[0]?=l[0]?∧((∃ x ∈ l.drop 1,lv st.level x=back)→∀ y,lits[1]?=some y→lv st.level y=back))→Q (.tuple #[]) τ) :
   S94_5 C Q
     (some (ptr s)) (ptr r) back sl.a sl.n sl.c sl.n 0 υ:=by
 unfold S94_5
 refine iloopS_for (G:=List Int) (fun k _ => (some (ptr s),ptr r,(back:Int),sl.a,sl.n,sl.c,((sl.n:Nat):Int),(k:Int)))
   (fun k cur ω => σ.sub ω∧Lay σ ω r sl step cur∧cur.Perm l∧cur[0]?=l[0]?∧(∀ i,k≤i→1≤i→i ≠ 1→cur[i]?=l[i]?)∧(k≤1→cur=l)∧((∃ i y,1≤i∧i < k∧l[i]?=some y∧lv st.level y=back)→∀ y,cur[1]?=some y→lv st.level y=back)) sl.n ?_ (g:=l)
   ⟨hsub,L,.refl _,rfl,fun _ _ _ _ => rfl,fun _ => rfl,by rintro ⟨i,y,h1,h2,_⟩; omega⟩
 rintro k cur ω hk ⟨hs,La,hperm,h0,hrest,hbeg,hone⟩ R hR
 unfold S94_6
 dsimp only
 simp only [Nat.mul_one]
 have hcl:cur.length=l.length:=hperm.length_eq
 have hsn:=La.len
 have e0:(Addr.mk r 0 none).add 0=⟨r,0,none⟩:=rfl
 refine br_dec.2 ⟨fun hlt => ?_,fun hge => ?_⟩
 · have hkl:k < cur.length:=by omega
   obtain ⟨p,hp,hc⟩:=La.own.get (i:=k) (v:=.int .i64 cur[k]) (by simp [ints,hkl])
   have hcm:LitN n cur[k]:=hl _ (hperm.mem_iff.1 (List.getElem_mem hkl))
   obtain ⟨la,lc,hlc,hlg⟩:=h.level
   obtain ⟨pl,hpl,hplc⟩:=hlg cur[k] (by rw [z.l]; exact hcm.vr_lt)
   have hi:0≤idx cur[k] / 2:=by rw [idx_half hcm.1]; omega
   have hz:=z.l
   have hvl:=hcm.vr_lt
   refine ⟨p,hp,by omega,by omega,_,hc,_,rfl,idx cur[k] / 2,[],br_dec.2 ⟨fun hpos => ?_,fun hpos => ?_⟩⟩
   · refine ⟨_,rfl,_,hs.cell hlc,_,_,_,rfl,quiet74 (hcm.lit (by have:=z.nb; omega)) hcm.1 _,pl,hpl,hi,by rw [idx_half hcm.1]; omega,_,by rw [idx_toNat hcm.1]; exact hs.cell hplc,_,rfl,?_⟩
     have hck:cur[k]?=l[k]?:=by
       by_cases e:k=1
       · have:=hbeg (by omega); rw [this]
       · exact hrest k (Nat.le_refl _) (by omega) e
     rw [wnat (by have:=z.nb; omega)]
     refine br_iff.2 ⟨fun he => ?_,fun he => ?_⟩
     · have he:lv st.level cur[k]=back:=by simp at he; omega
       obtain ⟨q,hq,c1,ck,f1,u2,f2,La',st'⟩:=La.swap (i:=1) (j:=k) (by omega) hkl
       have B:=La.blk
       refine ⟨_,rfl,_,e0 ▸ B.get (i:=0) rfl,_,_,_,rfl,_,rfl,_,e0 ▸ B.get (i:=0) rfl,_,_,_,rfl,_,rfl,_,e0 ▸ B.get (i:=0) rfl,_,_,_,rfl,q,hq,by omega,by omega,_,ck,_,rfl,_,rfl,_,e0 ▸ B.get (i:=0) rfl,_,_,_,rfl,q,hq,by omega,by omega,_,c1,_,rfl,
         q,hq,by omega,by omega,⟨_,c1⟩,f1,q,hq,by omega,by omega,u2,f2,?_⟩
       refine hR (swp cur 1 k) _ (by omega) ⟨sub_step_new hs st' (by rintro b rfl; exact (La.new q hq).1),La',(swp_perm (by omega) hkl).trans hperm,?_,?_,?_,?_⟩
       · rw [swp_ne (by omega) (by omega)]; exact h0
       · intro i h1 h2 h3
         rw [swp_ne h3 (by omega)]
         exact hrest i (by omega) h2 h3
       · intro h1; omega
       · rintro _ y hy
         rw [swp_left (by omega) hkl,List.getElem?_eq_getElem hkl] at hy
         cases hy; exact he
     · have he:lv st.level cur[k] ≠ back:=by simp at he; omega
       refine hR cur _ (by omega) ⟨hs,La,hperm,h0,fun i h1 h2 h3 => hrest i (by omega) h2 h3,fun h1 => by omega,?_⟩
       rintro ⟨i,y,h1,h2,h3,h4⟩
       refine hone ⟨i,y,h1,?_,h3,h4⟩
       rcases Nat.lt_or_ge i k with h5 | h5
       · exact h5
       · have:i=k:=by omega
         subst this
         rw [← hck,List.getElem?_eq_getElem hkl] at h3
         cases h3; exact absurd h4 he
   · have hk0:k=0:=by omega
     subst hk0
     rw [wnat (by have:=z.nb; omega)]
     exact hR cur _ (by omega) ⟨hs,La,hperm,h0,fun i h1 h2 h3 => hrest i (by omega) h2 h3,fun _ => hbeg (by omega),by rintro ⟨i,y,h1,h2,_⟩; omega⟩
 · have hkn:k=sl.n:=by omega
   subst hkn
   obtain ⟨T1,R1,D1,hT1⟩:=h.grow hs
   obtain ⟨hn,T2,R2,D2,_⟩:=R1.newR D1 (sc:=⟨none,0,0⟩) (cyc:=[]) La.blk La.own own_nil (hT1 r hr0) hr0 (fun p hp => ⟨hT1 _ (La.new p hp).1,(La.new p hp).2,(La.new p hp).1⟩) (fun p hp => by cases hp) (fun p q _ hq => by cases hq)
   have hx:cur[0]?=some (cur[0]'(by omega)):=List.getElem?_eq_getElem _
   have hxl:LitN n (cur[0]'(by omega)):=hl _ (hperm.mem_iff.1 (List.getElem_mem _))
   have hhd:cur.headD 0=cur[0]'(by omega):=headD_get (by omega)
   refine (r91 R2 back (by have:=z.nb; omega) (fun x hx => ⟨(z.tl x hx).lit (by have:=z.nb; omega),(z.tl x hx).1,by show _ < st.value.length; rw [z.v]; exact (z.tl x hx).vr_lt⟩) (by show st.why.length=st.value.length; rw [z.w,z.v]) z.lim (by show st.trail.length≤_; have:=z.tn; have:=z.nb; omega) (by show st.limits.length≤_; have:=z.ln; have:=z.nb; omega)).mono hb ?_
   rintro _ ω1 ⟨rfl,T3,D3,R3⟩
   obtain ⟨u1,u2,u3,u4,u5,u6,u7,u8⟩:=undo_fields (st.setR r ⟨cur,step,[]⟩) back
   have hRr:((st.setR r ⟨cur,step,[]⟩).undo back).R r=some ⟨cur,step,[]⟩:=by rw [u5]; exact if_pos rfl
   obtain ⟨sl3,sc3,B3,O3,e3⟩:=R3.R_blk hRr
   have fin:∀ st4:St,st4.R r=some ⟨cur,step,[]⟩→st4.value.length=n→st4.level.length=n→st4.why.length=n→st4.trail.length≤n→st4.assign (cur[0]'(by omega)) (some r)=st.jumped r cur step back→∀ ω2 T4,Rep ω2 T4 s ff st4→Did σ T ω2 T4 →
       S94_7 C Q (some (ptr s)) (ptr r) ω2:=by
     intro st4 h1 h2 h3 h4 h5 h6 ω2 T4 R4 D4
     have:=j7 R4 h1 hx hxl z.nb h2 h3 h4 h5
     unfold S94_7 at this ⊢
     obtain ⟨p1,e1,v1,c1,a1,n1,k1,e2,p2,e3,b1,b2,v2,c2,i2,e4,hcall⟩:=this
     refine ⟨p1,e1,v1,c1,a1,n1,k1,e2,p2,e3,b1,b2,v2,c2,i2,e4,hcall.mono hb ?_⟩
     rintro v τ ⟨υ3,q1,q2,p3,e5,v3,c3,a3,n3,k3,e6,p4,e7,b3,b4,v4,c4,i4,e8,hcall2⟩
     refine ⟨υ3,q1,q2,p3,e5,v3,c3,a3,n3,k3,e6,p4,e7,b3,b4,v4,c4,i4,e8,hcall2.mono hb ?_⟩
     rintro v τ ⟨υ5,q3,q4,q5,T5,D5,R5⟩
     refine ⟨υ5,q3,q4,hQ _ ⟨T5,cur,D4.trans D5,hn,by rw [← h6]; exact R5,hperm,h0,?_⟩⟩
     rintro ⟨x,hx,hxb⟩
     refine hone ?_
     obtain ⟨i,hi⟩:=List.mem_iff_getElem?.1 hx
     rw [List.getElem?_drop] at hi
     refine ⟨1 + i,x,by omega,?_,hi,hxb⟩
     have:=(List.getElem?_eq_some_iff.1 hi).1
     omega
   refine ⟨ω1,PH.sub.refl _,rfl,_,rfl,_,e0 ▸ B3.get (i:=0) rfl,_,_,_,rfl,br_dec.2 ⟨fun hgt => ?_,fun hle => ?_⟩⟩
   · have h2:2≤cur.length:=by have:sl3.n=cur.length:=e3; omega
     refine (r52 R3 hRr h2 (fun x hx => ?_) (by rw [u6]; exact z.cn) (by rw [u4]; exact z.Wn)).mono hb ?_
     · have hxn:=hl x (hperm.mem_iff.1 hx)
       exact ⟨hxn.lit (by have:=z.nb; omega),hxn.1,by rw [u4]; show _ < st.W.length; rw [z.W]; exact idx_lt hxn⟩
     · rintro _ ω2 ⟨rfl,T4,D4,R4⟩
       refine ⟨ω2,PH.sub.refl _,rfl,fin _ ?_ ?_ ?_ ?_ ?_ ?_ _ _ R4 (D2.trans (D3.trans D4))⟩
       · exact hRr
       · exact u1.trans z.v
       · show ((st.setR r ⟨cur,step,[]⟩).undo back).level.length=n; rw [u2]; exact z.l
       · exact u3.trans z.w
       · exact Nat.le_trans u7 z.tn
       · unfold St.jumped; rw [if_pos (by omega),hhd]
   · have h2:¬ 1 < cur.length:=by have:sl3.n=cur.length:=e3; omega
     refine fin _ hRr (u1.trans z.v) (by rw [u2]; exact z.l) (u3.trans z.w) (Nat.le_trans u7 z.tn) ?_ _ _ R3 (D2.trans D3)
     unfold St.jumped; rw [if_neg h2,hhd]
theorem j3 {σ:PH} {T:Nat→Tag} {s:Nat} {ff:List Value} {st:St} (h:Rep σ T s ff st) {n:Nat} (z:JSize n st) {υ:PH} (hsub:σ.sub υ) {r:Nat} (hr0:σ r=none) {sl:Sli} {step:Int} {l:List Int} (L:Lay σ υ r sl step l) (hl:∀ x ∈ l,LitN n x) (hln:l.length≤1000000) (back top:Nat) (hbk:back≤n)
   {t0:Int} (ht0:t0 ∈ l) (ht:lv st.level t0=top) (huniq:∀ x ∈ l,lv st.level x=top→x=t0) (hd:l.Nodup)
   {Q:Value→PH→Prop} (hQ:∀ τ,(∃ T' lits,Did σ T τ T'∧st.R r=none∧Rep τ T' s ff (st.jumped r lits step back)∧lits.Perm l∧lits[0]?=some t0∧((∃ x ∈ l,x ≠ t0∧lv st.level x=back)→∀ y,lits[1]?=some y→lv st.level y=back))→Q (.tuple #[]) τ) :
   S94_3 C Q (some (ptr s)) top (ptr r) back sl.a sl.n sl.c sl.n 0 υ:=by
 unfold S94_3
 refine iloopS_for (G:=List Int) (fun k _ => (some (ptr s),(top:Int),ptr r,(back:Int),sl.a,sl.n,sl.c,((sl.n:Nat):Int),(k:Int)))
   (fun k cur ω => σ.sub ω∧Lay σ ω r sl step cur∧cur.Perm l∧(∀ i,k≤i→cur[i]?=l[i]?)∧(t0 ∈ l.take k→cur[0]?=some t0)) sl.n ?_ (g:=l)
   ⟨hsub,L,.refl _,fun _ _ => rfl,by simp⟩
 rintro k cur ω hk ⟨hs,La,hperm,hrest,hone⟩ R hR
 unfold S94_4
 dsimp only
 simp only [Nat.mul_one]
 have hcl:cur.length=l.length:=hperm.length_eq
 have hsn:=La.len
 have e0:(Addr.mk r 0 none).add 0=⟨r,0,none⟩:=rfl
 refine br_dec.2 ⟨fun hlt => ?_,fun hge => ?_⟩
 · have hkl:k < cur.length:=by omega
   obtain ⟨p,hp,hc⟩:=La.own.get (i:=k) (v:=.int .i64 cur[k]) (by simp [ints,hkl])
   have hcm:LitN n cur[k]:=hl _ (hperm.mem_iff.1 (List.getElem_mem hkl))
   obtain ⟨la,lc,hlc,hlg⟩:=h.level
   obtain ⟨pl,hpl,hplc⟩:=hlg cur[k] (by rw [z.l]; exact hcm.vr_lt)
   have hi:0≤idx cur[k] / 2:=by rw [idx_half hcm.1]; omega
   have hz:=z.l
   have hvl:=hcm.vr_lt
   refine ⟨p,hp,by omega,by omega,_,hc,_,rfl,idx cur[k] / 2,[],_,rfl,_,hs.cell hlc,_,_,_,rfl,quiet74 (hcm.lit (by have:=z.nb; omega)) hcm.1 _,pl,hpl,hi,by rw [idx_half hcm.1]; omega,_,by rw [idx_toNat hcm.1]; exact hs.cell hplc,_,rfl,?_⟩
   have hck:cur[k]?=l[k]?:=hrest k (Nat.le_refl _)
   have hlk:l[k]?=some cur[k]:=by rw [← hck,List.getElem?_eq_getElem hkl]
   rw [wnat (by have:=z.nb; omega)]
   refine br_iff.2 ⟨fun he => ?_,fun he => ?_⟩
   · have he:lv st.level cur[k]=top:=by simp at he; omega
     obtain ⟨q,hq,c1,ck,f1,u2,f2,La',st'⟩:=La.swap (i:=0) (j:=k) (by omega) hkl
     have B:=La.blk
     refine ⟨_,rfl,_,e0 ▸ B.get (i:=0) rfl,_,_,_,rfl,_,rfl,_,e0 ▸ B.get (i:=0) rfl,_,_,_,rfl,_,rfl,_,e0 ▸ B.get (i:=0) rfl,_,_,_,rfl,q,hq,by omega,by omega,_,ck,_,rfl,_,rfl,_,e0 ▸ B.get (i:=0) rfl,_,_,_,rfl,q,hq,by omega,by omega,_,c1,_,rfl,
       q,hq,by omega,by omega,⟨_,c1⟩,f1,q,hq,by omega,by omega,u2,f2,?_⟩
     refine hR (swp cur 0 k) _ (by omega) ⟨sub_step_new hs st' (by rintro b rfl; exact (La.new q hq).1),La',(swp_perm (by omega) hkl).trans hperm,?_,?_⟩
     · intro i h1
       rw [swp_ne (by omega) (by omega)]
       exact hrest i (by omega)
     · intro _
       rw [swp_left (by omega) hkl,List.getElem?_eq_getElem hkl]
       congr 1
       exact huniq _ (hperm.mem_iff.1 (List.getElem_mem hkl)) he
   · have he:lv st.level cur[k] ≠ top:=by simp at he; omega
     refine hR cur _ (by omega) ⟨hs,La,hperm,fun i h1 => hrest i (by omega),fun h1 => hone ?_⟩
     rw [take_snoc hlk,List.mem_append,List.mem_singleton] at h1
     rcases h1 with h1 | h1
     · exact h1
     · exact absurd ht (by rw [h1]; exact he)
 · have hkn:k=sl.n:=by omega
   subst hkn
   have h0:=hone (by rw [List.take_of_length_le (by omega)]; exact ht0)
   refine ⟨_,rfl,_,e0 ▸ La.blk.get (i:=0) rfl,_,_,_,rfl,?_⟩
   refine j5 h z hs hr0 La (fun x hx => hl x (hperm.mem_iff.1 hx)) (List.getElem?_eq_some_iff.1 h0).1 (by omega) back hbk ?_
   rintro τ ⟨T',lits,D,q1,q2,q3,q4,q5⟩
   refine hQ τ ⟨T',lits,D,q1,q2,q3.trans hperm,q4.trans h0,?_⟩
   rintro ⟨x,hx,hne,hxb⟩
   refine q5 ⟨x,?_,hxb⟩
   have hx':=hperm.mem_iff.2 hx
   cases cur with
   | nil => simp at h0
   | cons a rest =>
     simp only [List.getElem?_cons_zero,Option.some.injEq] at h0
     rcases List.mem_cons.1 hx' with h1 | h1
     · exact absurd (h1.trans h0) hne
     · exact h1
theorem r94 {σ:PH} {T:Nat→Tag} {s:Nat} {ff:List Value} {st:St} (h:Rep σ T s ff st) {n:Nat} (z:JSize n st) {m:Nat} {es:Array MapEntry} {ck:Nat} {ks:List Int} (hm:σ m=some (.map es ck)) (ms:MSet es ck ks) (step:Int) (top:Nat)
   (hks:∀ l ∈ ks,LitN n l) (hlen:ks.length≤1000000) (hcl:Go.Sv.Clean ks) (hle:∀ l ∈ ks,lv st.level l≤top) (htn:top≤n) {t0:Int} (ht0:t0 ∈ ks) (ht:lv st.level t0=top) (huniq:∀ x ∈ ks,lv st.level x=top→x=t0) :
   C 94 #[.pointer (some (ptr s)),.map (some m),.int .i64 step,.int .i64 top] (fun v τ => v=.tuple #[]∧∃ T' r lits back,Did σ T τ T'∧st.R r=none∧Rep τ T' s ff (st.jumped r lits step back)∧(∀ x,x ∈ lits ↔ x ∈ ks)∧(lits.Pairwise fun a b => vr a ≠ vr b)∧lits[0]?=some t0 ∧
     (∀ x ∈ ks,x ≠ t0→lv st.level x≤back)∧(back=0 ∨ ∃ x ∈ ks,lv st.level x=back∧lv st.level x < top)∧(∀ y,lits[1]?=some y→lv st.level y=back)) σ:=by
 refine go (E94_0 _ _ _ _ _ _ _) ?_
 unfold S94_0
 intro r hr0
 have hrm:r ≠ m:=by rintro rfl; rw [hr0] at hm; cases hm
 refine ⟨m,rfl,es,ck,by rw [set_other hrm.symm]; exact hm,fun b hbn => ?_⟩
 have hbr:b ≠ r:=by rintro rfl; rw [set_self] at hbn; cases hbn
 have hb0:σ b=none:=by rw [set_other hbr] at hbn; exact hbn
 have hbm:b ≠ m:=by rintro rfl; rw [hb0] at hm; cases hm
 unfold S94_1
 have s1:σ.sub (σ.set r (.cells #[.slice none 0 0,.int .i64 step,.slice none 0 0] 102)):=PH.sub_set hr0
 refine iloopS_ind (fun k x υ => ∃ (vis:List Int) (seen:Array Nat) (sl:Sli) (back:Nat),k=ks.length - vis.length∧x=(some (ptr s),(top:Int),ptr r,(back:Int),ptr b)∧σ.sub υ∧IterAt υ b m es ck ks seen vis∧Lay σ υ r sl step vis.reverse∧(∀ p,sl.a=some p→p.block ≠ b∧p.block ≠ m) ∧
     (∀ y ∈ vis,lv st.level y < top→lv st.level y≤back)∧(back=0 ∨ ∃ y ∈ vis,lv st.level y=back∧lv st.level y < top)) ?_
   (n:=ks.length) ⟨[],#[],⟨none,0,0⟩,0,rfl,rfl,sub_set_new s1 hb0,IterAt.start (by rw [set_other hrm.symm]; exact hm) ms hbn,⟨?_,own_nil,(fun p hp => by cases hp),rfl⟩,(fun p hp => by cases hp),by simp,.inl rfl⟩
 · rintro k x υ ⟨vis,seen,sl,back,rfl,rfl,hsub,it,L,hslb,hb1,hb2⟩ R hR
   unfold S94_2
   dsimp only
   have hvl:=sub_len it.vnd it.vsub
   have e0:(Addr.mk r 0 none).add 0=⟨r,0,none⟩:=rfl
   have z1:=z.nb
   refine it.rule (fun hall => ?_) fun y hy1 hy2 e it' => ?_
   ·
     have hmem:∀ x,x ∈ vis.reverse ↔ x ∈ ks:=fun x => by rw [List.mem_reverse]; exact ⟨it.vsub x,hall x⟩
     refine ⟨_,rfl,_,e0 ▸ L.blk.get (i:=0) rfl,_,_,_,rfl,?_⟩
     have hclr:Go.Sv.Clean vis.reverse:=fun x hx => by
       obtain ⟨q1,q2,q3⟩:=hcl x ((hmem x).1 hx)
       exact ⟨q1,q2,fun h => q3 ((hmem _).1 h)⟩
     obtain ⟨out,ho⟩:=norm_ok hclr
     obtain ⟨o1,o2,o3⟩:=norm_some ho
     refine (c111 (own_ints L.own) (fun x hx => (hks x ((hmem x).1 hx)).lit (by omega)) (by rw [List.length_reverse]; omega) ho).mono hb ?_
     rintro _ τ ⟨sl2,rfl,hs2,hO2,hn2,hlen2⟩
     have B2:Blk τ r 102 [sl.v,.int .i64 step,.slice none 0 0]:=hs2 _ _ L.blk
     have hrn:υ r ≠ none:=L.blk.known
     have hne2:∀ p,sl2.a=some p→p.block ≠ r:=by
       rintro p hp rfl
       exact hrn (hn2 p hp)
     have hst:Step (·=r) τ (τ.setCell (ptr r) sl2.v):=(setCell_step (a:=ptr r))
     have L2:Lay σ (τ.setCell (ptr r) sl2.v) r sl2 step out:=by
       refine ⟨?_,hO2.keep hst fun p hp => hne2 p hp,fun p hp => ⟨?_,hne2 p hp⟩,hlen2⟩
       · have:=B2.set 0 sl2.v
         exact this
       · cases hq:σ p.block with
         | none => rfl
         | some o => have:=hsub _ _ hq; rw [hn2 p hp] at this; cases this
     refine ⟨τ,PH.sub.refl _,_,_,_,rfl,_,rfl,⟨_,e0 ▸ B2.get (i:=0) rfl⟩,(by have:=B2.froz 0; rw [e0] at this; exact this),_,rfl,_,e0 ▸ L2.blk.get (i:=0) rfl,_,_,_,rfl,?_⟩
     have hom:∀ x,x ∈ out ↔ x ∈ ks:=fun x => (o2 x).trans (hmem x)
     have hond:out.Nodup:=o1.imp fun hab e => by rw [e] at hab; omega
     have hvd:out.Pairwise fun a b => vr a ≠ vr b:=by
       refine List.Pairwise.imp_of_mem ?_ o1
       intro a b ha hb hab
       have h1:=(hks a ((hom a).1 ha)).1
       have h2:=(hks b ((hom b).1 hb)).1
       unfold vr; omega
     have hsf:σ.sub (τ.setCell (ptr r) sl2.v):=sub_step_new (hsub.trans hs2) hst (by rintro b rfl; exact hr0)
     refine j3 h z hsf hr0 L2 (fun x hx => hks x ((hom x).1 hx)) ?_ back top ?_ ((hom t0).2 ht0) ht (fun x hx => huniq x ((hom x).1 hx)) hond ?_
     · have:=hond.length_le_of_subset fun x hx => (hom x).1 hx
       omega
     · rcases hb2 with h1 | ⟨y,_,h1,h2⟩
       · omega
       · omega
     · rintro ω ⟨T',lits,D,q1,q2,q3,q4,q5⟩
       have hlow:∀ x ∈ ks,x ≠ t0→lv st.level x < top:=by
         intro x hx hne
         rcases Nat.lt_or_ge (lv st.level x) top with h1 | h1
         · exact h1
         · exact absurd (huniq x hx (Nat.le_antisymm (hle x hx) h1)) hne
       have hbk:∀ x ∈ ks,x ≠ t0→lv st.level x≤back:=fun x hx hne => hb1 x (hall x hx) (hlow x hx hne)
       have hex:back=0 ∨ ∃ x ∈ ks,lv st.level x=back∧lv st.level x < top:=by
         rcases hb2 with h1 | ⟨y,h1,h2,h3⟩
         · exact .inl h1
         · exact .inr ⟨y,it.vsub y h1,h2,h3⟩
       have hpd:lits.Pairwise fun a b => vr a ≠ vr b:=(q3.pairwise_iff fun hab => Ne.symm hab).2 hvd
       refine ⟨rfl,T',r,lits,back,D,q1,q2,fun x => q3.mem_iff.trans (hom x),hpd,q4,hbk,hex,fun y hy => ?_⟩
       rcases hex with h1 | ⟨x,h1,h2,h3⟩
       · have hym:y ∈ lits:=List.mem_of_getElem? hy
         have hyk:=(hom y).1 (q3.mem_iff.1 hym)
         have hyne:y ≠ t0:=by
           rintro rfl
           have hn:=q3.nodup_iff.2 hond
           have:=(List.getElem?_inj (List.getElem?_eq_some_iff.1 q4).1 hn).1 (q4.trans hy.symm)
           omega
         have:=hbk y hyk hyne
         omega
       · exact q5 ⟨x,(hom x).2 h1,by rintro rfl; omega,h2⟩ y hy
   ·
     simp only [Nat.mul_one]
     have hyn:=hks y hy1
     have hvl':=sub_len it'.vnd it'.vsub
     rw [List.length_cons] at hvl'
     have stI:Step (·=b) υ (υ.set b (.mapIter (some m) ck (seen.push e.born) ck)):=set_step
     have B1:Blk (υ.set b (.mapIter (some m) ck (seen.push e.born) ck)) r 102 [sl.v,.int .i64 step,.slice none 0 0]:=L.blk.keep stI hbr.symm
     have O1:=L.own.keep stI fun p hp => (hslb p hp).1
     refine ⟨_,rfl,_,e0 ▸ B1.get (i:=0) rfl,_,_,_,rfl,fun b2 hb2n => ?_⟩
     have hsub1:σ.sub (υ.set b (.mapIter (some m) ck (seen.push e.born) ck)):=sub_set_new hsub hb0
     have sb2:=PH.sub_set (o:=.cells #[.int .i64 y] 3) hb2n
     have O2:=O1.keep (M:=fun _ => False) sb2.step (fun _ _ h => h)
     have hb20:σ b2=none:=by
       cases hq:σ b2 with
       | none => rfl
       | some o => have:=hsub1 _ _ hq; rw [hb2n] at this; cases this
     have hlen1:=O1.len
     have hl2:=L.len
     simp only [ints,List.length_map,Nat.mul_one,List.length_reverse] at hlen1 hl2
     refine Own.append t3.1 t3.2.1 t3.2.2 rfl (by decide) O2 (m:=1) (news:=[.int .i64 y]) ?_ rfl ?_ (by omega) ?_
     · exact rowAt_of (b:=b2) (arr:=#[.int .i64 y]) (e:=3) (f:=(0,0)) set_self _ 0 0 (fun j v hv => by simpa using hv)
     · intro v hv; simp at hv; subst hv; trivial
     · intro a' c' τ hO' hst hnew
       have hblk:∀ p,a'=some p→σ p.block=none∧p.block ≠ r∧p.block ≠ b∧p.block ≠ m:=by
         intro p hp
         rcases hnew with h1 | ⟨b3,h1,h2⟩
         · have hp':sl.a=some p:=h1 ▸ hp
           exact ⟨(L.new p hp').1,(L.new p hp').2,(hslb p hp').1,(hslb p hp').2⟩
         · rw [hp] at h2
           cases h2
           have known:∀ q,υ q ≠ none→q ≠ b3:=by
             rintro q hq rfl
             by_cases e1:q=b2
             · subst e1; rw [set_self] at h1; cases h1
             · rw [set_other e1] at h1
               by_cases e2:q=b
               · subst e2; rw [set_self] at h1; cases h1
               · rw [set_other e2] at h1; exact hq h1
           refine ⟨?_,(known r L.blk.known).symm,(known b (by rw [it.it]; simp)).symm,(known m (by rw [it.map]; simp)).symm⟩
           cases hq:σ b3 with
           | none => rfl
           | some o => exact absurd rfl (known b3 (by rw [hsub _ _ hq]; simp))
       have hslb':∀ p,sl.a=some p→¬ ((r:Nat)=p.block ∨ b=p.block ∨ m=p.block):=by
         rintro p hp (h1 | h1 | h1)
         · exact (L.new p hp).2 h1.symm
         · exact (hslb p hp).1 h1.symm
         · exact (hslb p hp).2 h1.symm
       have keepτ:∀ q o,(υ.set b (.mapIter (some m) ck (seen.push e.born) ck)) q=some o→(∀ p,sl.a=some p→q ≠ p.block)→τ q=some o:=by
         intro q o hq hne
         exact hst.same q o (sb2 _ _ hq) (by rintro ⟨p,h1,h2⟩; exact hne p h1 h2)
       have Bτ:Blk τ r 102 [sl.v,.int .i64 step,.slice none 0 0]:=keepτ r _ B1 (by rintro p hp h1; exact hslb' p hp (.inl h1))
       have subτ:σ.sub τ:=sub_step_new (hsub1.trans sb2) hst (by rintro q ⟨p,h1,rfl⟩; exact (L.new p h1).1)
       have st2:Step (·=r) τ (τ.setCell (ptr r) (.slice a' (sl.n + 1) c')):=(setCell_step (a:=ptr r))
       have subω:σ.sub (τ.setCell (ptr r) (.slice a' (sl.n + 1) c')):=sub_step_new subτ st2 (by rintro q rfl; exact hr0)
       have itω:IterAt (τ.setCell (ptr r) (.slice a' (sl.n + 1) c')) b m es ck ks (seen.push e.born) (y :: vis):=by
         refine ⟨st2.same _ _ (keepτ b _ it'.it (by rintro p hp h1; exact hslb' p hp (.inr (.inl h1)))) hbr,st2.same _ _ (keepτ m _ it'.map (by rintro p hp h1; exact hslb' p hp (.inr (.inr h1)))) (Ne.symm hrm),it'.set,it'.vsub,it'.vnd,it'.vse⟩
       have Lω:Lay σ (τ.setCell (ptr r) (.slice a' (sl.n + 1) c')) r ⟨a',sl.n + 1,c'⟩ step (y :: vis).reverse:=by
         refine ⟨?_,?_,fun p hp => ⟨(hblk p hp).1,(hblk p hp).2.1⟩,by simp; omega⟩
         · have:=Bτ.set 0 (.slice a' (sl.n + 1) c')
           exact this
         · have:=hO'.keep st2 fun p hp => (hblk p hp).2.1
           rw [List.reverse_cons]
           simpa [ints] using this
       obtain ⟨la,lc,hlc,hlg⟩:=h.level
       obtain ⟨pl,hpl,hplc⟩:=hlg y (by rw [z.l]; exact hyn.vr_lt)
       have hi:0≤idx y / 2:=by rw [idx_half hyn.1]; omega
       have hz:=z.l
       have hyv:=hyn.vr_lt
       refine ⟨_,_,_,rfl,_,rfl,⟨_,e0 ▸ Bτ.get (i:=0) rfl⟩,(by have:=Bτ.froz 0; rw [e0] at this; exact this),idx y / 2,[],_,rfl,_,subω.cell hlc,_,_,_,rfl,quiet74 (hyn.lit (by omega)) hyn.1 _,pl,hpl,hi,by rw [idx_half hyn.1]; omega,_,by rw [idx_toNat hyn.1]; exact subω.cell hplc,_,rfl,br_dec.2 ⟨fun hlt => ?_,fun hge => ?_⟩⟩
       · have hlt:lv st.level y < top:=by omega
         have hif:(if (back:Int) < (lv st.level y:Int) then (lv st.level y:Int) else (back:Int))=((max back (lv st.level y):Nat):Int):=by split <;> omega
         rw [hif]
         refine hR _ _ _ (by rw [List.length_cons]; omega) ⟨y :: vis,_,_,max back (lv st.level y),rfl,rfl,subω,itω,Lω,fun p hp => ⟨(hblk p hp).2.2.1,(hblk p hp).2.2.2⟩,?_,?_⟩
         · intro x hx hxt
           rcases List.mem_cons.1 hx with h1 | hx
           · rw [h1]; omega
           · have:=hb1 x hx hxt; omega
         · by_cases hm1:back≤lv st.level y
           · exact .inr ⟨y,List.mem_cons_self,by omega,hlt⟩
           · rcases hb2 with h1 | ⟨w,h1,h2,h3⟩
             · omega
             · exact .inr ⟨w,List.mem_cons_of_mem _ h1,by omega,h3⟩
       · refine hR _ _ _ (by rw [List.length_cons]; omega) ⟨y :: vis,_,_,back,rfl,rfl,subω,itω,Lω,fun p hp => ⟨(hblk p hp).2.2.1,(hblk p hp).2.2.2⟩,?_,?_⟩
         · intro x hx hxt
           rcases List.mem_cons.1 hx with h1 | hx
           · rw [h1] at hxt; omega
           · exact hb1 x hx hxt
         · rcases hb2 with h1 | ⟨w,h1,h2⟩
           · exact .inl h1
           · exact .inr ⟨w,List.mem_cons_of_mem _ h1,h2⟩
 · exact (show Blk (σ.set r (.cells #[.slice none 0 0,.int .i64 step,.slice none 0 0] 102)) r 102 [.slice none 0 0,.int .i64 step,.slice none 0 0] from set_self).keep (M:=(·=b)) set_step hbr.symm
theorem JSize.undo {n:Nat} {st:St} (z:JSize n st) (j:Nat) (hI:Tr n (st.undo j).value (st.undo j).level (st.undo j).trail (st.undo j).limits):JSize n (st.undo j):=by
 obtain ⟨u1,u2,u3,u4,u5,u6,u7,u8⟩:=undo_fields st j
 refine ⟨z.nb,u1.trans z.v,by rw [u2]; exact z.l,u3.trans z.w,by rw [u4]; exact z.W,hI.lit,Nat.le_trans u7 z.tn,fun p hp => Nat.le_of_lt (hI.lim p hp),?_,by rw [u6]; exact z.cn,by rw [u4]; exact z.Wn⟩
 unfold St.undo
 split
 · show (st.limits.take j).length≤n
   rw [List.length_take]; have:=z.ln; omega
 · exact z.ln
theorem JSize.same {n:Nat} {st st':St} (z:JSize n st) (s:Same st st'):JSize n st' :=
 ⟨z.nb,by rw [s.value]; exact z.v,by rw [s.level]; exact z.l,by rw [s.why]; exact z.w,by rw [s.W]; exact z.W,by rw [s.trail]; exact z.tl,by rw [s.trail]; exact z.tn,by rw [s.limits,s.trail]; exact z.lim,by rw [s.limits]; exact z.ln,by rw [s.clauses]; exact z.cn,by rw [s.W]; exact z.Wn⟩
theorem undo_limits {st:St} {j:Nat} (h:j≤st.limits.length):(st.undo j).limits.length=j∧(st.undo j).limits=st.limits.take j:=by
 unfold St.undo
 split
 · exact ⟨by show (st.limits.take j).length=j; rw [List.length_take]; omega,rfl⟩
 · have:j=st.limits.length:=by omega
   subst this
   exact ⟨rfl,(List.take_length ..).symm⟩
theorem undo_mem {n:Nat} {st:St} (h:Tr n st.value st.level st.trail st.limits) {j:Nat} {x:Int} (hx:x ∈ st.trail) (hl:lv st.level x≤j):x ∈ (st.undo j).trail:=by
 unfold St.undo
 split
 · rename_i hj
   exact (h.lv_take hj hx).1 hl
 · exact hx
theorem r78 {σ:PH} {T:Nat→Tag} {s:Nat} {ff:List Value} {st:St} (h:Rep σ T s ff st) {F:Fm} {n:Nat} (hI:Inv F n st) (z:JSize n st) {r:Nat} {rc:RC} (hr:st.R r=some rc) (hfl:∀ l ∈ rc.lits,-l ∈ st.trail)
   (hst:st.steps.length + 2 * n + 2≤3500000000000) :
   C 78 #[.pointer (some (ptr s)),.pointer (some (ptr r))] (fun v τ => ∃ T' st',Did σ T τ T'∧Rep τ T' s ff st'∧((v=.bool false∧maxLv st.level rc.lits=0∧st'=st.undo 0) ∨ (v=.bool true∧Learned F n st st' (maxLv st.level rc.lits)))) σ:=by
 refine go (E78_0 _ _ _ _ _) ?_
 unfold S78_0
 obtain ⟨cs0,hcs0,hg0⟩:=hI.stp
 have hG:=hg0 r rc hr
 have z1:=z.nb
 have hrl:rc.lits.length≤n:=by
   have hd:=hG.dis
   have h1:(rc.lits.map vr).Nodup:=by rw [List.nodup_iff_pairwise_ne,List.pairwise_map]; exact hd
   have h2:∀ v ∈ rc.lits.map vr,v ∈ List.range n:=by
     intro v hv
     obtain ⟨x,hx,rfl⟩:=List.mem_map.1 hv
     exact List.mem_range.2 (hG.lit x hx).vr_lt
   have:=h1.length_le_of_subset h2
   simpa using this
 obtain ⟨sl,sc,hB,hO,hsn⟩:=h.R_blk hr
 have e0:(Addr.mk r 0 none).add 0=⟨r,0,none⟩:=rfl
 obtain ⟨la,lc,hlc,hlg⟩:=h.level
 refine ⟨_,rfl,_,e0 ▸ hB.get (i:=0) rfl,_,_,_,rfl,?_⟩
 unfold S78_1
 refine iloopS_for (G:=Unit) (fun k _ => (some (ptr s),some (ptr r),((maxLv st.level (rc.lits.take k):Nat):Int),sl.a,sl.n,sl.c,((sl.n:Nat):Int),(k:Int))) (fun k _ υ => σ=υ) sl.n ?_ (g:=()) rfl
 rintro k _ _ hk rfl R hR
 unfold S78_2
 dsimp only
 simp only [Nat.mul_one]
 refine br_dec.2 ⟨fun hlt => ?_,fun hge => ?_⟩
 · have hkl:k < rc.lits.length:=by omega
   obtain ⟨p,hp,hc⟩:=hO.get (i:=k) (v:=.int .i64 rc.lits[k]) (by simp [ints,hkl])
   have hcm:=hG.lit _ (List.getElem_mem hkl)
   obtain ⟨pl,hpl,hplc⟩:=hlg rc.lits[k] (by rw [z.l]; exact hcm.vr_lt)
   have hi:0≤idx rc.lits[k] / 2:=by rw [idx_half hcm.1]; omega
   have hz:=z.l
   have hvl:=hcm.vr_lt
   refine ⟨p,hp,by omega,by omega,_,hc,_,rfl,idx rc.lits[k] / 2,[],_,rfl,_,hlc,_,_,_,rfl,quiet74 (hcm.lit (by omega)) hcm.1 _,pl,hpl,hi,by rw [idx_half hcm.1]; omega,_,by rw [idx_toNat hcm.1]; exact hplc,_,rfl,?_⟩
   have:=hR () σ (by omega) rfl
   rw [wnat (by omega)]
   have e:(if ((maxLv st.level (rc.lits.take k):Nat):Int) < ((lv st.level rc.lits[k]:Nat):Int) then ((lv st.level rc.lits[k]:Nat):Int) else ((maxLv st.level (rc.lits.take k):Nat):Int))=((maxLv st.level (rc.lits.take (k + 1)):Nat):Int):=by
     rw [take_snoc (List.getElem?_eq_getElem hkl),maxLv_snoc]
     split <;> omega
   rw [e]
   exact this
 · have hkn:k=rc.lits.length:=by omega
   subst hkn
   rw [List.take_length]
   generalize htop:maxLv st.level rc.lits=top
   have hle:∀ x ∈ rc.lits,lv st.level x≤top:=fun x hx => by rw [← htop]; exact maxLv_le hx
   have htl:top≤st.limits.length:=by
     rcases maxLv_mem (level:=st.level) (l:=rc.lits) with h1 | ⟨x,h1,h2⟩
     · omega
     · have:=hI.tr.lv_le (hfl x h1)
       rw [lv_neg] at this; omega
   have hln:=z.ln
   refine (r91 h top (by omega) (fun x hx => ⟨(z.tl x hx).lit (by omega),(z.tl x hx).1,by rw [z.v]; exact (z.tl x hx).vr_lt⟩) (by rw [z.w,z.v]) z.lim (by have:=z.tn; omega) (by omega)).mono hb ?_
   rintro _ σ1 ⟨rfl,T1,D1,R1⟩
   have hIu:=hI.undo top
   have zu:=z.undo top hIu.tr
   obtain ⟨u1,u2,u3,u4,u5,u6,u7,u8⟩:=undo_fields st top
   obtain ⟨hll,hlt⟩:=undo_limits htl
   refine ⟨σ1,PH.sub.refl _,rfl,br_iff.2 ⟨fun h0 => ?_,fun h0 => ?_⟩⟩
   · have h0:top=0:=by simp at h0; omega
     subst h0
     exact ⟨T1,_,D1,R1,(.inl ⟨trivial,rfl,rfl⟩)⟩
   · have hpos:0 < top:=by simp at h0; omega
     have hru:(st.undo top).R r=some rc:=by rw [u5]; exact hr
     have hflu:∀ l ∈ rc.lits,-l ∈ (st.undo top).trail:=fun l hl => undo_mem hI.tr (hfl l hl) (by rw [lv_neg]; exact hle l hl)
     generalize hsu:st.undo top=su at *
     have u8l:su.steps.length=st.steps.length:=by rw [u8]
     obtain ⟨sl1,sc1,hB1,hO1,hsn1⟩:=R1.R_blk hru
     refine (c75 hB1 hO1 (by omega) hG.nodup).mono hb ?_
     rintro _ σ2 ⟨m,es,ck,rfl,hm0,hm1,ms,hsub⟩
     refine ⟨σ2,PH.sub.refl _,_,rfl,?_⟩
     obtain ⟨T2,R2,D2,hT2⟩:=R1.grow hsub
     refine (r76 R2 hru (by rw [u8]; omega)).mono hb ?_
     rintro _ σ3 ⟨rfl,T3,D3,R3⟩
     obtain ⟨J,hps,csd,cd,hcsd,hcd,hcdm⟩:=hIu.derive hru
     have same:=derive_same su hru
     have hm3:σ3 m=some (.map es ck):=D3.step.same m _ hm1 (by rw [hT2 m hm0]; simp)
     have ht3:T3 m=.other:=(D3.tags m (by rw [hm1]; simp)).trans (hT2 m hm0)
     obtain ⟨ta,tc,htr,htc,htg⟩:=R3.trail
     rw [same.trail] at htr
     have hsul:su.trail.length≤n:=zu.tn
     refine ⟨σ3,PH.sub.refl _,_,rfl,_,rfl,_,htr,_,_,_,rfl,?_⟩
     unfold S78_3
     have w:IntKind.wrap .i64 ((su.trail.length:Int) - 1)=(su.trail.length:Int) - 1 - (0:Nat):=by rw [w64 (by omega) (by omega)]; omega
     rw [w]
     have DD0:Did σ T σ3 T3:=D1.trans (D2.trans D3)
     have hm00:σ m=none:=D1.none hm0
     have hplt:top - 1 < su.limits.length:=by omega
     generalize hpd:su.limits[top - 1]=p at *
     have hpl:su.limits[su.limits.length - 1]?=some p:=by rw [hll]; exact List.getElem?_eq_some_iff.2 ⟨hplt,hpd⟩
     obtain ⟨x0,hx0,hx0l⟩:∃ x ∈ rc.lits,lv st.level x=top:=by
       rcases maxLv_mem (level:=st.level) (l:=rc.lits) with h1 | ⟨x,h1,h2⟩
       · omega
       · exact ⟨x,h1,h2.trans htop⟩
     refine iloopS_for (G:=Int) (fun k step => (some (ptr s),(top:Int),some m,step,(su.trail.length:Int) - 1 - (k:Nat)))
       (fun k step υ => ∃ T' st' es ck ks,DidX (·=m) σ3 T3 υ T'∧Rep υ T' s ff st'∧Inv F n st'∧Same su st'∧υ m=some (.map es ck)∧T' m=.other∧MSet es ck ks∧k≤su.trail.length∧CL F st' ks step (su.trail.length - k)∧p + 1 + k≤su.trail.length∧st'.steps.length≤su.steps.length + 1 + 2 * k ∧
         (∀ x ∈ ks,lv su.level x≤top)∧∃ x ∈ ks,lv su.level x=top) su.trail.length ?_
       (g:=su.stepOf rc) ⟨T3,_,es,ck,rc.lits,DidX.refl _ _,R3,J,same,hm3,ht3,ms,Nat.zero_le _,⟨fun l hl => ?_,hps,csd,cd,hcsd,hcd,hcdm⟩,?_,derive_len _ _ _,by rw [u2]; exact hle,x0,hx0,by rw [u2]; exact hx0l⟩
     · rintro k step υ hk ⟨T',st',es',ck',ks,D,R',I',S',hm',ht',ms',hkl,cl,hpk,hlen,hkle,xt,hxt,hxtl⟩ Q hQ
       unfold S78_4
       dsimp only
       simp only [Nat.mul_one]
       have ksl:∀ l ∈ ks,LitN n l:=by
         intro l hl
         have:=I'.tr.lit _ (List.mem_of_mem_take (cl.fls l hl))
         have:=this.neg
         rwa [Int.neg_neg] at this
       have kslen:ks.length≤n:=by
         have h1:((ks.map (- ·))).Nodup:=ms'.nodup.map _ fun a b hab e => hab (by omega)
         have h2:=h1.length_le_of_subset (l₂:=st'.trail) fun v hv => by
           obtain ⟨x,hx,rfl⟩:=List.mem_map.1 hv
           exact List.mem_of_mem_take (cl.fls x hx)
         rw [List.length_map,S'.trail] at h2
         omega
       have zs:=zu.same S'
       refine (r92 R' hm' ms' (fun l hl => ⟨(ksl l hl).lit (by omega),(ksl l hl).1,by rw [zs.l]; exact (ksl l hl).vr_lt⟩) (by omega) top).mono hb ?_
       rintro _ υ1 ⟨rfl,hsub1⟩
       obtain ⟨T4,R4,D4,hT4⟩:=R'.grow hsub1
       have hm4:=hsub1 m _ hm'
       have ht4:T4 m=.other:=(D4.tags m (by rw [hm']; simp)).trans ht'
       have hlvl:st'.level=su.level:=S'.level
       refine ⟨υ1,PH.sub.refl _,_,rfl,br_dec.2 ⟨fun hgt => ?_,fun hle1 => ?_⟩⟩
       ·
         have hgt:1 < ks.countP fun l => lv st'.level l == top:=by omega
         obtain ⟨a,b,ha,hb',hab,hpa,hpb⟩:=two_of_count ms'.nodup hgt
         have hpa:lv su.level a=top:=by rw [hlvl] at hpa; simpa using hpa
         have hpb:lv su.level b=top:=by rw [hlvl] at hpb; simpa using hpb
         have place:∀ c,c ∈ ks→lv su.level c=top→∃ i,p≤i∧i < su.trail.length - k∧su.trail[i]?=some (-c):=by
           intro c hc hcl
           have h1:=cl.fls c hc
           rw [S'.trail] at h1
           exact not_take h1 (hIu.tr.top_drop hpl (List.mem_of_mem_take h1) (by rw [lv_neg,hcl,hll]))
         obtain ⟨ia,ia1,ia2,ia3⟩:=place a ha hpa
         obtain ⟨ib,ib1,ib2,ib3⟩:=place b hb' hpb
         have hiab:ia ≠ ib:=by
           rintro rfl
           rw [ia3] at ib3
           have:=Option.some.inj ib3
           omega
         have hlt:k < su.trail.length:=by omega
         have hidx:((su.trail.length:Int) - 1 - (k:Nat)).toNat=su.trail.length - k - 1:=by omega
         have hii:su.trail.length - k - 1 < su.trail.length:=by omega
         have hget:su.trail[su.trail.length - k - 1]?=some su.trail[su.trail.length - k - 1]:=List.getElem?_eq_getElem hii
         obtain ⟨ta',tc',htr',htc',htg'⟩:=R4.trail
         rw [S'.trail] at htr' htg'
         obtain ⟨q,hq,hc⟩:=htg' _ _ hget
         generalize hte:su.trail[su.trail.length - k - 1]=t at *
         have htm:t ∈ su.trail:=List.mem_of_getElem? hget
         have hlt':=hIu.tr.lit t htm
         have hlit:=hlt'.lit (n:=n) (by omega)
         have wneg:IntKind.wrap .i64 (0 - t)=-t:=by rw [w64 (by unfold Lit at hlit; omega) (by unfold Lit at hlit; omega)]; omega
         have wdec:IntKind.wrap .i64 ((su.trail.length:Int) - 1 - (k:Nat) - 1)=(su.trail.length:Int) - 1 - ((k + 1:Nat):Int):=by rw [w64 (by omega) (by omega)]; omega
         have hfind:=ms'.find (-t)
         have hsucc:su.trail.length - k=(su.trail.length - k - 1) + 1:=by omega
         rw [hsucc] at cl
         refine ⟨_,rfl,_,htr',_,_,_,rfl,q,hq,by omega,by omega,_,by rw [hidx]; exact hc,_,rfl,m,rfl,es',ck',hm4,ms'.ints,(decide (-t ∈ ks)),by rw [wneg,hfind]; by_cases e:-t ∈ ks <;> simp [e],br_dec.2 ⟨fun hin => ?_,fun hin => ?_⟩⟩
         · have hnlit:Lit (-t):=hlt'.neg.lit (n:=n) (by omega)
           rw [wneg]
           refine (r93 R4 hnlit hlt'.neg.1 (by rw [vr_neg,zs.v]; exact hlt'.vr_lt) (by rw [zs.v]; omega)).mono hb ?_
           rintro _ υ2 ⟨rfl,T5,D5,R5⟩
           have hm5:υ2 m=some (.map es' ck'):=D5.step.same m _ hm4 (by rw [ht4]; simp)
           have ht5:T5 m=.other:=(D5.tags m (by rw [hm4]; simp)).trans ht4
           refine ⟨υ2,PH.sub.refl _,rfl,?_⟩
           have hnl:(su.trail.length - k - 1) ∉ st'.limits:=by
             rw [S'.limits]
             intro hmm
             have:=hIu.tr.limit_le hpl hmm
             omega
           have hget':st'.trail[su.trail.length - k - 1]?=some t:=by rw [S'.trail]; exact hget
           have hsp:st'.trail=st'.trail.take (su.trail.length - k - 1) ++ t :: st'.trail.drop (su.trail.length - k - 1 + 1):=by
             obtain ⟨h1,h2⟩:=List.getElem?_eq_some_iff.1 hget'
             conv => lhs; rw [← List.take_append_drop (su.trail.length - k - 1) st'.trail]
             rw [List.drop_eq_getElem_cons h1,h2]
           obtain ⟨r',rc',q1,q2,q3,q4⟩:=I'.imp _ t _ hsp (by rw [List.length_take,S'.trail,Nat.min_eq_left (by omega)]; exact hnl)
           obtain ⟨cs',hcs',hg'⟩:=I'.stp
           have hG':=hg' r' rc' q2
           have hrl':rc'.lits.length≤1000000:=by
             have hd:=hG'.dis
             have:rc'.lits.length≤n:=by
               have h1:(rc'.lits.map vr).Nodup:=by rw [List.nodup_iff_pairwise_ne,List.pairwise_map]; exact hd
               have h2:∀ v ∈ rc'.lits.map vr,v ∈ List.range n:=by
                 intro v hv
                 obtain ⟨x,hx,rfl⟩:=List.mem_map.1 hv
                 exact List.mem_range.2 (hG'.lit x hx).vr_lt
               have:=h1.length_le_of_subset h2
               simpa using this
             omega
           refine (r77 R5 hm5 ht5 ms' step hnlit hlt'.neg.1 (r:=r') (by rw [vr_neg]; exact q1) q2 (fun l hl => ⟨(hG'.lit l hl).lit (n:=n) (by omega),(hG'.lit l hl).1⟩) hrl' (by omega)).mono hb ?_
           rintro _ τ ⟨rfl,T6,es3,ck3,ks3,D6,R6,hm6,ms6,hmem6⟩
           refine ⟨τ,PH.sub.refl _,_,rfl,?_⟩
           rw [wdec]
           obtain ⟨I6,cl6⟩:=CL.resolve z1 I' cl hget' hnl hin q1 q2 hmem6
           have hlen6:=resolved_len st' r' rc' step (-t)
           have S6:=S'.trans (resolved_same st' q2 step (-t))
           refine hQ _ _ hlt ⟨T6,_,es3,ck3,ks3,((D.trans D4.x).trans D5.x).trans D6,R6,I6,S6,hm6,(D6.tags m (by rw [hm5]; simp)).trans ht5,ms6,hlt,?_,by omega,by omega,?_,?_⟩
           · rw [show su.trail.length - (k + 1)=su.trail.length - k - 1 from by omega]; exact cl6
           · intro x hx
             rcases (hmem6 x).1 hx with ⟨h1,_⟩ | ⟨h1,h2⟩
             · exact hkle x h1
             · have h3:=q4 x h1 (by rintro rfl; exact h2 (by rw [vr_neg]))
               have h4:=hIu.tr.lv_le (x:=-x) (by rw [← S'.trail]; exact List.mem_of_mem_take h3)
               rw [lv_neg,hll] at h4; exact h4
           · by_cases he:a=-t
             · exact ⟨b,(hmem6 b).2 (.inl ⟨hb',fun e => hab (he.trans e.symm)⟩),hpb⟩
             · exact ⟨a,(hmem6 a).2 (.inl ⟨ha,he⟩),hpa⟩
         · rw [wdec]
           refine hQ _ _ hlt ⟨T4,st',es',ck',ks,D.trans D4.x,R4,I',S',hm4,ht4,ms',hlt,?_,by omega,by omega,hkle,xt,hxt,hxtl⟩
           rw [show su.trail.length - (k + 1)=su.trail.length - k - 1 from by omega]
           exact cl.skip (by rw [S'.trail]; exact hget) hin
       ·
         have hcount:¬ 1 < ks.countP fun l => lv st'.level l == top:=by omega
         have hcln:Go.Sv.Clean ks:=by
           intro x hx
           have h1:=cl.fls x hx
           have h2:=(ksl x hx).small z1
           exact ⟨h2.1,h2.2,fun h3 => I'.tr.anti (List.mem_of_mem_take h1) (List.mem_of_mem_take (cl.fls _ h3))⟩
         have huniq:∀ x ∈ ks,lv st'.level x=top→x=xt:=fun x hx hxl => one_of_count hcount hx hxt (by simpa using hxl) (by rw [hlvl]; simpa using hxtl)
         refine (r94 R4 zs hm4 ms' step top ksl (by omega) hcln (by rw [hlvl]; exact hkle) (by omega) hxt (by rw [hlvl]; exact hxtl) huniq).mono hb ?_
         rintro _ τ ⟨rfl,T7,rn,lits,back,D7,hRn,R7,hmem7,hpd7,hl0,hbk,hbex,hl1⟩
         have DD:Did σ T τ T7:=DD0.of_x ((D.trans D4.x).trans D7.x) (by rintro b rfl; exact hm00)
         have hback:back < top:=by
           rcases hbex with h1 | ⟨x,h1,h2,h3⟩
           · omega
           · omega
         refine ⟨τ,PH.sub.refl _,rfl,T7,_,DD,R7,.inr ⟨trivial,hpos,st',rn,lits,step,back,su.trail.length - k,p,xt,by rw [hsu]; exact S',I',by rw [S'.limits]; exact hll,by rw [S'.limits]; exact List.getElem?_eq_some_iff.2 ⟨hplt,hpd⟩,rfl,hRn,⟨fun l hl => cl.fls l ((hmem7 l).1 hl),cl.pos,?_⟩,hpd7,hl0,by rw [hlvl]; exact hxtl,fun x hx => hbk x ((hmem7 x).1 hx),hback,hl1,?_,?_⟩⟩
         · obtain ⟨cs,c,c1,c2,c3⟩:=cl.der
           exact ⟨cs,c,c1,c2,fun l => (c3 l).trans (hmem7 l).symm⟩
         · rw [S'.trail,← u8]; omega
         · rcases hbex with h1 | ⟨x,h1,h2,h3⟩
           · exact .inl h1
           · refine .inr ⟨x,(hmem7 x).2 h1,h2,?_⟩
             rintro rfl
             rw [hlvl,hxtl] at h3; omega
     · rw [Nat.sub_zero,same.trail,List.take_length]; exact hflu l hl
     ·
       have h1:=hflu x0 hx0
       obtain ⟨i,i1,i2,i3⟩:=not_take (p:=p) (m:=su.trail.length) (by rw [List.take_length]; exact h1) (hIu.tr.top_drop hpl h1 (by rw [lv_neg,u2,hx0l,hll]))
       omega
theorem pushRow {e:TypeId} {size bytes:Nat} {z:Value} (hs:sizeT prog e=some size) (hbt:bytesT prog e=some bytes) (hz:zeroT prog e=some z) (hzs:z.cells.size=size) (h0:bytes ≠ 0)
   {σ:PH} {a:Option Addr} {n c b:Nat} {vs news:List Value} (O:Own σ e size a n c vs) (hb:σ b=none) (hl:news.length=size) (hp:∀ v ∈ news,Go.Sl.plainCell v) (hn:((n + 1) + (n + 1) / 4 + 256) * bytes≤2 ^ 48) {Q:Value→PH→Prop}
   (hQ:∀ a' c' τ,Own τ e size a' (n + 1) c' (vs ++ news)→Step (fun q => ∃ p,a=some p∧q=p.block) σ τ→(∀ p,a'=some p→(∃ p',a=some p'∧p.block=p'.block) ∨ σ p.block=none)→Q (.slice a' (n + 1) c') τ) :
   iappend prog e (.slice a n c) (.slice (some ⟨b,0,none⟩) 1 1) Q (σ.set b (.cells news.toArray e)):=by
 have sb:=PH.sub_set (o:=.cells news.toArray e) hb
 have O2:=O.keep (M:=fun _ => False) sb.step (fun _ _ h => h)
 refine Own.append hs hbt hz hzs h0 O2 (m:=1) (news:=news) ?_ (by rw [hl,Nat.one_mul]) hp hn ?_
 · exact rowAt_of (b:=b) (arr:=news.toArray) (e:=e) (f:=(0,0)) set_self _ 0 0 (fun j v hv => by simpa using hv)
 · intro a' c' τ hO hst hnew
   refine hQ a' c' τ hO ⟨fun q o hq hm => hst.same q o (sb _ _ hq) hm,fun q hq => hst.dom q ?_⟩ fun p hp => ?_
   · cases hσ:σ q with
     | none => exact absurd hσ hq
     | some o => rw [sb _ _ hσ]; simp
   · rcases hnew with h1 | ⟨b',h1,h2⟩
     · exact .inl ⟨p,h1 ▸ hp,rfl⟩
     · rw [hp] at h2; cases h2
       right
       cases hσ:σ b' with
       | none => rfl
       | some o => rw [sb _ _ hσ] at h1; cases h1
structure Lay2 (σ υ:PH) (r:Nat) (sl sc:Sli) (step:Int) (l cy:List Int):Prop where
 sub:σ.sub υ
 r0:σ r=none
 blk:Blk υ r 102 [sl.v,.int .i64 step,sc.v]
 ol:Own υ 3 1 sl.a sl.n sl.c (ints l)
 oc:Own υ 3 1 sc.a sc.n sc.c (ints cy)
 nl:∀ p,sl.a=some p→σ p.block=none∧p.block ≠ r
 nc:∀ p,sc.a=some p→σ p.block=none∧p.block ≠ r
 ap:∀ p q,sl.a=some p→sc.a=some q→p.block ≠ q.block
theorem Lay2.pushL {σ υ:PH} {r:Nat} {sl sc:Sli} {step:Int} {l cy:List Int} (h:Lay2 σ υ r sl sc step l cy) (x:Int) (hn:l.length≤1000000) {b:Nat} (hbn:υ b=none) {Q:Value→PH→Prop}
   (hQ:∀ a' c' τ,(∃ u,τ.cell? (ptr r)=some u)→τ.froz (ptr r)=some false→Lay2 σ (τ.setCell (ptr r) (.slice a' (sl.n + 1) c')) r ⟨a',sl.n + 1,c'⟩ sc step (l ++ [x]) cy→Q (.slice a' (sl.n + 1) c') τ) :
   iappend prog 3 (.slice sl.a sl.n sl.c) (.slice (some ⟨b,0,none⟩) 1 1) Q (υ.set b (.cells #[.int .i64 x] 3)):=by
 have hln:=own_len h.ol
 have e0:(Addr.mk r 0 none).add 0=⟨r,0,none⟩:=rfl
 refine pushRow t3.1 t3.2.1 t3.2.2 rfl (by decide) h.ol hbn (news:=[.int .i64 x]) rfl ?_ (by omega) ?_
 · intro v hv; simp at hv; subst hv; trivial
 · intro a' c' τ hO hst hnew
   have hB:Blk τ r 102 [sl.v,.int .i64 step,sc.v]:=h.blk.keep hst (by rintro ⟨p,h1,h2⟩; exact (h.nl p h1).2 h2.symm)
   have hC:Own τ 3 1 sc.a sc.n sc.c (ints cy):=h.oc.keep hst (by rintro q hq ⟨p,h1,h2⟩; exact h.ap p q h1 hq h2.symm)
   have st2:Step (·=r) τ (τ.setCell (ptr r) (.slice a' (sl.n + 1) c')):=setCell_step (a:=ptr r)
   have nl':∀ p,a'=some p→σ p.block=none∧p.block ≠ r∧∀ q,sc.a=some q→p.block ≠ q.block:=by
     intro p hp
     rcases hnew p hp with ⟨p',h1,h2⟩ | h1
     · rw [h2]; exact ⟨(h.nl p' h1).1,(h.nl p' h1).2,fun q hq => h.ap p' q h1 hq⟩
     · refine ⟨?_,fun e => ?_,fun q hq e => ?_⟩
       · cases hσ:σ p.block with
         | none => rfl
         | some o => rw [h.sub _ _ hσ] at h1; cases h1
       · rw [e] at h1; exact h.blk.known h1
       · rw [e] at h1; exact h.oc.known hq h1
   refine hQ a' c' τ ⟨_,e0 ▸ hB.get (i:=0) rfl⟩ (by have:=hB.froz 0; rw [e0] at this; exact this) ⟨?_,h.r0,?_,?_,?_,fun p hp => ⟨(nl' p hp).1,(nl' p hp).2.1⟩,h.nc,fun p q hp hq => (nl' p hp).2.2 q hq⟩
   · exact sub_step_new (sub_step_new h.sub hst (by rintro q ⟨p,h1,rfl⟩; exact (h.nl p h1).1)) st2 (by rintro q rfl; exact h.r0)
   · have:=hB.set 0 (.slice a' (sl.n + 1) c'); exact this
   · have:=hO.keep st2 fun p hp => (nl' p hp).2.1
     simpa [ints] using this
   · exact hC.keep st2 fun p hp => (h.nc p hp).2
theorem Lay2.pushC {σ υ:PH} {r:Nat} {sl sc:Sli} {step:Int} {l cy:List Int} (h:Lay2 σ υ r sl sc step l cy) (x:Int) (hn:cy.length≤1000000) {b:Nat} (hbn:υ b=none) {Q:Value→PH→Prop}
   (hQ:∀ a' c' τ,(∃ u,τ.cell? ((ptr r).add 2)=some u)→τ.froz ((ptr r).add 2)=some false→Lay2 σ (τ.setCell ((ptr r).add 2) (.slice a' (sc.n + 1) c')) r sl ⟨a',sc.n + 1,c'⟩ step l (cy ++ [x])→Q (.slice a' (sc.n + 1) c') τ) :
   iappend prog 3 (.slice sc.a sc.n sc.c) (.slice (some ⟨b,0,none⟩) 1 1) Q (υ.set b (.cells #[.int .i64 x] 3)):=by
 have hln:=own_len h.oc
 refine pushRow t3.1 t3.2.1 t3.2.2 rfl (by decide) h.oc hbn (news:=[.int .i64 x]) rfl ?_ (by omega) ?_
 · intro v hv; simp at hv; subst hv; trivial
 · intro a' c' τ hO hst hnew
   have hB:Blk τ r 102 [sl.v,.int .i64 step,sc.v]:=h.blk.keep hst (by rintro ⟨p,h1,h2⟩; exact (h.nc p h1).2 h2.symm)
   have hL:Own τ 3 1 sl.a sl.n sl.c (ints l):=h.ol.keep hst (by rintro q hq ⟨p,h1,h2⟩; exact h.ap q p hq h1 h2)
   have hrb:((ptr r).add 2).block=r:=add_block _ _
   have st2:Step (·=r) τ (τ.setCell ((ptr r).add 2) (.slice a' (sc.n + 1) c')):=setCell_step.weaken fun b hb => hb.trans hrb
   have nc':∀ p,a'=some p→σ p.block=none∧p.block ≠ r∧∀ q,sl.a=some q→q.block ≠ p.block:=by
     intro p hp
     rcases hnew p hp with ⟨p',h1,h2⟩ | h1
     · rw [h2]; exact ⟨(h.nc p' h1).1,(h.nc p' h1).2,fun q hq => h.ap q p' hq h1⟩
     · refine ⟨?_,fun e => ?_,fun q hq e => ?_⟩
       · cases hσ:σ p.block with
         | none => rfl
         | some o => rw [h.sub _ _ hσ] at h1; cases h1
       · rw [e] at h1; exact h.blk.known h1
       · rw [← e] at h1; exact h.ol.known hq h1
   refine hQ a' c' τ ⟨_,hB.get (i:=2) rfl⟩ (hB.froz 2) ⟨?_,h.r0,?_,?_,?_,h.nl,fun p hp => ⟨(nc' p hp).1,(nc' p hp).2.1⟩,fun p q hp hq => (nc' q hq).2.2 p hp⟩
   · exact sub_step_new (sub_step_new h.sub hst (by rintro q ⟨p,h1,rfl⟩; exact (h.nc p h1).1)) st2 (by rintro q rfl; exact h.r0)
   · have:=hB.set 2 (.slice a' (sc.n + 1) c'); exact this
   · exact hL.keep st2 fun p hp => (h.nl p hp).2
   · have:=hO.keep st2 fun p hp => (nc' p hp).2.1
     simpa [ints] using this
def pick (lits c:List Int):List Int:=c.map fun i => lits.getD i.toNat 0
theorem c96 {σ:PH} {a:Option Addr} {n k:Nat} {lits:List Int} (hl:Ints σ a n lits) {a2:Option Addr} {n2 k2:Nat} {c:List Int} (hc:Ints σ a2 n2 c) (hcl:∀ i ∈ c,0≤i∧i < n) (hlit:∀ x ∈ lits,Lit x) (hn:c.length≤100000)
   {f:Int} (hf:Lit f) {out:List Int} (ho:norm ((if f=0 then [] else [f]) ++ (pick lits c).map (- ·))=some out) :
   C 96 #[.slice a n k,.slice a2 n2 k2,.int .i64 f] (fun v τ => ∃ r sl sc,v=.pointer (some (ptr r))∧Lay2 σ τ r sl sc (-1) out ((if f=0 then [] else [-f]) ++ pick lits c)) σ:=by
 have hln:=hl.1
 have hcn:=hc.1
 refine go (E96_0 _ _ _ _ _ _ _ _ _ _) ?_
 unfold S96_0
 intro r hr0
 have e0:(Addr.mk r 0 none).add 0=⟨r,0,none⟩:=rfl
 have L0:Lay2 σ (σ.set r (.cells #[.slice none 0 0,.int .i64 (-1),.slice none 0 0] 102)) r ⟨none,0,0⟩ ⟨none,0,0⟩ (-1) [] [] :=
   ⟨PH.sub_set hr0,hr0,set_self,own_nil,own_nil,fun p hp => (by cases hp),fun p hp => (by cases hp),fun p q hp => (by cases hp)⟩
 have nf:=hf
 unfold Lit at nf
 have wf:IntKind.wrap .i64 (0 - f)=-f:=by rw [w64 (by omega) (by omega)]; omega
 have pl:∀ i ∈ c,∃ x,lits[i.toNat]?=some x∧Lit x:=by
   intro i hi
   obtain ⟨h1,h2⟩:=hcl i hi
   have h3:i.toNat < lits.length:=by omega
   exact ⟨_,List.getElem?_eq_getElem h3,hlit _ (List.getElem_mem h3)⟩
 have rest:∀ (υ:PH) (sl sc:Sli) (l0 cy0:List Int),Lay2 σ υ r sl sc (-1) l0 cy0→l0.length≤1→cy0.length≤1→(∀ x ∈ l0,Lit x)→l0=(if f=0 then [] else [f])→cy0=(if f=0 then [] else [-f]) →
     S96_1 C (fun v τ => ∃ r sl sc,v=.pointer (some (ptr r))∧Lay2 σ τ r sl sc (-1) out ((if f=0 then [] else [-f]) ++ pick lits c)) a n k a2 n2 k2 (ptr r) υ:=by
   intro υ sl sc l0 cy0 L hl0 hcy0 hl0l e1 e2
   unfold S96_1 S96_2
   refine iloopS_for (G:=Unit) (fun j _ => (a,n,k,ptr r,a2,n2,k2,((n2:Nat):Int),(j:Int))) (fun j _ ω => ∃ sl sc,Lay2 σ ω r sl sc (-1) (l0 ++ (pick lits (c.take j)).map (- ·)) (cy0 ++ pick lits (c.take j))) n2 ?_ (g:=()) ⟨sl,sc,by simpa [pick] using L⟩
   rintro j _ ω hj ⟨sl,sc,L⟩ R hR
   unfold S96_3
   dsimp only
   simp only [Nat.mul_one]
   refine br_dec.2 ⟨fun hlt => ?_,fun hge => ?_⟩
   · have hjc:j < c.length:=by omega
     obtain ⟨p,hp,hcell⟩:=hc.2.at (i:=j) (v:=.int .i64 c[j]) (by simp [hjc])
     obtain ⟨h1,h2⟩:=hcl c[j] (List.getElem_mem hjc)
     obtain ⟨x,hx,hxl⟩:=pl c[j] (List.getElem_mem hjc)
     obtain ⟨q,hq,hqc⟩:=hl.2.at (i:=c[j].toNat) (v:=.int .i64 x) (by simp [hx])
     have hxl':=hxl
     unfold Lit at hxl'
     have wx:IntKind.wrap .i64 (0 - x)=-x:=by rw [w64 (by omega) (by omega)]; omega
     have hlen1:(l0 ++ (pick lits (c.take j)).map (- ·)).length≤1000000:=by simp [pick]; omega
     have hlen2:(cy0 ++ pick lits (c.take j)).length≤1000000:=by simp [pick]; omega
     have hpx:pick lits (c.take (j + 1))=pick lits (c.take j) ++ [x]:=by
       rw [List.take_succ_eq_append_getElem hjc]
       unfold pick
       rw [List.map_append,List.map_singleton,List.getD_eq_getElem?_getD,hx]; rfl
     refine ⟨p,hp,by omega,by omega,_,L.sub.cell hcell,_,rfl,_,rfl,_,e0 ▸ L.blk.get (i:=0) rfl,_,_,_,rfl,q,hq,h1,h2,_,L.sub.cell hqc,_,rfl,fun b1 hb1 => ?_⟩
     rw [wx]
     refine L.pushL (-x) hlen1 hb1 fun a' c' τ q1 q2 L1 => ?_
     refine ⟨_,_,_,rfl,_,rfl,q1,q2,_,rfl,_,L1.blk.get (i:=2) rfl,_,_,_,rfl,q,hq,h1,h2,_,L1.sub.cell hqc,_,rfl,fun b2 hb2 => ?_⟩
     refine L1.pushC x hlen2 hb2 fun a'' c'' τ' q3 q4 L2 => ?_
     refine ⟨_,_,_,rfl,_,rfl,q3,q4,?_⟩
     rw [wnat (by omega)]
     refine hR () _ (by omega) ⟨⟨a',sl.n + 1,c'⟩,⟨a'',sc.n + 1,c''⟩,?_⟩
     rw [hpx,List.map_append,← List.append_assoc,← List.append_assoc]
     exact L2
   · have hjn:j=c.length:=by omega
     subst hjn
     rw [List.take_length,e1,e2] at L
     refine ⟨_,rfl,_,e0 ▸ L.blk.get (i:=0) rfl,_,_,_,rfl,?_⟩
     refine (c111 (own_ints L.ol) ?_ ?_ ho).mono hb ?_
     · intro x hx
       rcases List.mem_append.1 hx with hx | hx
       · rw [← e1] at hx; exact hl0l x hx
       · obtain ⟨y,hy,rfl⟩:=List.mem_map.1 hx
         unfold pick at hy
         obtain ⟨i,hi,rfl⟩:=List.mem_map.1 hy
         obtain ⟨x,hx,hxl⟩:=pl i hi
         rw [List.getD_eq_getElem?_getD,hx]
         unfold Lit at hxl ⊢
         simp only [Option.getD_some]; omega
     · rw [← e1]; simp [pick]; omega
     · rintro _ τ ⟨sl2,rfl,hs2,hO2,hn2,hlen2⟩
       have B2:Blk τ r 102 [sl.v,.int .i64 (-1),sc.v]:=hs2 _ _ L.blk
       have hrn:ω r ≠ none:=L.blk.known
       have hne2:∀ p,sl2.a=some p→p.block ≠ r:=by
         rintro p hp rfl
         exact hrn (hn2 p hp)
       have hst:Step (·=r) τ (τ.setCell (ptr r) sl2.v):=setCell_step (a:=ptr r)
       refine ⟨τ,PH.sub.refl _,_,_,_,rfl,_,rfl,⟨_,e0 ▸ B2.get (i:=0) rfl⟩,(by have:=B2.froz 0; rw [e0] at this; exact this),r,sl2,sc,rfl,?_⟩
       refine ⟨sub_step_new (L.sub.trans hs2) hst (by rintro b rfl; exact hr0),hr0,by have:=B2.set 0 sl2.v; exact this,hO2.keep hst fun p hp => hne2 p hp,?_,fun p hp => ⟨?_,hne2 p hp⟩,L.nc,fun p q hp hq e => ?_⟩
       · exact (L.oc.keep (M:=fun _ => False) hs2.step (fun _ _ h => h)).keep hst fun p hp => (L.nc p hp).2
       · cases hq:σ p.block with
         | none => rfl
         | some o => have:=L.sub _ _ hq; rw [hn2 p hp] at this; cases this
       · have:=hn2 p hp
         rw [e] at this
         exact L.oc.known hq this
 refine br_iff.2 ⟨fun hne => ?_,fun heq => ?_⟩
 · have hf0:f ≠ 0:=by simpa using hne
   refine ⟨_,rfl,_,e0 ▸ L0.blk.get (i:=0) rfl,_,_,_,rfl,fun b1 hb1 => ?_⟩
   refine L0.pushL f (by simp) hb1 fun a' c' τ q1 q2 L1 => ?_
   refine ⟨_,_,_,rfl,_,rfl,q1,q2,_,rfl,_,L1.blk.get (i:=2) rfl,_,_,_,rfl,fun b2 hb2 => ?_⟩
   rw [wf]
   refine L1.pushC (-f) (by simp) hb2 fun a'' c'' τ' q3 q4 L2 => ?_
   refine ⟨_,_,_,rfl,_,rfl,q3,q4,?_⟩
   refine rest _ _ _ _ _ L2 (by simp) (by simp) ?_ (by rw [if_neg hf0]; rfl) (by rw [if_neg hf0]; rfl)
   intro x hx; simp at hx; subst hx; exact hf
 · have hf0:f=0:=by simpa using heq
   exact rest _ _ _ _ _ L0 (by simp) (by simp) (by simp) (by rw [if_pos hf0]) (by rw [if_pos hf0])
end Go.Proofs.Ythfnjogadngfiaa
namespace Go.Sv
abbrev Dif:=Int × Int × Int
def dX (d:Dif):Nat:=d.1.toNat
def dY (d:Dif):Nat:=d.2.1.toNat
def DOk (n:Nat) (d:Dif):Prop:=0≤d.1∧d.1 < n∧0≤d.2.1∧d.2.1 < n∧-1048577≤d.2.2∧d.2.2≤1048577
theorem DOk.x {n:Nat} {d:Dif} (h:DOk n d):dX d < n∧(dX d:Int)=d.1:=by unfold dX; obtain ⟨h1,h2,_⟩:=h; omega
theorem DOk.y {n:Nat} {d:Dif} (h:DOk n d):dY d < n∧(dY d:Int)=d.2.1:=by unfold dY; obtain ⟨_,_,h1,h2,_⟩:=h; omega
def parW (l:List Dif) (by':Nat→Int):Nat→List Int→Nat→Prop
 | u,[],w => u=w
 | u,j :: js,w => by' u=j∧0≤j∧∃ d,l[j.toNat]?=some d∧dX d=u∧parW l by' (dY d) js w
def sumJ (l:List Dif) (js:List Int):Int:=(js.map fun j => (l.getD j.toNat (0,0,0)).2.2).sum
def tgt (l:List Dif) (v:Nat) (js:List Int):Prop:=∃ j ∈ js,dY (l.getD j.toNat (0,0,0))=v
structure BF (n:Nat) (l:List Dif) (x:Nat→Int) (by':Nat→Int) (tm:Nat→Nat) (r i:Nat):Prop where
 root:∀ v,v < n→(by' v=-1∧tm v=0) ∨ ∃ d,0≤by' v∧l[(by' v).toNat]?=some d∧dX d=v∧x (dY d) + d.2.2≤x v∧1≤tm v∧tm v≤tm (dY d) + 1
 cyc:∀ u js,js ≠ []→parW l by' u js u→sumJ l js < 0
 vio:∀ j d,l[j]?=some d→x (dY d) + d.2.2 < x (dX d)→r≤tm (dY d)∧(j < i→r + 1≤tm (dY d))
 tmr:∀ v,v < n→tm v≤r + 1
 bnd:∀ v,v < n→-(1048577 * ((r:Int) * l.length + i))≤x v∧x v≤0
def upd (f:Nat→Int) (v:Nat) (y:Int):Nat→Int:=fun u => if u=v then y else f u
def updN (f:Nat→Nat) (v:Nat) (y:Nat):Nat→Nat:=fun u => if u=v then y else f u
theorem BF.start {n:Nat} {l:List Dif}:BF n l (fun _ => 0) (fun _ => -1) (fun _ => 0) 0 0:=by
 refine ⟨fun v _ => .inl ⟨rfl,rfl⟩,?_,fun _ _ _ _ => ⟨Nat.le_refl _,fun h => by omega⟩,fun _ _ => Nat.zero_le _,fun v _ => ⟨by simp,Int.le_refl _⟩⟩
 intro u js hne h
 cases js with
 | nil => exact absurd rfl hne
 | cons j t => have h1:(-1:Int)=j:=h.1; have h2:=h.2.1; omega
theorem walk_pot {n:Nat} {l:List Dif} {x:Nat→Int} {by':Nat→Int} {v:Nat} (he:∀ u d,u < n→0≤by' u→l[(by' u).toNat]?=some d→dX d=u→x (dY d) + d.2.2≤x u∧(dY d=v→x (dY d) + d.2.2 < x u)) (hl:∀ (j:Nat) d,l[j]?=some d→DOk n d) :
   ∀ (js:List Int) (u w:Nat),u < n→parW l by' u js w→sumJ l js≤x u - x w∧(tgt l v js→sumJ l js < x u - x w)
 | [],u,w,_,h => by
   have h:u=w:=h
   subst h
   refine ⟨by simp [sumJ],?_⟩
   rintro ⟨j,hj,_⟩; simp at hj
 | j :: js,u,w,hu,h => by
   obtain ⟨h1,h2,d,h3,h4,h5⟩:=h
   subst h1
   have hd:=hl _ _ h3
   obtain ⟨p1,p2⟩:=he u d hu h2 h3 h4
   obtain ⟨q1,q2⟩:=walk_pot he hl js (dY d) w hd.y.1 h5
   have hs:sumJ l (by' u :: js)=d.2.2 + sumJ l js:=by
     unfold sumJ
     rw [List.map_cons,List.sum_cons,List.getD_eq_getElem?_getD,h3]; rfl
   rw [hs]
   refine ⟨by omega,?_⟩
   rintro ⟨j',hj',ht⟩
   rcases List.mem_cons.1 hj' with e | hj'
   · rw [e,List.getD_eq_getElem?_getD,h3] at ht
     have:=p2 ht; omega
   · have:=q2 ⟨j',hj',ht⟩; omega
theorem parW_congr {l:List Dif} {by' by2:Nat→Int} {v:Nat} (h:∀ u,u ≠ v→by2 u=by' u):∀ (js:List Int) (u w:Nat),u ≠ v→¬ tgt l v js→parW l by2 u js w→parW l by' u js w
 | [],_,_,_,_,hp => hp
 | j :: js,u,w,hu,ht,hp => by
   obtain ⟨h1,h2,d,h3,h4,h5⟩:=hp
   refine ⟨by rw [← h u hu]; exact h1,h2,d,h3,h4,?_⟩
   have hY:dY d ≠ v:=by
     intro e
     refine ht ⟨j,List.mem_cons_self,?_⟩
     rw [List.getD_eq_getElem?_getD,h3]; exact e
   refine parW_congr h js (dY d) w hY (fun ⟨j',h1,h2⟩ => ht ⟨j',List.mem_cons_of_mem _ h1,h2⟩) h5
theorem parW_last {l:List Dif} {by':Nat→Int}:∀ (js:List Int) (u w:Nat),js ≠ []→parW l by' u js w→tgt l w js
 | [],_,_,hne,_ => absurd rfl hne
 | j :: js,u,w,_,h => by
   obtain ⟨h1,h2,d,h3,h4,h5⟩:=h
   cases js with
   | nil =>
     refine ⟨j,List.mem_cons_self,?_⟩
     rw [List.getD_eq_getElem?_getD,h3]
     exact h5
   | cons j2 t =>
     obtain ⟨j',q1,q2⟩:=parW_last (j2 :: t) (dY d) w (by simp) h5
     exact ⟨j',List.mem_cons_of_mem _ q1,q2⟩
theorem BF.lower {n:Nat} {l:List Dif} {x by':Nat→Int} {tm:Nat→Nat} {r i:Nat} (hl:∀ (j:Nat) d,l[j]?=some d→DOk n d) (h:BF n l x by' tm r i) {d:Dif} (hd:l[i]?=some d) (hlt:x (dY d) + d.2.2 < x (dX d)) :
   BF n l (upd x (dX d) (x (dY d) + d.2.2)) (upd by' (dX d) i) (updN tm (dX d) (r + 1)) r (i + 1):=by
 have hdo:=hl _ _ hd
 have hY:=hdo.y.1
 have hX:=hdo.x.1
 have hv:=h.vio i d hd hlt
 have hxle:∀ u,upd x (dX d) (x (dY d) + d.2.2) u≤x u:=by
   intro u; unfold upd; split
   · rename_i e; subst e; omega
   · exact Int.le_refl _
 have htle:∀ u,u < n→tm u≤updN tm (dX d) (r + 1) u:=by
   intro u hu; unfold updN; split
   · exact h.tmr u hu
   · exact Nat.le_refl _
 have edge:∀ u d',u < n→0≤upd by' (dX d) i u→l[(upd by' (dX d) i u).toNat]?=some d'→dX d'=u→upd x (dX d) (x (dY d) + d.2.2) (dY d') + d'.2.2≤upd x (dX d) (x (dY d) + d.2.2) u∧(dY d'=dX d→upd x (dX d) (x (dY d) + d.2.2) (dY d') + d'.2.2 < upd x (dX d) (x (dY d) + d.2.2) u):=by
   intro u d' hu h0 h1 h2
   by_cases e:u=dX d
   · subst e
     have h1:l[i]?=some d':=by unfold upd at h1; rw [if_pos rfl] at h1; simpa using h1
     rw [hd] at h1
     cases h1
     have e1:upd x (dX d) (x (dY d) + d.2.2) (dX d)=x (dY d) + d.2.2:=if_pos rfl
     rw [e1]
     have:=hxle (dY d)
     refine ⟨by omega,fun e2 => ?_⟩
     have e3:upd x (dX d) (x (dY d) + d.2.2) (dY d)=x (dY d) + d.2.2:=if_pos e2
     have e4:x (dY d)=x (dX d):=by rw [e2]
     rw [e3]; omega
   · have h1:l[(by' u).toNat]?=some d':=by unfold upd at h1; rw [if_neg e] at h1; exact h1
     have h0:0≤by' u:=by unfold upd at h0; rw [if_neg e] at h0; exact h0
     have e1:upd x (dX d) (x (dY d) + d.2.2) u=x u:=if_neg e
     rw [e1]
     rcases h.root u hu with ⟨q1,_⟩ | ⟨d2,q1,q2,q3,q4,q5,q6⟩
     · omega
     · rw [h1] at q2
       cases q2
       have:=hxle (dY d')
       refine ⟨by omega,fun e2 => ?_⟩
       rw [e2]
       rw [e2] at q4
       have e3:upd x (dX d) (x (dY d) + d.2.2) (dX d)=x (dY d) + d.2.2:=if_pos rfl
       rw [e3]; omega
 refine ⟨fun v hv' => ?_,fun u js hne hp => ?_,fun j d' hj hviol => ?_,fun v hv' => ?_,fun v hv' => ?_⟩
 · by_cases e:v=dX d
   · subst e
     right
     have e1:upd by' (dX d) i (dX d)=i:=if_pos rfl
     refine ⟨d,by rw [e1]; omega,by rw [e1,Int.toNat_natCast]; exact hd,rfl,(edge (dX d) d hX (by rw [e1]; omega) (by rw [e1,Int.toNat_natCast]; exact hd) rfl).1,?_,?_⟩
     · show 1≤(if dX d=dX d then r + 1 else _); rw [if_pos rfl]; omega
     · have:=htle (dY d) hY
       show (if dX d=dX d then r + 1 else _)≤_
       rw [if_pos rfl]; have:=hv.1; omega
   · have e1:upd by' (dX d) i v=by' v:=if_neg e
     have e2:updN tm (dX d) (r + 1) v=tm v:=if_neg e
     rcases h.root v hv' with ⟨q1,q2⟩ | ⟨d2,q1,q2,q3,q4,q5,q6⟩
     · exact .inl ⟨by rw [e1]; exact q1,by rw [e2]; exact q2⟩
     · right
       refine ⟨d2,by rw [e1]; exact q1,by rw [e1]; exact q2,q3,(edge v d2 hv' (by rw [e1]; exact q1) (by rw [e1]; exact q2) q3).1,by rw [e2]; exact q5,?_⟩
       rw [e2]
       have:=htle (dY d2) (hl _ _ q2).y.1
       omega
 · by_cases ht:tgt l (dX d) js
   · have hu:u < n:=by
       cases js with
       | nil => exact absurd rfl hne
       | cons j t => obtain ⟨_,_,d2,q1,q2,_⟩:=hp; rw [← q2]; exact (hl _ _ q1).x.1
     have:=(walk_pot edge hl js u u hu hp).2 ht
     omega
   · have hu:u ≠ dX d:=by
       rintro rfl
       exact ht (parW_last js _ _ hne hp)
     exact h.cyc u js hne (parW_congr (fun w hw => if_neg hw) js u u hu ht hp)
 · have hj':=hl _ _ hj
   have e2:x (dY d') + d'.2.2 < x (dX d') ∨ dY d'=dX d:=by
     by_cases e:dY d'=dX d
     · exact .inr e
     · left
       have:upd x (dX d) (x (dY d) + d.2.2) (dY d')=x (dY d'):=if_neg e
       rw [this] at hviol
       have:=hxle (dX d')
       omega
   rcases e2 with e2 | e2
   · obtain ⟨v1,v2⟩:=h.vio j d' hj e2
     have:=htle (dY d') hj'.y.1
     refine ⟨by omega,fun hji => ?_⟩
     by_cases e:j=i
     · subst e
       rw [hd] at hj; cases hj
       by_cases e3:dY d=dX d
       · show r + 1≤(if dY d=dX d then r + 1 else _); rw [if_pos e3]; omega
       · exfalso
         have e4:upd x (dX d) (x (dY d) + d.2.2) (dX d)=x (dY d) + d.2.2:=if_pos rfl
         have e5:upd x (dX d) (x (dY d) + d.2.2) (dY d)=x (dY d):=if_neg e3
         rw [e4,e5] at hviol; omega
     · have:=v2 (by omega); omega
   · have:updN tm (dX d) (r + 1) (dY d')=r + 1:=if_pos e2
     rw [this]; exact ⟨by omega,fun _ => Nat.le_refl _⟩
 · unfold updN; split
   · exact Nat.le_refl _
   · exact h.tmr v hv'
 · have hb:=h.bnd v hv'
   have hbY:=h.bnd (dY d) hY
   have hbX:=h.bnd (dX d) hX
   obtain ⟨_,_,_,_,c1,c2⟩:=hdo
   have e:1048577 * ((r:Int) * l.length + ((i + 1:Nat):Int))=1048577 * ((r:Int) * l.length + i) + 1048577:=by
     rw [show (((i + 1:Nat):Int))=(i:Int) + 1 from by omega,← Int.add_assoc,Int.mul_add,Int.mul_one]
   rw [e]
   unfold upd
   split
   · generalize 1048577 * ((r:Int) * l.length + i)=K at *
     omega
   · generalize 1048577 * ((r:Int) * l.length + i)=K at *
     omega
theorem BF.skip {n:Nat} {l:List Dif} {x by':Nat→Int} {tm:Nat→Nat} {r i:Nat} (h:BF n l x by' tm r i) {d:Dif} (hd:l[i]?=some d) (hge:¬ x (dY d) + d.2.2 < x (dX d)):BF n l x by' tm r (i + 1):=by
 refine ⟨h.root,h.cyc,fun j d' hj hviol => ?_,h.tmr,fun v hv => ?_⟩
 · obtain ⟨v1,v2⟩:=h.vio j d' hj hviol
   refine ⟨v1,fun hji => ?_⟩
   by_cases e:j=i
   · subst e; rw [hd] at hj; cases hj; exact absurd hviol hge
   · exact v2 (by omega)
 · have hb:=h.bnd v hv
   have e:1048577 * ((r:Int) * l.length + ((i + 1:Nat):Int))=1048577 * ((r:Int) * l.length + i) + 1048577:=by
     rw [show (((i + 1:Nat):Int))=(i:Int) + 1 from by omega,← Int.add_assoc,Int.mul_add,Int.mul_one]
   rw [e]
   generalize 1048577 * ((r:Int) * l.length + i)=K at *
   omega
theorem BF.round {n:Nat} {l:List Dif} {x by':Nat→Int} {tm:Nat→Nat} {r:Nat} (h:BF n l x by' tm r l.length):BF n l x by' tm (r + 1) 0:=by
 refine ⟨h.root,h.cyc,fun j d' hj hviol => ⟨(h.vio j d' hj hviol).2 (List.getElem?_eq_some_iff.1 hj).1,fun h => by omega⟩,fun v hv => Nat.le_succ_of_le (h.tmr v hv),fun v hv => ?_⟩
 have hb:=h.bnd v hv
 have e:((r + 1:Nat):Int) * l.length + ((0:Nat):Int)=(r:Int) * l.length + l.length:=by
   rw [show ((r + 1:Nat):Int)=(r:Int) + 1 from by omega,Int.add_mul,Int.one_mul]; simp
 rw [e]; exact hb
theorem BF.back {n:Nat} {l:List Dif} (hl:∀ (j:Nat) d,l[j]?=some d→DOk n d) {x by':Nat→Int} {tm:Nat→Nat} {r i:Nat} (h:BF n l x by' tm r i):∀ (k v:Nat),v < n→k≤tm v→∃ p:Nat→Nat,p 0=v∧(∀ j,j < k→p j < n∧∃ d,0≤by' (p j)∧l[(by' (p j)).toNat]?=some d∧dX d=p j∧p (j + 1)=dY d)
 | 0,v,_,_ => ⟨fun _ => v,rfl,fun j hj => by omega⟩
 | k + 1,v,hv,hk => by
   rcases h.root v hv with ⟨_,q2⟩ | ⟨d,q1,q2,q3,q4,q5,q6⟩
   · omega
   · obtain ⟨p,p0,hp⟩:=BF.back hl h k (dY d) (hl _ _ q2).y.1 (by omega)
     refine ⟨fun j => match j with | 0 => v | j + 1 => p j,rfl,fun j hj => ?_⟩
     cases j with
     | zero => exact ⟨hv,d,q1,q2,q3,p0⟩
     | succ j => exact hp j (by omega)
theorem pigeon:∀ (n:Nat) (p:Nat→Nat),(∀ j,j≤n→p j < n)→∃ i j,i < j∧j≤n∧p i=p j:=by
 intro n p hp
 by_cases h:((List.range (n + 1)).map p).Nodup
 · have:=h.length_le_of_subset (l₂:=List.range n) fun v hv => by
     obtain ⟨j,hj,rfl⟩:=List.mem_map.1 hv
     rw [List.mem_range] at hj ⊢
     exact hp j (by omega)
   simp at this
   omega
 · rw [List.nodup_iff_pairwise_ne,List.pairwise_map,List.pairwise_iff_getElem] at h
   apply Classical.byContradiction
   intro hn
   apply h
   intro i j hi hj hij
   simp only [List.length_range] at hi hj
   simp only [List.getElem_range]
   intro e
   exact hn ⟨i,j,hij,by omega,e⟩
theorem BF.ring {n:Nat} {l:List Dif} (hl:∀ (j:Nat) d,l[j]?=some d→DOk n d) {x by':Nat→Int} {tm:Nat→Nat} {r i:Nat} (h:BF n l x by' tm r i) {v:Nat} (hv:v < n) (ht:n + 1≤tm v) :
   ∃ p:Nat→Nat,p 0=v∧(∀ j,p j < n∧∃ d,0≤by' (p j)∧l[(by' (p j)).toNat]?=some d∧dX d=p j∧p (j + 1)=dY d)∧∃ m,1≤m∧m≤n∧p (n + m)=p n:=by
 obtain ⟨p,p0,hp⟩:=BF.back hl h (n + 1) v hv ht
 obtain ⟨a,b,hab,hbn,e⟩:=pigeon n p fun j hj => (hp j (by omega)).1
 have ext:∀ k,∃ q:Nat→Nat,q 0=v∧(∀ j,j≤n→q j=p j)∧(∀ j,j < k→q j < n∧∃ d,0≤by' (q j)∧l[(by' (q j)).toNat]?=some d∧dX d=q j∧q (j + 1)=dY d)∧∀ j,a≤j→j + (b - a)≤k→q (j + (b - a))=q j:=by
   let f:Nat→Nat:=fun j => if j≤n then p j else p (a + (j - a) % (b - a))
   have hm:0 < b - a:=by omega
   have fp:∀ j,a≤j→f j=p (a + (j - a) % (b - a)):=by
     intro j hj
     show (if j≤n then p j else _)=_
     split
     · rename_i hjn
       have key:∀ j,a≤j→j≤n→p j=p (a + (j - a) % (b - a)):=by
         intro j
         induction j using Nat.strongRecOn with
         | _ j ih =>
           intro hj hjn
           by_cases hjb:j < b
           · rw [Nat.mod_eq_of_lt (by omega)]; congr 1; omega
           · have h1:=ih (j - (b - a)) (by omega) (by omega) (by omega)
             have e1:(j - a) % (b - a)=(j - (b - a) - a) % (b - a):=by
               rw [show j - a=(j - (b - a) - a) + (b - a) from by omega,Nat.add_mod_right]
             rw [e1,← h1]
             have step:∀ t,b + t≤n→p (b + t)=p (a + t):=by
               intro t
               induction t with
               | zero => intro _; exact e.symm
               | succ t iht =>
                 intro ht
                 have h2:=iht (by omega)
                 obtain ⟨_,d1,_,w2,_,w4⟩:=hp (b + t) (by omega)
                 obtain ⟨_,d2,_,z2,_,z4⟩:=hp (a + t) (by omega)
                 rw [h2] at w2
                 rw [w2] at z2
                 cases z2
                 rw [← Nat.add_assoc,← Nat.add_assoc,w4,z4]
             have h3:=step (j - b) (by omega)
             rw [show b + (j - b)=j from by omega] at h3
             rw [h3]; congr 1; omega
       exact key j hj hjn
     · rfl
   intro k
   refine ⟨f,?_,fun j hj => if_pos hj,fun j _ => ?_,fun j hj _ => ?_⟩
   · show (if 0≤n then p 0 else _)=v; rw [if_pos (Nat.zero_le _)]; exact p0
   · by_cases hjn:j < n
     · have e1:f j=p j:=if_pos (by omega)
       have e2:f (j + 1)=p (j + 1):=if_pos (by omega)
       rw [e1,e2]
       exact hp j (by omega)
     · have hj:a≤j:=by omega
       have hlt:=Nat.mod_lt (j - a) hm
       rw [fp j hj,fp (j + 1) (by omega)]
       obtain ⟨w1,d,w2,w3,w4,w5⟩:=hp (a + (j - a) % (b - a)) (by omega)
       refine ⟨w1,d,w2,w3,w4,?_⟩
       rw [← w5]
       by_cases hlast:(j - a) % (b - a) + 1=b - a
       · have e1:(j + 1 - a) % (b - a)=0:=by
           rw [show j + 1 - a=(j - a) + 1 from by omega,Nat.add_mod]
           by_cases h1:b - a=1
           · rw [h1]; exact Nat.mod_one _
           · rw [Nat.mod_eq_of_lt (show 1 < b - a from by omega),hlast,Nat.mod_self]
         rw [e1,Nat.add_zero,e]
         congr 1; omega
       · have e1:(j + 1 - a) % (b - a)=(j - a) % (b - a) + 1:=by
           rw [show j + 1 - a=(j - a) + 1 from by omega,Nat.add_mod]
           have h1:1 < b - a:=by omega
           rw [Nat.mod_eq_of_lt h1,Nat.mod_eq_of_lt (by omega)]
         rw [e1]; congr 1
   · rw [fp (j + (b - a)) (by omega),fp j hj,show j + (b - a) - a=(j - a) + (b - a) from by omega,Nat.add_mod_right]
 have mk:∃ q:Nat→Nat,q 0=v∧(∀ j,q j < n∧∃ d,0≤by' (q j)∧l[(by' (q j)).toNat]?=some d∧dX d=q j∧q (j + 1)=dY d)∧q (n + (b - a))=q n:=by
   let g:Nat→Nat:=fun j => Nat.rec v (fun _ u => match l[(by' u).toNat]? with | some d => dY d | none => 0) j
   have gq:∀ k (q:Nat→Nat),q 0=v→(∀ j,j < k→q j < n∧∃ d,0≤by' (q j)∧l[(by' (q j)).toNat]?=some d∧dX d=q j∧q (j + 1)=dY d)→∀ j,j≤k→g j=q j:=by
     intro k q q0 hq j
     induction j with
     | zero => intro _; exact q0.symm
     | succ j ih =>
       intro hj
       have h1:=ih (by omega)
       obtain ⟨_,d,_,w3,_,w5⟩:=hq j (by omega)
       show (match l[(by' (g j)).toNat]? with | some d => dY d | none => 0)=_
       rw [h1,w3,w5]
   refine ⟨g,rfl,fun j => ?_,?_⟩
   · obtain ⟨q,q0,_,hq,_⟩:=ext (j + 1)
     have e1:=gq (j + 1) q q0 hq j (by omega)
     have e2:=gq (j + 1) q q0 hq (j + 1) (by omega)
     rw [e1,e2]
     exact hq j (by omega)
   · obtain ⟨q,q0,_,hq,hper⟩:=ext (n + (b - a))
     rw [gq _ q q0 hq _ (Nat.le_refl _),gq _ q q0 hq n (by omega)]
     exact hper n (by omega) (by omega)
 obtain ⟨q,q0,hq,hm⟩:=mk
 exact ⟨q,q0,hq,b - a,by omega,by omega,hm⟩
def stepsJ (by':Nat→Int) (p:Nat→Nat) (a t:Nat):List Int:=(List.range t).map fun i => by' (p (a + i))
theorem stepsJ_walk {n:Nat} {l:List Dif} {by':Nat→Int} {p:Nat→Nat} (hp:∀ j,p j < n∧∃ d,0≤by' (p j)∧l[(by' (p j)).toNat]?=some d∧dX d=p j∧p (j + 1)=dY d):∀ (t a:Nat),parW l by' (p a) (stepsJ by' p a t) (p (a + t))
 | 0,a => rfl
 | t + 1,a => by
   obtain ⟨_,d,w2,w3,w4,w5⟩:=hp a
   have e:stepsJ by' p a (t + 1)=by' (p a) :: stepsJ by' p (a + 1) t:=by
     unfold stepsJ
     rw [List.range_succ_eq_map,List.map_cons,List.map_map]
     congr 1
     apply List.map_congr_left
     intro i _
     show by' (p (a + (i + 1)))=_
     congr 2; omega
   rw [e]
   refine ⟨rfl,w2,d,w3,w4,?_⟩
   have:=stepsJ_walk hp t (a + 1)
   rw [w5] at this
   rw [show a + (t + 1)=a + 1 + t from by omega]
   exact this
theorem parW_chain {n:Nat} {l:List Dif} (hl:∀ (j:Nat) d,l[j]?=some d→DOk n d) {by':Nat→Int}:∀ (js:List Int) (u w:Nat),parW l by' u js w→chain (u:Int) (w:Int) (js.map fun j => l.getD j.toNat (0,0,0))∧∀ j ∈ js,0≤j∧j < l.length
 | [],u,w,h => ⟨by have h:u=w:=h; rw [h]; rfl,by simp⟩
 | j :: js,u,w,h => by
   obtain ⟨h1,h2,d,h3,h4,h5⟩:=h
   have hd:=hl _ _ h3
   obtain ⟨q1,q2⟩:=parW_chain hl js (dY d) w h5
   have hg:l.getD j.toNat (0,0,0)=d:=by rw [List.getD_eq_getElem?_getD,h3]; rfl
   refine ⟨?_,fun j' hj' => ?_⟩
   · rw [List.map_cons,hg]
     refine ⟨by rw [← h4]; exact hd.x.2.symm,?_⟩
     rw [← hd.y.2]; exact q1
   · rcases List.mem_cons.1 hj' with rfl | hj'
     · have:=(List.getElem?_eq_some_iff.1 h3).1
       exact ⟨h2,by omega⟩
     · exact q2 j' hj'
theorem sumJ_sumC (l:List Dif) (js:List Int):sumC (js.map fun j => l.getD j.toNat (0,0,0))=sumJ l js:=by
 unfold sumC sumJ; rw [List.map_map]; rfl
end Go.Sv
namespace Go.Proofs.Ythfnjogadngfiaa
open Go.Sl Go.Sv
def tab {α:Type} (n:Nat) (f:Nat→α):List α:=(List.range n).map f
theorem tab_len {α:Type} {n:Nat} {f:Nat→α}:(tab n f).length=n:=by unfold tab; simp
theorem tab_get {α:Type} {n:Nat} {f:Nat→α} {v:Nat} (h:v < n):(tab n f)[v]?=some (f v):=by unfold tab; simp [h]
theorem tab_set {n:Nat} {f:Nat→Int} {v:Nat} {y:Int}:(tab n f).set v y=tab n (upd f v y):=by
 unfold tab
 apply List.ext_getElem?
 intro i
 rw [List.getElem?_set]
 by_cases h:v=i
 · subst h
   by_cases h2:v < n
   · simp [h2,upd]
   · simp [h2]
 · simp only [if_neg h,List.getElem?_map]
   by_cases h2:i < n
   · simp [h2,upd,Ne.symm h]
   · simp [h2]
structure BM (υ:PH) (bl bx bb X B:Nat) (la:Option Addr) (ln lc:Nat) (l:List Dif) (n:Nat) (xs bs:List Int):Prop where
 atoms:Atoms υ la ln l
 fl:l ≠ []→∀ p,la=some p→p.block ≠ X∧p.block ≠ B
 hl:Blk υ bl 26 [.slice la ln lc]
 hx:Blk υ bx 33 [.slice (some (ptr X)) n n]
 hb:Blk υ bb 33 [.slice (some (ptr B)) n n]
 hX:Blk υ X 3 (ints xs)
 hB:Blk υ B 3 (ints bs)
 ne:bl ≠ X∧bl ≠ B∧bx ≠ X∧bx ≠ B∧bb ≠ X∧bb ≠ B∧X ≠ B
theorem Atoms.keep {M:Nat→Prop} {σ τ:PH} (h:Step M σ τ) {a:Option Addr} {n:Nat} {l:List Dif} (hm:∀ p,a=some p→¬ M p.block) (hr:Atoms σ a n l):Atoms τ a n l:=by
 refine ⟨hr.1,fun i d hd => ?_⟩
 obtain ⟨p,h1,h2,h3,h4⟩:=hr.2 i d hd
 have key:∀ (q:Addr) (v:Value),q.block=p.block→σ.cell? q=some v→τ.cell? q=some v:=by
   intro q v hq hc
   unfold PH.cell? at hc ⊢
   cases hσ:σ q.block with
   | none => rw [hσ] at hc; cases hc
   | some o =>
     rw [h.same _ _ hσ (by rw [hq]; exact hm p h1)]
     rw [hσ] at hc; exact hc
 have hb:∀ (q:Addr) (i:Nat),(q.add i).block=q.block:=fun q i => add_block q i
 exact ⟨p,h1,key _ _ (hb _ _) h2,key _ _ (by rw [hb,hb]) h3,key _ _ (by rw [hb,hb]) h4⟩
theorem BM.keep {M:Nat→Prop} {υ τ:PH} (h:Step M υ τ) {bl bx bb X B:Nat} {la:Option Addr} {ln lc:Nat} {l:List Dif} {n:Nat} {xs bs:List Int} (m:BM υ bl bx bb X B la ln lc l n xs bs) (hm:∀ b,υ b ≠ none→¬ M b):BM τ bl bx bb X B la ln lc l n xs bs:=by
 have hsub:υ.sub τ:=fun b o hb => h.same b o hb (hm b (by rw [hb]; simp))
 exact ⟨m.atoms.sub hsub,m.fl,hsub _ _ m.hl,hsub _ _ m.hx,hsub _ _ m.hb,hsub _ _ m.hX,hsub _ _ m.hB,m.ne⟩
theorem ints_len (l:List Int):(ints l).length=l.length:=by unfold ints; simp
theorem c82 {υ:PH} {bl bx bb X B:Nat} {la:Option Addr} {ln lc:Nat} {l:List Dif} {n:Nat} {x by':Nat→Int} (m:BM υ bl bx bb X B la ln lc l n (tab n x) (tab n by')) {i:Nat} {d:Dif} (hd:l[i]?=some d) (hdo:DOk n d)
   (hbx:∀ v,v < n→-1000000000000000≤x v∧x v≤0)
   {Q:Value→PH→Prop} (hQ:∀ v τ x2 by2,BM τ bl bx bb X B la ln lc l n (tab n x2) (tab n by2)→Step (fun b => b=X ∨ b=B) υ τ →
     ((v=.bool false∧¬ x (dY d) + d.2.2 < x (dX d)∧x2=x∧by2=by') ∨ (v=.bool true∧x (dY d) + d.2.2 < x (dX d)∧x2=upd x (dX d) (x (dY d) + d.2.2)∧by2=upd by' (dX d) i))→Q v τ) :
   C 82 #[.int .i64 i,.pointer (some (ptr bl)),.pointer (some (ptr bx)),.pointer (some (ptr bb))] Q υ:=by
 refine go (E82_0 _ _ _ _ _ _ _) ?_
 unfold S82_0
 have e0:∀ b:Nat,(Addr.mk b 0 none).add 0=⟨b,0,none⟩:=fun b => rfl
 obtain ⟨p,hp,a0,a1,a2⟩:=m.atoms.2 i d hd
 have hil:i < l.length:=(List.getElem?_eq_some_iff.1 hd).1
 have hln:=m.atoms.1
 refine ⟨_,e0 bl ▸ m.hl.get (i:=0) rfl,_,_,_,rfl,p,hp,by omega,by omega,_,a0,_,a1,_,a2,_,_,_,rfl,fun b hbn => ?_⟩
 simp only [newSet,newSet0,newCell,newCell0,newFroz,newFroz0,List.setIfInBounds_toArray,List.set_cons_zero,List.set_cons_succ,List.getElem?_toArray,List.getElem?_cons_zero,List.getElem?_cons_succ,Option.some.injEq,exists_eq',true_and,Value.int.injEq,exists_eq_left']
 have sb:=PH.sub_set (o:=.cells #[.int .i64 d.1,.int .i64 d.2.1,.int .i64 d.2.2] 50) hbn
 have st0:Step (fun b => b=X ∨ b=B) υ (υ.set b (.cells #[.int .i64 d.1,.int .i64 d.2.1,.int .i64 d.2.2] 50)):=sb.step
 have m1:=m.keep (M:=fun _ => False) (PH.sub.step sb) (fun _ _ h => h)
 have hbX:b ≠ X:=by rintro rfl; rw [m.hX] at hbn; cases hbn
 have hbB:b ≠ B:=by rintro rfl; rw [m.hB] at hbn; cases hbn
 generalize υ.set b (.cells #[.int .i64 d.1,.int .i64 d.2.1,.int .i64 d.2.2] 50)=ω at *
 obtain ⟨yl,ye⟩:=hdo.y
 obtain ⟨xl,xe⟩:=hdo.x
 have hYt:d.2.1.toNat=dY d:=rfl
 have hXt:d.1.toNat=dX d:=rfl
 have cY:=m1.hX.get (i:=dY d) (v:=.int .i64 (x (dY d))) (by simp [ints,tab_get yl])
 have cX:=m1.hX.get (i:=dX d) (v:=.int .i64 (x (dX d))) (by simp [ints,tab_get xl])
 have b1:=hbx _ yl
 have b2:=hbx _ xl
 obtain ⟨g1,g2,g3,g4,g5,g6⟩:=hdo
 have w:IntKind.wrap .i64 (x (dY d) + d.2.2)=x (dY d) + d.2.2:=w64 (by omega) (by omega)
 refine ⟨_,e0 bx ▸ m1.hx.get (i:=0) rfl,_,_,_,rfl,_,rfl,g3,g4,_,by rw [hYt,Nat.mul_one]; exact cY,_,rfl,_,e0 bx ▸ m1.hx.get (i:=0) rfl,_,_,_,rfl,_,rfl,g1,g2,_,by rw [hXt,Nat.mul_one]; exact cX,_,rfl,?_⟩
 rw [w]
 refine br_dec.2 ⟨fun hge => hQ _ _ x by' m1 st0 (.inl ⟨rfl,by omega,rfl,rfl⟩),fun hlt => ?_⟩
 have hX2:=m1.hX.set (dX d) (.int .i64 (x (dY d) + d.2.2))
 have st1:Step (·=X) ω (ω.setCell ((ptr X).add (dX d)) (.int .i64 (x (dY d) + d.2.2))):=setCell_step.weaken fun b hb => hb.trans (add_block _ _)
 have hB2:=m1.hB.keep st1 m.ne.2.2.2.2.2.2.symm
 have st2:Step (·=B) (ω.setCell ((ptr X).add (dX d)) (.int .i64 (x (dY d) + d.2.2))) ((ω.setCell ((ptr X).add (dX d)) (.int .i64 (x (dY d) + d.2.2))).setCell ((ptr B).add (dX d)) (.int .i64 i)):=setCell_step.weaken fun b hb => hb.trans (add_block _ _)
 have st12:=(st1.weaken (N:=fun b => b=X ∨ b=B) fun b h => .inl h).trans (st2.weaken (N:=fun b => b=X ∨ b=B) fun b h => .inr h)
 refine ⟨_,e0 bx ▸ m1.hx.get (i:=0) rfl,_,_,_,rfl,_,e0 bb ▸ m1.hb.get (i:=0) rfl,_,_,_,rfl,_,e0 bx ▸ m1.hx.get (i:=0) rfl,_,_,_,rfl,_,rfl,g3,g4,_,by rw [hYt,Nat.mul_one]; exact cY,_,rfl,_,rfl,g1,g2,?_,?_,?_,?_,_,rfl,g1,g2,?_,?_,?_⟩
 · rintro ⟨h1,_⟩; rw [add_block] at h1; exact hbX h1.symm
 · rintro ⟨h1,_⟩; rw [add_block] at h1; exact m.ne.2.2.2.2.1 h1.symm
 · exact ⟨_,by rw [hXt,Nat.mul_one]; exact cX⟩
 · rw [hXt,Nat.mul_one]; exact m1.hX.froz _
 · rw [w,hXt,Nat.mul_one]
   exact ⟨_,hB2.get (i:=dX d) (v:=.int .i64 (by' (dX d))) (by simp [ints,tab_get xl])⟩
 · rw [w,hXt,Nat.mul_one]; exact hB2.froz _
 · rw [w,hXt,Nat.mul_one]
   refine hQ _ _ _ _ ⟨?_,m.fl,?_,?_,?_,?_,?_,m.ne⟩ (st0.trans st12) (.inr ⟨rfl,by omega,rfl,rfl⟩)
   · exact m1.atoms.keep st12 fun p hp => by have:=m.fl (by rintro rfl; simp at hd) p hp; rintro (h | h); exact this.1 h; exact this.2 h
   · exact m1.hl.keep st12 (by rintro (h | h); exact m.ne.1 h; exact m.ne.2.1 h)
   · exact m1.hx.keep st12 (by rintro (h | h); exact m.ne.2.2.1 h; exact m.ne.2.2.2.1 h)
   · exact m1.hb.keep st12 (by rintro (h | h); exact m.ne.2.2.2.2.1 h; exact m.ne.2.2.2.2.2.1 h)
   · rw [← tab_set,ints_set]
     exact hX2.keep st2 m.ne.2.2.2.2.2.2
   · rw [← tab_set,ints_set]
     exact hB2.set _ _
end Go.Proofs.Ythfnjogadngfiaa
