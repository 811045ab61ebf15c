/- A part of the proof: see the last text, YthfnjogadngfiaaXf15. -/
import Derived.Test.YthfnjogadngfiaaXf12
set_option maxRecDepth 100000
set_option linter.unusedVariables false
set_option linter.unusedSimpArgs false
namespace Go.Proofs.Ythfnjogadngfiaa
open Go.Sl Go.Sv
theorem zeros_one {z : Value} (h : z.cells = #[z]) (n : Nat) : zeros z n = (List.replicate n z).toArray := by
 apply Array.ext_getElem?
 intro i
 unfold zeros Builtin.zeroCells
 rw [h]
 simp only [List.getElem?_toArray,List.getElem?_replicate,Array.getElem?_map]
 by_cases h : i < n
 · simp [h,Nat.mod_one]
 · simp [h]
theorem own_repl {τ : PH} {z : Value} (hz : z.cells = #[z]) {e b n : Nat} (h : τ b = some (.cells (zeros z n) e (0,0))) : Own τ e 1 (some (ptr b)) n n (List.replicate n z) := by
 rw [zeros_one hz] at h
 refine ⟨by simp,Nat.le_refl _,.inr ⟨b,_,rfl,h,by simp,?_⟩⟩
 simp
def st0 (n : Nat) : St := ⟨[],[],List.replicate (2 * n) [],List.replicate n 0,List.replicate n 0,List.replicate n none,[],[],0,none,[],fun _ => none⟩
def low0 (ff : List Value) (n m bw bv bl bh ba bp : Nat) : Low where
 ff := ff
 F := fun k => match k with
   | 7 => ⟨some (ptr bw),2 * n,2 * n⟩
   | 8 => ⟨some (ptr bv),n,n⟩
   | 9 => ⟨some (ptr bl),n,n⟩
   | 10 => ⟨some (ptr bh),n,n⟩
   | 14 => ⟨some (ptr ba),n,n⟩
   | _ => ⟨none,0,0⟩
 V := fun k => match k with
   | 7 => List.replicate (2 * n) (.slice none 0 0)
   | 8 => List.replicate n (.int .i64 0)
   | 9 => List.replicate n (.int .i64 0)
   | 10 => List.replicate n (.pointer none)
   | 14 => List.replicate n (.float .f64 0)
   | _ => []
 inp := m
 es := #[]
 clock := 0
 head := 0
 bump := bp
 empty := none
 W := List.replicate (2 * n) (⟨none,0,0⟩,[])
 R := fun _ => none
theorem Sol.init {τ : PH} {s m bw bv bl bh ba bp n : Nat} {v0 v1 v2 v3 : Value}
   (hs : Blk τ s 86 (cellsOf (low0 [v0,v1,v2,v3] n m bw bv bl bh ba bp))) (hm : τ m = some (.map #[] 0)) (hw : τ bw = some (.cells (zeros (.slice none 0 0) (2 * n)) 33 (0,0))) (hv : τ bv = some (.cells (zeros (.int .i64 0) n) 3 (0,0))) (hl : τ bl = some (.cells (zeros (.int .i64 0) n) 3 (0,0)))
   (hh : τ bh = some (.cells (zeros (.pointer none) n) 84 (0,0))) (ha : τ ba = some (.cells (zeros (.float .f64 0) n) 83 (0,0))) (hd : [s,m,bw,bv,bl,bh,ba].Nodup) :
   ∃ T,Sol τ T s (low0 [v0,v1,v2,v3] n m bw bv bl bh ba bp) ∧ Abs (low0 [v0,v1,v2,v3] n m bw bv bl bh ba bp) (st0 n) ∧ ∀ b,b ∉ [s,m,bw,bv,bl,bh,ba] → T b = .other := by
 simp only [List.nodup_cons,List.mem_cons,not_or,List.not_mem_nil,not_false_eq_true,List.nodup_nil,and_true] at hd
 obtain ⟨⟨d1,d2,d3,d4,d5,d6⟩,⟨d7,d8,d9,d10,d11⟩,⟨d12,d13,d14,d15⟩,⟨d16,d17,d18⟩,⟨d19,d20⟩,d21⟩ := hd
 refine ⟨fun b => if b = s then .fld 0 else if b = m then .fld 5 else if b = bw then .fld 7 else if b = bv then .fld 8 else if b = bl then .fld 9 else if b = bh then .fld 10 else if b = ba then .fld 14 else .other,?_,?_,?_⟩
 · refine ⟨rfl,hs,if_pos rfl,fun k e size hk => ?_,hm,?_,(fun e he => by simp [low0] at he),?_,fun i sl l hi => ?_,(fun r x hr => by cases hr),(fun r x hr => by cases hr),(fun r x hr => by cases hr),(fun r x hr => by cases hr)⟩
   · have nil : ∀ {k e size},(low0 [v0,v1,v2,v3] n m bw bv bl bh ba bp).F k = ⟨none,0,0⟩ → (low0 [v0,v1,v2,v3] n m bw bv bl bh ba bp).V k = [] → OwnT τ (fun b => if b = s then Tag.fld 0 else if b = m then .fld 5 else if b = bw then .fld 7 else if b = bv then .fld 8 else if b = bl then .fld 9 else if b = bh then .fld 10 else if b = ba then .fld 14 else .other) (.fld k) e size ((low0 [v0,v1,v2,v3] n m bw bv bl bh ba bp).F k) ((low0 [v0,v1,v2,v3] n m bw bv bl bh ba bp).V k) := by
       intro k e size h1 h2
       rw [h1,h2]
       exact ⟨own_nil,fun p hp => by cases hp⟩
     unfold fty at hk
     split at hk <;> first | (cases hk; done) | skip
     all_goals cases hk
     · exact nil rfl rfl
     · exact nil rfl rfl
     · refine ⟨own_repl rfl hw,fun p hp => ?_⟩
       cases hp
       simp [Ne.symm d2,Ne.symm d7]
     · refine ⟨own_repl rfl hv,fun p hp => ?_⟩
       cases hp
       simp [Ne.symm d3,Ne.symm d8,Ne.symm d12]
     · refine ⟨own_repl rfl hl,fun p hp => ?_⟩
       cases hp
       simp [Ne.symm d4,Ne.symm d9,Ne.symm d13,Ne.symm d16]
     · refine ⟨own_repl rfl hh,fun p hp => ?_⟩
       cases hp
       simp [Ne.symm d5,Ne.symm d10,Ne.symm d14,Ne.symm d17,Ne.symm d19]
     · exact nil rfl rfl
     · exact nil rfl rfl
     · refine ⟨own_repl rfl ha,fun p hp => ?_⟩
       cases hp
       simp [Ne.symm d6,Ne.symm d11,Ne.symm d15,Ne.symm d18,Ne.symm d20,Ne.symm d21]
     · exact nil rfl rfl
   · show (if m = s then _ else if m = m then Tag.fld 5 else _) = _
     rw [if_neg (Ne.symm d1),if_pos rfl]
   · show List.replicate (2 * n) (Value.slice none 0 0) = (List.replicate (2 * n) ((⟨none,0,0⟩ : Sli),([] : List Int))).map _
     rw [List.map_replicate]
   · have hi : (List.replicate (2 * n) ((⟨none,0,0⟩ : Sli),([] : List Int)))[i]? = some (sl,l) := hi
     have := List.mem_of_getElem? hi
     rw [List.mem_replicate] at this
     cases this.2
     exact ⟨own_nil,fun p hp => by cases hp⟩
 · refine ⟨⟨[],rfl,.nil⟩,rfl,?_,?_,?_,?_,rfl,rfl,rfl,⟨List.replicate n 0,?_,?_⟩,rfl,rfl,fun r => rfl⟩
   · show (List.replicate (2 * n) ((⟨none,0,0⟩ : Sli),([] : List Int))).map _ = List.replicate (2 * n) []
     rw [List.map_replicate]
   · show List.replicate n _ = ints (List.replicate n 0)
     unfold ints; rw [List.map_replicate]
   · show List.replicate n _ = nats (List.replicate n 0)
     unfold nats; rw [List.map_replicate]; rfl
   · show List.replicate n _ = optrs (List.replicate n none)
     unfold optrs; rw [List.map_replicate]; rfl
   · show List.replicate n _ = (List.replicate n 0).map _
     rw [List.map_replicate]
   · show _ = (List.replicate n (0 : Int)).length
     simp
 · intro b hb
   simp only [List.mem_cons,List.not_mem_nil,or_false,not_or] at hb
   obtain ⟨h1,h2,h3,h4,h5,h6,h7⟩ := hb
   simp [h1,h2,h3,h4,h5,h6,h7]
theorem cellsOf_empty {g : Low} (hff : g.ff.length = 4) (p : Option Addr) : cellsOf { g with empty := p } = (cellsOf g).set 16 (.pointer p) := by
 obtain ⟨ff,F,V,inp,es,clock,head,bump,empty,W,R⟩ := g
 match ff,hff with
 | [a,b,c,d],_ => rfl
theorem Sol.setEmpty {σ : PH} {T : Nat → Tag} {s : Nat} {g : Low} (h : Sol σ T s g) (p : Option Addr) :
   Sol (σ.setCell ((Addr.mk s 0 none).add 16) (.pointer p)) T s { g with empty := p } ∧ Did σ T (σ.setCell ((Addr.mk s 0 none).add 16) (.pointer p)) T := by
 have hsb : ((Addr.mk s 0 none).add 16).block = s := add_block _ _
 have hst : Step (fun b => b = s) σ (σ.setCell ((Addr.mk s 0 none).add 16) (.pointer p)) := setCell_step.weaken fun b hb' => hb'.trans hsb
 have ne : ∀ b t,T b = t → t ≠ .fld 0 → ¬ b = s := by
   rintro b t h1 h2 rfl
   exact h2 (h1.symm.trans h.tag)
 refine ⟨⟨h.ff,?_,h.tag,fun j e' size' hj => ?_,hst.same _ _ h.map (ne _ _ h.mtag (by simp)),h.mtag,h.keys,h.wv,fun j sl l hj => (h.wat j sl l hj).keep hst fun b hb => ne b _ hb (by simp),
   fun r x hr => (h.rblk r x hr).keep hst (ne r _ (h.rtag r x hr) (by simp)),h.rtag,fun r x hr => (h.rl r x hr).keep hst fun b hb => ne b _ hb (by simp),fun r x hr => (h.rc r x hr).keep hst fun b hb => ne b _ hb (by simp)⟩,hst.weaken ?_,fun _ _ => rfl⟩
 · rw [cellsOf_empty h.ff]
   exact h.blk.set 16 _
 · have j0 : j ≠ 0 := by rintro rfl; cases hj
   exact (h.fld j e' size' hj).keep hst fun b hb => ne b _ hb (by simpa using j0)
 · rintro b rfl
   rw [h.tag]; simp
theorem r51h {σ : PH} {T : Nat → Tag} {s : Nat} {g : Low} (H : Sol σ T s g) {st : St} (A : Abs g st) {i : Int} (hi : mfind i g.es = none) (hn : st.steps.length ≤ 3500000000000) :
   C 51 #[.pointer (some (ptr s)),.int .i64 i] (fun v τ => v = .int .i64 st.steps.length ∧ ∃ T' g',Did σ T τ T' ∧ Sol τ T' s g' ∧ g'.ff = g.ff ∧ Abs g' (st.step (pInput i)) ∧ g'.R = g.R ∧ ∀ m,m ≠ i → mfind m g.es = none → mfind m g'.es = none) σ := by
 have n4 := H.n4 A
 refine (c51 H i hi (by omega)).mono hb ?_
 rintro _ τ ⟨rfl,T',sl,es',ck',D,hsl,hk,hm,H'⟩
 refine ⟨by rw [n4],T',_,D,H',rfl,?_,rfl,fun m hne h0 => by
   show mfind m es' = none
   rw [hm m,if_neg hne]; exact h0⟩
 obtain ⟨xs,h1,h2⟩ := A.steps
 refine ⟨⟨xs ++ [⟨1,i,⟨none,0,0⟩,0,0,0⟩],?_,h2.snoc ⟨rfl,rfl,rfl,rfl,rfl,.inl ⟨rfl,rfl⟩⟩⟩,A.clauses,A.W,A.value,A.level,A.why,A.trail,A.limits,A.head,A.act,A.empty,A.units,A.R⟩
 show g.V 4 ++ _ = _
 rw [h1,List.flatMap_append]; simp
theorem r52h {σ : PH} {T : Nat → Tag} {s : Nat} {g : Low} (H : Sol σ T s g) {st : St} (A : Abs g st) {r : Nat} {x : RC} (hx : st.R r = some x) (h2 : 2 ≤ x.lits.length) (hl : ∀ l ∈ x.lits,Lit l ∧ l ≠ 0 ∧ (idx l).toNat < st.W.length)
   (hn : st.clauses.length ≤ 5000000000000) (hw : ∀ e ∈ st.W,e.length ≤ 5000000000000) :
   C 52 #[.pointer (some (ptr s)),.pointer (some (ptr r))] (fun v τ => v = .tuple #[] ∧ ∃ T' g',Did σ T τ T' ∧ Sol τ T' s g' ∧ g'.ff = g.ff ∧ Abs g' (st.add r x.lits) ∧ g'.es = g.es) σ := by
 have n6 := H.n6 A
 obtain ⟨y,hy,e1,_,_⟩ := A.R_of hx
 refine (c52 H hy (by rw [e1]; exact h2) (by rw [e1,A.nW]; exact hl) (by omega) (fun e he => hw _ (by rw [← A.W]; exact List.mem_map_of_mem he))).mono hb ?_
 rintro _ τ ⟨rfl,T',g',sl,D,hn,S7,hW,H'⟩
 refine ⟨rfl,T',g',D,H',S7.ff,?_,S7.es⟩
 have v := S7.V
 refine ⟨?_,?_,?_,?_,?_,?_,?_,?_,S7.head.trans A.head,?_,S7.empty.trans A.empty,?_,fun r => by rw [S7.R]; exact A.R r⟩
 · rw [v 4 (by decide),S7.R]; exact A.steps
 · rw [v 6 (by decide)]; show g.V 6 ++ _ = _; rw [A.clauses]; simp [ptrs,St.add]
 · rw [hW,A.W,e1,n6]; rfl
 · rw [v 8 (by decide)]; exact A.value
 · rw [v 9 (by decide)]; exact A.level
 · rw [v 10 (by decide)]; exact A.why
 · rw [v 11 (by decide)]; exact A.trail
 · rw [v 12 (by decide)]; exact A.limits
 · rw [v 14 (by decide)]; exact A.act
 · rw [v 17 (by decide)]; exact A.units
def LK (F : Fm) (n : Nat) (ff : List Value) (s : Nat) (σ : PH) (k : Nat) (υ : PH) : Prop :=
 ∃ T1 g1 st1,Sol υ T1 s g1 ∧ g1.ff = ff ∧ Abs g1 st1 ∧ σ.sub (oth υ T1) ∧ NewK F n st1 k k ∧ ∀ i : Int,k ≤ i → mfind i g1.es = none
theorem l36 {F : Fm} {n : Nat} {ff : List Value} {s : Nat} {σ : PH} (hF : FOk F) (hn : n = F.bools) (hlen : ∀ c ∈ F.clauses,c.length ≤ 1000000) {ca : Option Addr} {cn cc : Nat} (hL : Lists σ ca cn F.clauses) {Q : Value → PH → Prop}
   (hQ : ∀ τ T st,σ.sub (oth τ T) → Rep τ T s ff st → New F n st → Q (.pointer (some (ptr s))) τ) {υ : PH} (h0 : LK F n ff s σ 0 υ) :
   S36_1 C Q (ptr s) ca cn cc (cn : Int) 0 υ := by
 unfold S36_1
 have hcn := hL.1
 have hnb := hF.bools
 have hcl := hF.cn
 refine iloopS_for (G := Unit) (fun k _ => (ptr s,ca,cn,cc,(cn : Int),(k : Int))) (fun k _ υ => LK F n ff s σ k υ) cn ?_ (g := ()) h0
 clear h0 υ
 rintro k _ υ hk ⟨T1,g1,st1,H1,hff1,A1,hsub,N1,hes⟩ R hR
 unfold S36_2
 dsimp only
 have hsub' := hsub.trans (oth_sub υ T1)
 refine br_dec.2 ⟨fun hlt => ?_,fun hge => ?_⟩
 · have hkn : k < cn := by omega
   obtain ⟨c,hc⟩ : ∃ c,F.clauses[k]? = some c := ⟨_,List.getElem?_eq_getElem (by omega)⟩
   have hcm := List.mem_of_getElem? hc
   obtain ⟨p,x,m,kk,hp,hcell,hI,hmk⟩ := hL.2 k c hc
   have hlit := hF.cl c hcm
   rw [← hn] at hlit
   have wk : IntKind.wrap .i64 ((k : Int) + 1) = ((k + 1 : Nat) : Int) := by rw [w64 (by omega) (by omega)]; omega
   refine ⟨p,hp,by omega,by omega,_,by rw [Int.toNat_natCast,Nat.mul_one]; exact hsub'.cell hcell,_,_,_,rfl,?_⟩
   refine (c50 (hI.sub hsub') (fun y hy => litN (hlit y hy) (by omega)) (hlen c hcm)).mono hb fun v τ ⟨hs,sl,hv⟩ => ?_
   cases hnm : norm c with
   | none =>
     rw [hnm] at hv
     dsimp only at hv
     subst hv
     refine ⟨τ,PH.sub.refl _,_,_,_,_,rfl,br_iff.2 ⟨fun _ => ?_,fun h => (by cases h)⟩⟩
     rw [wk]
     obtain ⟨T2,H2,D2,_⟩ := H1.grow hs
     exact hR () _ hkn ⟨T2,g1,st1,H2,hff1,A1,hsub.trans D2.oth,N1.skip hc hnm,fun i hi => hes i (by omega)⟩
   | some out =>
     rw [hnm] at hv
     dsimp only at hv
     obtain ⟨rfl,hO,hnew⟩ := hv
     refine ⟨τ,PH.sub.refl _,_,_,_,_,rfl,br_iff.2 ⟨fun h => (by cases h),fun _ => ?_⟩⟩
     obtain ⟨T2,H2,D2,hT2⟩ := H1.grow hs
     have E2 : Ext υ τ T2 sl out := ⟨hO,fun p hp => ⟨hT2 _ (hnew p hp),hnew p hp⟩⟩
     have hsn := N1.sn
     refine (r51h H2 A1 (i := (k : Int)) (hes k (by omega)) (by omega)).mono hb ?_
     rintro _ τ3 ⟨rfl,T3,g3,D3,H3,hff3,A3,hR3,hes3⟩
     refine ⟨τ3,PH.sub.refl _,_,rfl,fun b71 h71 => ?_⟩
     have E3 := E2.did D3
     obtain ⟨T4,H4,D4,hT4⟩ := H3.fresh h71 (.cells #[.slice sl.a sl.n sl.c,.int .i64 st1.steps.length,.slice none 0 0] 102)
     have E4 := E3.did D4
     have D24 := (D2.trans D3).trans D4
     have hb71u : υ b71 = none := (D2.trans D3).none h71
     have hB : Blk (τ3.set b71 (.cells #[.slice sl.a sl.n sl.c,.int .i64 st1.steps.length,.slice none 0 0] 102)) b71 102 [sl.v,.int .i64 st1.steps.length,(⟨none,0,0⟩ : Sli).v] := set_self
     have hnb71 : ∀ p,sl.a = some p → p.block ≠ b71 := by
       rintro p hp rfl
       exact E3.own.known hp h71
     obtain ⟨hrn,T5,H5,hT5⟩ := H4.newR hB E4.own own_nil (sc := ⟨none,0,0⟩) (cyc := []) hT4 (fun p hp => ⟨(E4.tag p hp).1,hnb71 p hp⟩) (fun p hp => by cases hp) (fun p q _ hq => by cases hq)
     have hr1 : st1.R b71 = none := by
       have := A3.R b71
       rw [hrn] at this
       exact this.symm
     have D5 : Did υ T1 (τ3.set b71 (.cells #[.slice sl.a sl.n sl.c,.int .i64 st1.steps.length,.slice none 0 0] 102)) T5 := by
       refine ⟨D24.step,fun b hb => ?_⟩
       rw [hT5 b,D24.tags b hb]
       right
       refine ⟨?_,fun p hp => ?_,fun p hp => by cases hp⟩
       · rintro rfl; exact hb hb71u
       · rintro rfl; exact hb (E4.tag p hp).2
     have A5 := A3.newR (r := b71) (y := ⟨sl,out,st1.steps.length,⟨none,0,0⟩,[]⟩) hrn
     obtain ⟨N5,hol,hod⟩ := N1.base hc hnm hlit hr1
     have hrc : ((st1.step (pInput k)).setR b71 ⟨out,st1.steps.length,[]⟩).R b71 = some ⟨out,st1.steps.length,[]⟩ := if_pos rfl
     have hon := own_len E4.own
     have hes5 : ∀ i : Int,((k + 1 : Nat) : Int) ≤ i → mfind i g3.es = none := fun i hi => hes3 i (by omega) (hes i (by omega))
     replace A5 : Abs (g3.setR b71 ⟨sl,out,st1.steps.length,⟨none,0,0⟩,[]⟩) ((st1.step (pInput k)).setR b71 ⟨out,st1.steps.length,[]⟩) := A5
     replace hB : True := trivial
     generalize hω : τ3.set b71 (.cells #[.slice sl.a sl.n sl.c,.int .i64 st1.steps.length,.slice none 0 0] 102) = ω at *
     refine br_iff.2 ⟨fun h0 => ?_,fun h0 => br_iff.2 ⟨fun h1 => ?_,fun h1 => ?_⟩⟩
     · have h0 : sl.n = 0 := by simpa using h0
       have hout : out = [] := List.length_eq_zero_iff.1 (by omega)
       subst hout
       rw [wk]
       obtain ⟨H6,D6⟩ := H5.setEmpty (some (ptr b71))
       refine ⟨_,rfl,⟨_,H5.blk.get (cellsOf_16 H5.ff)⟩,H5.blk.froz 16,hR () _ hkn ⟨T5,_,St.setEmpty ((st1.step (pInput k)).setR b71 ⟨[],st1.steps.length,[]⟩) b71,H6,hff3.trans hff1,?_,(hsub.trans D5.oth).trans D6.oth,N5.toEmpty hc hnm hrc (by dsimp only; omega) rfl,hes5⟩⟩
       exact ⟨A5.steps,A5.clauses,A5.W,A5.value,A5.level,A5.why,A5.trail,A5.limits,A5.head,A5.act,rfl,A5.units,A5.R⟩
     · have h1 : sl.n = 1 := by simp at h1; omega
       obtain ⟨y,hout⟩ : ∃ y,out = [y] := List.length_eq_one_iff.1 (by omega)
       subst hout
       rw [wk]
       have n17 := H5.n17 A5
       have hun := N1.un
       have hun5 : ((st1.step (pInput k)).setR b71 ⟨[y],st1.steps.length,[]⟩).units = st1.units := rfl
       rw [hun5] at n17
       refine ⟨_,rfl,_,H5.field (k := 17) rfl,_,_,_,rfl,fun b79 h79 => ?_⟩
       obtain ⟨T6,H6,D6,_⟩ := H5.fresh h79 (.cells #[.pointer (some ⟨b71,0,none⟩)] 84)
       refine H6.appendF (k := 17) rfl (by decide) t84.1 t84.2.1 t84.2.2 rfl (by decide) (news := [.pointer (some ⟨b71,0,none⟩)]) ?_ rfl ?_ (by omega) ?_
       · exact rowAt_of (b := b79) (arr := #[.pointer (some ⟨b71,0,none⟩)]) (e := 84) (f := (0,0)) (by unfold PH.set; rw [if_pos rfl]) _ 0 0 (fun j v hv => by simpa using hv)
       · intro v hv; simp at hv; subst hv; trivial
       · rintro a' c' τ7 q1 q2 ⟨T7,H7,D7⟩
         refine ⟨_,_,_,rfl,_,rfl,q1,q2,hR () _ hkn ⟨T7,_,St.unit ((st1.step (pInput k)).setR b71 ⟨[y],st1.steps.length,[]⟩) b71,H7,hff3.trans hff1,?_,((hsub.trans D5.oth).trans D6.oth).trans D7.oth,N5.toUnit hc hnm hrc rfl,hes5⟩⟩
         refine ⟨A5.steps,A5.clauses,A5.W,A5.value,A5.level,A5.why,A5.trail,A5.limits,A5.head,A5.act,A5.empty,?_,A5.R⟩
         show g3.V 17 ++ _ = ptrs (st1.units ++ [b71])
         have := A5.units
         replace this : g3.V 17 = ptrs st1.units := this
         rw [this]; simp [ptrs]
     · have h0 : sl.n ≠ 0 := by
         intro h; rw [h] at h0; simp at h0
       have h1 : sl.n ≠ 1 := by
         intro h; rw [h] at h1; simp at h1
       have h2 : 2 ≤ out.length := by omega
       have hW := N5.wi.wl
       have hcn5 := N5.cn
       have hnc : b71 ∉ ((st1.step (pInput k)).setR b71 ⟨out,st1.steps.length,[]⟩).clauses := by
         intro hm
         obtain ⟨rc,q1,_⟩ := N1.wi.cl b71 hm
         rw [hr1] at q1; cases q1
       refine (r52h H5 A5 (r := b71) hrc h2 (fun l hl => ⟨litN (hol l hl) (by omega),(hol l hl).1,by rw [hW]; exact idx_lt' (hol l hl)⟩) (by omega) (fun e he => by have := N5.wi.small e he; omega)).mono hb ?_
       rintro _ τ7 ⟨rfl,T7,g7,D7,H7,hff7,A7,hes7⟩
       rw [wk]
       refine ⟨_,PH.sub.refl _,rfl,hR () _ hkn ⟨T7,g7,_,H7,hff7.trans (hff3.trans hff1),A7,(hsub.trans D5.oth).trans D7.oth,N5.toClause hc hnm hrc rfl h2 hol hod hnc,fun i hi => by rw [hes7]; exact hes5 i hi⟩⟩
 · have hkn : k = cn := by omega
   subst hkn
   rw [← hcn] at N1
   exact hQ υ T1 st1 hsub ⟨g1,H1,hff1,A1⟩ N1.done
theorem ne_new {ω : PH} {a b : Nat} {o : Obj} (h : ω a = some o) (hb : ω b = none) : b ≠ a := by
 rintro rfl; rw [h] at hb; cases hb
theorem NewK.zero (F : Fm) (n : Nat) : NewK F n (st0 n) 0 0 := NewK.start rfl rfl rfl rfl rfl rfl rfl rfl rfl rfl rfl fun _ => rfl
theorem r36 {F : Fm} {n : Nat} {ff : List Value} {σ : PH} (hF : FOk F) (hn : n = F.bools) (hlen : ∀ c ∈ F.clauses,c.length ≤ 1000000) {aa ca : Option Addr} {an ac cn cc : Nat} (hff : ff = [.int .i64 F.ints,.int .i64 F.bools,.slice aa an ac,.slice ca cn cc]) (hL : Lists σ ca cn F.clauses) {Q : Value → PH → Prop}
   (hQ : ∀ τ T s st,σ.sub (oth τ T) → Rep τ T s ff st → New F n st → Q (.pointer (some (ptr s))) τ) :
   C 36 #[.agg #[.int .i64 F.ints,.int .i64 F.bools,.slice aa an ac,.slice ca cn cc]] Q σ := by
 subst hff
 refine go (E36_0 _ _ _ _ _ _ _ _ _ _ _) ?_
 unfold S36_0
 have hnb := hF.bools
 have w2 : IntKind.wrap .i64 ((2 : Int) * (F.bools : Int)) = ((2 * F.bools : Nat) : Int) := by rw [w64 (by omega) (by omega)]; omega
 have e0 : ∀ b : Nat,(Addr.mk b 0 none).add 0 = ⟨b,0,none⟩ := fun b => rfl
 intro b9 h9
 have s9 := PH.sub_set (o := .cells #[.int .i64 F.ints,.int .i64 F.bools,.slice aa an ac,.slice ca cn cc] 29) h9
 have B9 : Blk (σ.set b9 (.cells #[.int .i64 F.ints,.int .i64 F.bools,.slice aa an ac,.slice ca cn cc] 29)) b9 29 [.int .i64 F.ints,.int .i64 F.bools,.slice aa an ac,.slice ca cn cc] := set_self
 generalize σ.set b9 (.cells #[.int .i64 F.ints,.int .i64 F.bools,.slice aa an ac,.slice ca cn cc] 29) = ω9 at *
 have g0 := B9.get (i := 0) rfl
 rw [e0] at g0
 refine ⟨_,g0,_,B9.get (i := 1) rfl,_,B9.get (i := 2) rfl,_,B9.get (i := 3) rfl,_,_,_,_,_,_,_,_,rfl,fun b22 h22 => ?_⟩
 have s22 := PH.sub_set (o := .map #[] 0) h22
 have k22 : (ω9.set b22 (.map #[] 0)) b22 = some (.map #[] 0) := set_self
 generalize ω9.set b22 (.map #[] 0) = ω22 at *
 have B9a : Blk ω22 b9 29 [.int .i64 F.ints,.int .i64 F.bools,.slice aa an ac,.slice ca cn cc] := s22 _ _ B9
 refine ⟨_,B9a.get (i := 1) rfl,_,rfl,?_⟩
 rw [w2]
 simp only [Int.toNat_natCast]
 refine ⟨by omega,by omega,by omega,by omega,fun b25 h25 => ?_⟩
 have s25 := PH.sub_set (o := .cells (zeros (.slice none 0 0) (2 * F.bools)) 33) h25
 have k25 : (ω22.set b25 (.cells (zeros (.slice none 0 0) (2 * F.bools)) 33)) b25 = some (.cells (zeros (.slice none 0 0) (2 * F.bools)) 33 (0,0)) := set_self
 generalize ω22.set b25 (.cells (zeros (.slice none 0 0) (2 * F.bools)) 33) = ω25 at *
 have B9b : Blk ω25 b9 29 [.int .i64 F.ints,.int .i64 F.bools,.slice aa an ac,.slice ca cn cc] := s25 _ _ B9a
 refine ⟨_,B9b.get (i := 1) rfl,_,rfl,by omega,by omega,by omega,by omega,fun b28 h28 => ?_⟩
 simp only [Int.toNat_natCast] at h28 ⊢
 have s28 := PH.sub_set (o := .cells (zeros (.int .i64 0) F.bools) 3) h28
 have k28 : (ω25.set b28 (.cells (zeros (.int .i64 0) F.bools) 3)) b28 = some (.cells (zeros (.int .i64 0) F.bools) 3 (0,0)) := set_self
 generalize ω25.set b28 (.cells (zeros (.int .i64 0) F.bools) 3) = ω28 at *
 have B9c : Blk ω28 b9 29 [.int .i64 F.ints,.int .i64 F.bools,.slice aa an ac,.slice ca cn cc] := s28 _ _ B9b
 refine ⟨_,B9c.get (i := 1) rfl,_,rfl,by omega,by omega,by omega,by omega,fun b31 h31 => ?_⟩
 simp only [Int.toNat_natCast] at h31 ⊢
 have s31 := PH.sub_set (o := .cells (zeros (.int .i64 0) F.bools) 3) h31
 have k31 : (ω28.set b31 (.cells (zeros (.int .i64 0) F.bools) 3)) b31 = some (.cells (zeros (.int .i64 0) F.bools) 3 (0,0)) := set_self
 generalize ω28.set b31 (.cells (zeros (.int .i64 0) F.bools) 3) = ω31 at *
 have B9d : Blk ω31 b9 29 [.int .i64 F.ints,.int .i64 F.bools,.slice aa an ac,.slice ca cn cc] := s31 _ _ B9c
 refine ⟨_,B9d.get (i := 1) rfl,_,rfl,by omega,by omega,by omega,by omega,fun b34 h34 => ?_⟩
 simp only [Int.toNat_natCast] at h34 ⊢
 have s34 := PH.sub_set (o := .cells (zeros (.pointer none) F.bools) 84) h34
 have k34 : (ω31.set b34 (.cells (zeros (.pointer none) F.bools) 84)) b34 = some (.cells (zeros (.pointer none) F.bools) 84 (0,0)) := set_self
 generalize ω31.set b34 (.cells (zeros (.pointer none) F.bools) 84) = ω34 at *
 have B9e : Blk ω34 b9 29 [.int .i64 F.ints,.int .i64 F.bools,.slice aa an ac,.slice ca cn cc] := s34 _ _ B9d
 refine ⟨_,B9e.get (i := 1) rfl,_,rfl,by omega,by omega,by omega,by omega,fun b37 h37 b38 => ?_⟩
 simp only [Int.toNat_natCast] at h37 ⊢
 intro h38
 have s37 := PH.sub_set (o := .cells (zeros (.float .f64 0) F.bools) 83) h37
 have k37 : (ω34.set b37 (.cells (zeros (.float .f64 0) F.bools) 83)) b37 = some (.cells (zeros (.float .f64 0) F.bools) 83 (0,0)) := set_self
 generalize ω34.set b37 (.cells (zeros (.float .f64 0) F.bools) 83) = ω37 at *
 have B9f : Blk ω37 b9 29 [.int .i64 F.ints,.int .i64 F.bools,.slice aa an ac,.slice ca cn cc] := s37 _ _ B9e
 have s38 := PH.sub_set (o := .cells #[.int .i64 F.ints,.int .i64 F.bools,.slice aa an ac,.slice ca cn cc,.slice none 0 0,.map (some b22),.slice none 0 0,.slice (some ⟨b25,0,none⟩) (2 * F.bools) (2 * F.bools),.slice (some ⟨b28,0,none⟩) F.bools F.bools,.slice (some ⟨b31,0,none⟩) F.bools F.bools,.slice (some ⟨b34,0,none⟩) F.bools F.bools,.slice none 0 0,.slice none 0 0,.int .i64 0,.slice (some ⟨b37,0,none⟩) F.bools F.bools,.float .f64 4607182418800017408,.pointer none,.slice none 0 0] 86) h38
 have k38 : Blk (ω37.set b38 (.cells #[.int .i64 F.ints,.int .i64 F.bools,.slice aa an ac,.slice ca cn cc,.slice none 0 0,.map (some b22),.slice none 0 0,.slice (some ⟨b25,0,none⟩) (2 * F.bools) (2 * F.bools),.slice (some ⟨b28,0,none⟩) F.bools F.bools,.slice (some ⟨b31,0,none⟩) F.bools F.bools,.slice (some ⟨b34,0,none⟩) F.bools F.bools,.slice none 0 0,.slice none 0 0,.int .i64 0,.slice (some ⟨b37,0,none⟩) F.bools F.bools,.float .f64 4607182418800017408,.pointer none,.slice none 0 0] 86)) b38 86 (cellsOf (low0 [.int .i64 F.ints,.int .i64 F.bools,.slice aa an ac,.slice ca cn cc] F.bools b22 b25 b28 b31 b34 b37 4607182418800017408)) := set_self
 refine ⟨_,(s38.cell (B9f.get (i := 3) rfl)),_,_,_,rfl,?_⟩
 generalize ω37.set b38 (.cells #[.int .i64 F.ints,.int .i64 F.bools,.slice aa an ac,.slice ca cn cc,.slice none 0 0,.map (some b22),.slice none 0 0,.slice (some ⟨b25,0,none⟩) (2 * F.bools) (2 * F.bools),.slice (some ⟨b28,0,none⟩) F.bools F.bools,.slice (some ⟨b31,0,none⟩) F.bools F.bools,.slice (some ⟨b34,0,none⟩) F.bools F.bools,.slice none 0 0,.slice none 0 0,.int .i64 0,.slice (some ⟨b37,0,none⟩) F.bools F.bools,.float .f64 4607182418800017408,.pointer none,.slice none 0 0] 86) = ω38 at *
 have q22_25 := s25 _ _ k22; have q22_28 := s28 _ _ q22_25; have q22_31 := s31 _ _ q22_28; have q22_34 := s34 _ _ q22_31; have q22_37 := s37 _ _ q22_34
 have q25_28 := s28 _ _ k25; have q25_31 := s31 _ _ q25_28; have q25_34 := s34 _ _ q25_31; have q25_37 := s37 _ _ q25_34
 have q28_31 := s31 _ _ k28; have q28_34 := s34 _ _ q28_31; have q28_37 := s37 _ _ q28_34
 have q31_34 := s34 _ _ k31; have q31_37 := s37 _ _ q31_34
 have q34_37 := s37 _ _ k34
 have hd : [b38,b22,b25,b28,b31,b34,b37].Nodup := by
   simp only [List.nodup_cons,List.mem_cons,not_or,List.not_mem_nil,not_false_eq_true,List.nodup_nil,and_true]
   exact ⟨⟨ne_new q22_37 h38,ne_new q25_37 h38,ne_new q28_37 h38,ne_new q31_37 h38,ne_new q34_37 h38,ne_new k37 h38⟩,
     ⟨(ne_new k22 h25).symm,(ne_new q22_25 h28).symm,(ne_new q22_28 h31).symm,(ne_new q22_31 h34).symm,(ne_new q22_34 h37).symm⟩,
     ⟨(ne_new k25 h28).symm,(ne_new q25_28 h31).symm,(ne_new q25_31 h34).symm,(ne_new q25_34 h37).symm⟩,
     ⟨(ne_new k28 h31).symm,(ne_new q28_31 h34).symm,(ne_new q28_34 h37).symm⟩,
     ⟨(ne_new k31 h34).symm,(ne_new q31_34 h37).symm⟩,(ne_new k34 h37).symm⟩
 have sub9 := s9
 have sub22 := sub9.trans s22; have sub25 := sub22.trans s25; have sub28 := sub25.trans s28; have sub31 := sub28.trans s31; have sub34 := sub31.trans s34; have sub37 := sub34.trans s37
 have n22 := new_of s9 h22; have n25 := new_of sub22 h25; have n28 := new_of sub25 h28; have n31 := new_of sub28 h31; have n34 := new_of sub31 h34; have n37 := new_of sub34 h37; have n38 := new_of sub37 h38
 obtain ⟨T,H,A,hT⟩ := Sol.init k38 (s38 _ _ q22_37) (s38 _ _ q25_37) (s38 _ _ q28_37) (s38 _ _ q31_37) (s38 _ _ q34_37) (s38 _ _ k37) hd
 refine l36 hF hn hlen hL (fun τ T' st h1 h2 h3 => hQ τ T' b38 st h1 h2 h3) ⟨T,_,st0 n,H,rfl,hn ▸ A,fun b o hb => ?_,NewK.zero F n,fun i _ => rfl⟩
 have : T b = .other := hT b (by
   simp only [List.mem_cons,List.not_mem_nil,or_false,not_or]
   refine ⟨?_,?_,?_,?_,?_,?_,?_⟩ <;> rintro rfl
   · rw [n38] at hb; cases hb
   · rw [n22] at hb; cases hb
   · rw [n25] at hb; cases hb
   · rw [n28] at hb; cases hb
   · rw [n31] at hb; cases hb
   · rw [n34] at hb; cases hb
   · rw [n37] at hb; cases hb)
 exact (oth_of this).trans (s38 _ _ (sub37 _ _ hb))
end Go.Proofs.Ythfnjogadngfiaa
namespace Go.Sv
theorem chain_le {x : Nat → Int} : ∀ {l : List Dif} {a b : Int},chain a b l → (∀ d ∈ l,x (dX d) - x (dY d) ≤ d.2.2) → x a.toNat - x b.toNat ≤ sumC l
 | [],a,b,h,_ => by
   have : a = b := h
   subst this
   simp [sumC]
 | d :: l,a,b,h,hd => by
   obtain ⟨h1,h2⟩ := h
   have := chain_le h2 fun e he => hd e (List.mem_cons_of_mem _ he)
   have := hd d List.mem_cons_self
   unfold dX dY at this
   unfold sumC at *
   rw [List.map_cons,List.sum_cons]
   rw [h1] at this
   omega
theorem ring_false {x : Nat → Int} {l : List Dif} (h : ring l) (hd : ∀ d ∈ l,x (dX d) - x (dY d) ≤ d.2.2) : False := by
 obtain ⟨a,h1,h2⟩ := h
 have := chain_le h1 hd
 omega
theorem Tr.lit_in {n : Nat} {value : List Int} {level : List Nat} {trail : List Int} {limits : List Nat} (h : Tr n value level trail limits) {i : Nat} (hi : i < n) (h0 : value[i]? ≠ some 0) : ∃ v,value[i]? = some v ∧ (v = 1 ∨ v = -1) ∧ v * ((i : Int) + 1) ∈ trail := by
 have hv := h.val i hi
 refine ⟨_,hv,?_,?_⟩
 · unfold sg at hv ⊢
   split
   · exact .inl rfl
   · split
     · exact .inr rfl
     · rename_i h1 h2
       rw [if_neg h1,if_neg h2] at hv
       exact absurd hv h0
 · unfold sg at hv ⊢
   split
   · rename_i h1; rw [Int.one_mul]; exact h1
   · split
     · rename_i h2; rw [Int.neg_mul,Int.one_mul]; exact h2
     · rename_i h1 h2
       rw [if_neg h1,if_neg h2] at hv
       exact absurd hv h0
end Go.Sv
namespace Go.Proofs.Ythfnjogadngfiaa
open Go.Sl Go.Sv
theorem quiet58 {ω : PH} {i1 i2 : Int} {aa : Option Addr} {an ac : Nat} {ca : Option Addr} {cn cc : Nat} {F : Fm} (hA : Atoms ω aa an F.atoms) (hC : ∀ d ∈ F.atoms,-1048576 ≤ d.2.2 ∧ d.2.2 ≤ 1048576) {x : Int} (hl : Lit x) :
   ∃ bs,quiet C 58 #[.agg #[.int .i64 i1,.int .i64 i2,.slice aa an ac,.slice ca cn cc],.int .i64 x] (bndV (bound F x)) bs ω := by
 obtain ⟨bs,h1,h2⟩ : ∃ bs : List Nat,(∀ b ∈ bs,ω b ≠ none) ∧ Atoms (PH.only bs ω) aa an F.atoms := by
   cases hat : F.atoms with
   | nil => exact ⟨[],by simp,by rw [hat] at hA; exact ⟨hA.1,fun i d hd => by simp at hd⟩⟩
   | cons d0 t =>
     rw [hat] at hA
     obtain ⟨p,hp,c0,_,_⟩ := hA.2 0 d0 rfl
     refine ⟨[p.block],fun b hb => ?_,hA.1,fun i d hd => ?_⟩
     · rw [List.mem_singleton] at hb; subst hb
       intro e
       unfold PH.cell? at c0
       rw [add_block,e] at c0; cases c0
     · obtain ⟨p',hp',q0,q1,q2⟩ := hA.2 i d hd
       rw [hp] at hp'; cases hp'
       exact ⟨p,hp,cell_only q0 (by rw [add_block]; simp),cell_only q1 (by rw [add_block,add_block]; simp),cell_only q2 (by rw [add_block,add_block]; simp)⟩
 exact ⟨bs,h1,c58 h2 hC hl fun τ hs => ⟨rfl,hs⟩⟩
def boolsV (l : List Bool) : List Value := l.map .bool
structure ML (σ υ : PH) (b2 b6 b7 n : Nat) (bl : List Bool) (sl : Sli) (l : List Dif) : Prop where
 sub : σ.sub υ
 k2 : Blk υ b2 35 [.slice none 0 0,.slice none 0 0]
 k6 : Blk υ b6 4 (boolsV bl)
 k7 : Blk υ b7 35 [.slice (some (ptr b6)) n n,.slice none 0 0]
 n2 : σ b2 = none
 n6 : σ b6 = none
 n7 : σ b7 = none
 d26 : b2 ≠ b6
 d27 : b2 ≠ b7
 d67 : b6 ≠ b7
 ol : Own υ 50 3 sl.a sl.n sl.c (difV l)
 nl : ∀ p,sl.a = some p → σ p.block = none ∧ p.block ≠ b2 ∧ p.block ≠ b6 ∧ p.block ≠ b7
theorem ML.grow {σ υ τ : PH} {b2 b6 b7 n : Nat} {bl : List Bool} {sl : Sli} {l : List Dif} (h : ML σ υ b2 b6 b7 n bl sl l) (hs : υ.sub τ) : ML σ τ b2 b6 b7 n bl sl l :=
 ⟨h.sub.trans hs,hs _ _ h.k2,hs _ _ h.k6,hs _ _ h.k7,h.n2,h.n6,h.n7,h.d26,h.d27,h.d67,h.ol.keep (M := fun _ => False) hs.step fun _ _ h => h,h.nl⟩
theorem ML.set {σ υ : PH} {b2 b6 b7 n : Nat} {bl : List Bool} {sl : Sli} {l : List Dif} (h : ML σ υ b2 b6 b7 n bl sl l) (k : Nat) (q : Bool) : ML σ (υ.setCell ((ptr b6).add k) (.bool q)) b2 b6 b7 n (bl.set k q) sl l := by
 have st : Step (· = b6) υ (υ.setCell ((ptr b6).add k) (.bool q)) := setCell_step.weaken fun b hb => hb.trans (add_block _ _)
 refine ⟨sub_step_new h.sub st (by rintro b rfl; exact h.n6),h.k2.keep st h.d26,?_,h.k7.keep st (Ne.symm h.d67),h.n2,h.n6,h.n7,h.d26,h.d27,h.d67,h.ol.keep st fun p hp => (h.nl p hp).2.2.1,h.nl⟩
 have := h.k6.set k (.bool q)
 unfold boolsV at this ⊢
 rwa [List.map_set]
theorem ML.push {σ υ : PH} {b2 b6 b7 n : Nat} {bl : List Bool} {sl : Sli} {l : List Dif} (h : ML σ υ b2 b6 b7 n bl sl l) (d : Dif) (hl : l.length ≤ 1000000) {b : Nat} (hb : υ b = none) {Q : Value → PH → Prop} (hQ : ∀ sl' τ,ML σ τ b2 b6 b7 n bl sl' (l ++ [d]) → Q sl'.v τ) :
   iappend prog 50 (.slice sl.a sl.n sl.c) (.slice (some ⟨b,0,none⟩) 1 1) Q (PH.set υ b (.cells #[.int .i64 d.1,.int .i64 d.2.1,.int .i64 d.2.2] 50)) := by
 have l1 := h.ol.len
 rw [difV_len] at l1
 refine pushRow t50.1 t50.2.1 t50.2.2 rfl (by decide) h.ol hb (news := [.int .i64 d.1,.int .i64 d.2.1,.int .i64 d.2.2]) rfl ?_ (by omega) ?_
 · intro v hv
   simp at hv
   rcases hv with rfl | rfl | rfl <;> trivial
 · intro a c τ hO hst hnew
   have hnl : ∀ q,(∃ p,sl.a = some p ∧ q = p.block) → σ q = none ∧ q ≠ b2 ∧ q ≠ b6 ∧ q ≠ b7 := by
     rintro q ⟨p,h1,rfl⟩; exact h.nl p h1
   refine hQ ⟨a,sl.n + 1,c⟩ τ ⟨sub_step_new h.sub hst fun q hq => (hnl q hq).1,h.k2.keep hst fun hq => (hnl _ hq).2.1 rfl,h.k6.keep hst fun hq => (hnl _ hq).2.2.1 rfl,h.k7.keep hst fun hq => (hnl _ hq).2.2.2 rfl,h.n2,h.n6,h.n7,h.d26,h.d27,h.d67,by simpa [difV,dcells] using hO,fun p hp => ?_⟩
   rcases hnew p hp with ⟨p',h1,h2⟩ | h1
   · rw [h2]; exact h.nl p' h1
   · exact ⟨new_of h.sub h1,(fun e => by rw [e,h.k2] at h1; cases h1),(fun e => by rw [e,h.k6] at h1; cases h1),(fun e => by rw [e,h.k7] at h1; cases h1)⟩
theorem r38 {F : Fm} {n s : Nat} {σ : PH} {T : Nat → Tag} {st : St} {ff : List Value} (hF : FOk F) (hn : n = F.bools) (hRep : Rep σ T s ff st) (hf : Frm (oth σ T) ff F) (hI : Inv F n st) (hv : ∀ i,i < n → st.value[i]? ≠ some 0)
   {x0 : Nat → Int} (hx0 : ∀ y ∈ st.trail,∀ d,bound F y = some d → x0 (dX d) - x0 (dY d) ≤ d.2.2) {Q : Value → PH → Prop}
   (hQ : ∀ τ b X (x : Nat → Int),σ.sub τ → σ b = none → σ X = none → Blk τ b 4 (boolsV (tab n fun i => decide (0 < st.value.getD i 0))) → Blk τ X 3 (ints (tab F.ints x)) → (∀ y ∈ st.trail,∀ d,bound F y = some d → x (dX d) - x (dY d) ≤ d.2.2) → (∀ v,v < F.ints → -1000000000000000 ≤ x v ∧ x v ≤ 0) → Q (.agg #[.slice (some (ptr b)) n n,.slice (some (ptr X)) F.ints F.ints]) τ) :
   C 38 #[.pointer (some (ptr s))] Q σ := by
 subst hn
 obtain ⟨aa,an,ac,ca,cn,cc,rfl,hA,_,_,_⟩ := hf
 have hAσ := hA.sub (oth_sub σ T)
 refine go (E38_0 _ _ _ _) ?_
 unfold S38_0
 obtain ⟨c0,c1,c2,c3⟩ := hRep.frm
 obtain ⟨va,vc,c8,hval⟩ := hRep.val
 have hnb := hF.bools
 have hT := hI.tr
 have hvl := hT.vlen
 have e0 : ∀ b : Nat,(Addr.mk b 0 none).add 0 = ⟨b,0,none⟩ := fun b => rfl
 intro b2 h2
 have s2 := PH.sub_set (o := .cells #[.slice none 0 0,.slice none 0 0] 35) h2
 have k2 : Blk (σ.set b2 (.cells #[.slice none 0 0,.slice none 0 0] 35)) b2 35 [.slice none 0 0,.slice none 0 0] := set_self
 generalize σ.set b2 (.cells #[.slice none 0 0,.slice none 0 0] 35) = ω2 at *
 refine ⟨_,rfl,_,s2.cell c1,_,rfl,by omega,by omega,by omega,by omega,fun b6 h6 => ?_⟩
 simp only [Int.toNat_natCast]
 have s6 := PH.sub_set (o := .cells (zeros (.bool false) F.bools) 4) h6
 have k6 : Blk (ω2.set b6 (.cells (zeros (.bool false) F.bools) 4)) b6 4 (boolsV (List.replicate F.bools false)) := by
   have : zeros (.bool false) F.bools = (boolsV (List.replicate F.bools false)).toArray := by
     rw [zeros_one rfl,boolsV,List.map_replicate]
   rw [this]; exact set_self
 generalize ω2.set b6 (.cells (zeros (.bool false) F.bools) 4) = ω6 at *
 intro b7 h7
 simp only [newSet,newSet0,newCell,newCell0,newFroz,newFroz0,List.setIfInBounds_toArray,List.set_cons_zero,List.set_cons_succ,List.getElem?_toArray,List.getElem?_cons_zero,List.getElem?_cons_succ,Option.some.injEq,exists_eq',true_and,Value.slice.injEq,exists_eq_left']
 have s7 := PH.sub_set (o := .cells #[.slice (some ⟨b6,0,none⟩) F.bools F.bools,.slice none 0 0] 35) h7
 have k7 : Blk (ω6.set b7 (.cells #[.slice (some ⟨b6,0,none⟩) F.bools F.bools,.slice none 0 0] 35)) b7 35 [.slice (some (ptr b6)) F.bools F.bools,.slice none 0 0] := set_self
 refine ⟨_,_,_,⟨rfl,rfl,rfl⟩,?_⟩
 generalize ω6.set b7 (.cells #[.slice (some ⟨b6,0,none⟩) F.bools F.bools,.slice none 0 0] 35) = ω7 at *
 have M0 : ML σ ω7 b2 b6 b7 F.bools (List.replicate F.bools false) ⟨none,0,0⟩ [] :=
   ⟨(s2.trans s6).trans s7,s7 _ _ (s6 _ _ k2),s7 _ _ k6,k7,h2,new_of s2 h6,new_of (s2.trans s6) h7,(ne_new k2 h6).symm,(ne_new (s6 _ _ k2) h7).symm,(ne_new k6 h7).symm,own_nil,fun p hp => by cases hp⟩
 unfold S38_1
 clear k2 k6 k7 h6 h7 s2 s6 s7
 refine iloopS_for (G := Sli) (fun k sl => (some (ptr s),ptr b2,ptr b7,sl.a,sl.n,sl.c,(F.bools : Int),(k : Int))) (fun k sl υ => ∃ bl l,ML σ υ b2 b6 b7 F.bools bl sl l ∧ (∀ i,i < F.bools → bl[i]? = some (if i < k then decide (0 < st.value.getD i 0) else false)) ∧ bl.length = F.bools ∧ (∀ d ∈ l,∃ y ∈ st.trail,bound F y = some d) ∧ (∀ (i : Nat),i < k → ∀ v,st.value[i]? = some v → ∀ d,bound F (v * ((i : Int) + 1)) = some d → d ∈ l) ∧ l.length ≤ k) F.bools ?_
   (g := ⟨none,0,0⟩) ⟨_,[],M0,fun i hi => by simp [hi],by simp,by simp,fun i hi => by omega,by simp⟩
 rintro k sl υ hk ⟨bl,l,M,hbl,hbn,hl1,hl2,hln⟩ R hR
 unfold S38_2
 dsimp only
 have g7 := M.k7.get (i := 0) rfl
 rw [e0] at g7
 refine br_dec.2 ⟨fun hlt => ?_,fun hge => ?_⟩
 · have hkn : k < F.bools := by omega
   obtain ⟨v,hvk,hv1,hvt⟩ := hT.lit_in hkn (hv k hkn)
   obtain ⟨pv,rfl,cv⟩ := hval k v hvk
   have hgd : st.value.getD k 0 = v := by rw [List.getD_eq_getElem?_getD,hvk]; rfl
   have M1 := M.set k (decide (v > 0))
   have wk : IntKind.wrap .i64 ((k : Int) + 1) = (k : Int) + 1 := w64 (by omega) (by omega)
   have wl : IntKind.wrap .i64 (v * ((k : Int) + 1)) = v * ((k : Int) + 1) := by rcases hv1 with rfl | rfl <;> rw [w64 (by omega) (by omega)]
   have hll : Lit (v * ((k : Int) + 1)) := litN (hT.lit _ hvt) (by omega)
   obtain ⟨bs,hq⟩ := quiet58 (i1 := (F.ints : Int)) (i2 := (F.bools : Int)) (ac := ac) (ca := ca) (cn := cn) (cc := cc) (hAσ.sub M1.sub) (fun d hd => (hF.at' d hd).2.2.2.2.2) hll
   obtain ⟨q0,hq0⟩ : ∃ q0,bl[k]? = some q0 := ⟨_,hbl k hkn⟩
   have c6 : υ.cell? ((ptr b6).add k) = some (.bool q0) := M.k6.get (i := k) (by simp [boolsV,hq0])
   simp only [Int.toNat_natCast,Nat.mul_one]
   have hbl' : ∀ i,i < F.bools → (bl.set k (decide (v > 0)))[i]? = some (if i < k + 1 then decide (0 < st.value.getD i 0) else false) := by
     intro i hi
     rw [List.getElem?_set]
     by_cases e : k = i
     · subst e
       rw [if_pos rfl,if_pos (by omega),if_pos (by omega),hgd]
     · rw [if_neg e,hbl i hi]
       by_cases e2 : i < k
       · rw [if_pos e2,if_pos (by omega)]
       · rw [if_neg e2,if_neg (by omega)]
   have wk' : IntKind.wrap .i64 ((k : Int) + 1) = ((k + 1 : Nat) : Int) := by rw [wk]; omega
   have hbd : ∀ (i : Nat) w,i < k + 1 → st.value[i]? = some w → i = k → w = v := by
     rintro i w _ h1 rfl; rw [hvk] at h1; exact (Option.some.inj h1).symm
   cases hb : bound F (v * ((k : Int) + 1)) with
   | none =>
     rw [hb] at hq
     refine ⟨_,g7,_,_,_,rfl,_,rfl,_,M.sub.cell c8,_,_,_,rfl,pv,rfl,by omega,by omega,_,M.sub.cell cv,v,rfl,_,rfl,by omega,by omega,⟨_,c6⟩,M.k6.froz k,0,0,0,false,bs,_,rfl,_,M1.sub.cell c0,_,M1.sub.cell c1,_,M1.sub.cell c2,_,M1.sub.cell c3,_,_,_,_,_,_,_,_,rfl,_,rfl,_,M1.sub.cell c8,_,_,_,rfl,pv,rfl,by omega,by omega,_,M1.sub.cell cv,v,rfl,?_,fun b70 h70 => ?_⟩
     · rw [wk,wl]; exact hq
     simp only [newSet,newSet0,newCell,newCell0,newFroz,newFroz0,List.setIfInBounds_toArray,List.set_cons_zero,List.set_cons_succ,List.getElem?_toArray,List.getElem?_cons_zero,List.getElem?_cons_succ,Option.some.injEq,exists_eq',true_and,Value.int.injEq,exists_eq_left']
     refine br_iff.2 ⟨fun h => (by cases h),fun _ => ?_⟩
     rw [wk']
     refine hR sl _ hkn ⟨_,l,M1.grow (PH.sub_set h70),hbl',by simp [hbn],hl1,fun i hi w hw d hd => ?_,by omega⟩
     by_cases e : i = k
     · subst e
       rw [hbd i w (by omega) hw rfl,hb] at hd; cases hd
     · exact hl2 i (by omega) w hw d hd
   | some d =>
     rw [hb] at hq
     refine ⟨_,g7,_,_,_,rfl,_,rfl,_,M.sub.cell c8,_,_,_,rfl,pv,rfl,by omega,by omega,_,M.sub.cell cv,v,rfl,_,rfl,by omega,by omega,⟨_,c6⟩,M.k6.froz k,d.1,d.2.1,d.2.2,true,bs,_,rfl,_,M1.sub.cell c0,_,M1.sub.cell c1,_,M1.sub.cell c2,_,M1.sub.cell c3,_,_,_,_,_,_,_,_,rfl,_,rfl,_,M1.sub.cell c8,_,_,_,rfl,pv,rfl,by omega,by omega,_,M1.sub.cell cv,v,rfl,?_,fun b70 h70 => ?_⟩
     · rw [wk,wl]; exact hq
     simp only [newSet,newSet0,newCell,newCell0,newFroz,newFroz0,List.setIfInBounds_toArray,List.set_cons_zero,List.set_cons_succ,List.getElem?_toArray,List.getElem?_cons_zero,List.getElem?_cons_succ,Option.some.injEq,exists_eq',true_and,Value.int.injEq,exists_eq_left']
     refine br_iff.2 ⟨fun _ => ⟨_,_,_,rfl,fun b80 h80 => ?_⟩,fun h => (by cases h)⟩
     refine (M1.grow (PH.sub_set h70)).push d (by omega) h80 fun sl' τ M2 => ⟨_,_,_,rfl,?_⟩
     rw [wk']
     refine hR sl' _ hkn ⟨_,l ++ [d],M2,hbl',by simp [hbn],fun e he => ?_,fun i hi w hw e he => ?_,by simp; omega⟩
     · rcases List.mem_append.1 he with he | he
       · exact hl1 e he
       · rw [List.mem_singleton] at he; subst he; exact ⟨_,hvt,hb⟩
     · by_cases ei : i = k
       · subst ei
         rw [hbd i w (by omega) hw rfl,hb] at he; cases he; simp
       · exact List.mem_append_left _ (hl2 i (by omega) w hw e he)
 · have hkn : k = F.bools := by omega
   subst hkn
   have hlok : ∀ (j : Nat) d,l[j]? = some d → DOk F.ints d ∧ dX d ≠ dY d := by
     intro j d hd
     obtain ⟨y,_,hy⟩ := hl1 d (List.mem_of_getElem? hd)
     exact hF.bound hy
   have hAt := own_atoms M.ol
   have hln' := hAt.1
   have hN := hF.ints
   refine ⟨_,rfl,_,M.sub.cell c0,_,rfl,?_⟩
   refine c59 hAt (fun j d hd => (hlok j d hd).1) (by omega) (by omega) (fun τ X x hs hX0 hX hx hxb => ?_) fun τ slc c hD => ?_
   · have M2 := M.grow hs
     have X2 : X ≠ b2 := ne_new M.k2 hX0
     have X7 : X ≠ b7 := ne_new M.k7 hX0
     have st7 : Step (· = b7) τ (τ.setCell ((ptr b7).add 1) (.slice (some (ptr X)) F.ints F.ints)) := setCell_step.weaken fun b hb => hb.trans (add_block _ _)
     have k7' := M2.k7.set 1 (.slice (some (ptr X)) F.ints F.ints)
     have k2' := M2.k2.keep st7 M2.d27
     have k6' := M2.k6.keep st7 M2.d67
     have kX' := hX.keep st7 X7
     have sub1 := sub_step_new M2.sub st7 (by rintro b rfl; exact M2.n7)
     have u7 := M2.k7.get (i := 1) rfl
     have f7 := M2.k7.froz 1
     have fin : ∀ τ1 : PH,σ.sub τ1 → Blk τ1 b2 35 [.slice none 0 0,.slice none 0 0] → Blk τ1 b6 4 (boolsV bl) → Blk τ1 X 3 (ints (tab F.ints x)) → Blk τ1 b7 35 [.slice (some (ptr b6)) F.bools F.bools,.slice (some (ptr X)) F.ints F.ints] →
         ∃ v100,τ1.cell? (ptr b7) = some v100 ∧ ∃ v101,τ1.cell? ((ptr b7).add 1) = some v101 ∧ ∃ (a102 : Option Addr) (n103 : Nat) (c104 : Nat) (a105 : Option Addr) (n106 : Nat) (c107 : Nat),Value.agg #[v100,v101] = (.agg #[(.slice a102 n103 c104),(.slice a105 n106 c107)]) ∧ (∃ u108,τ1.cell? (ptr b2) = some u108) ∧ τ1.froz (ptr b2) = some false ∧ (∃ u109,(τ1.setCell (ptr b2) (.slice a102 n103 c104)).cell? ((ptr b2).add 1) = some u109) ∧ (τ1.setCell (ptr b2) (.slice a102 n103 c104)).froz ((ptr b2).add 1) = some false ∧
           ∃ v110,((τ1.setCell (ptr b2) (.slice a102 n103 c104)).setCell ((ptr b2).add 1) (.slice a105 n106 c107)).cell? (ptr b2) = some v110 ∧ ∃ v111,((τ1.setCell (ptr b2) (.slice a102 n103 c104)).setCell ((ptr b2).add 1) (.slice a105 n106 c107)).cell? ((ptr b2).add 1) = some v111 ∧ Q (.agg #[v110,v111]) ((τ1.setCell (ptr b2) (.slice a102 n103 c104)).setCell ((ptr b2).add 1) (.slice a105 n106 c107)) := by
       intro τ1 sub1 k2' k6' kX' k7'
       have h7a := k7'.get (i := 0) rfl
       have h7b := k7'.get (i := 1) rfl
       have h2a := k2'.get (i := 0) rfl
       have f2a := k2'.froz 0
       rw [e0] at h7a h2a f2a
       have st2 : Step (· = b2) τ1 (τ1.setCell (ptr b2) (.slice (some (ptr b6)) F.bools F.bools)) := setCell_step.weaken fun b hb => hb
       have k2'' := k2'.set 0 (.slice (some (ptr b6)) F.bools F.bools)
       rw [e0] at k2''
       have st3 : Step (· = b2) (τ1.setCell (ptr b2) (.slice (some (ptr b6)) F.bools F.bools)) ((τ1.setCell (ptr b2) (.slice (some (ptr b6)) F.bools F.bools)).setCell ((ptr b2).add 1) (.slice (some (ptr X)) F.ints F.ints)) := setCell_step.weaken fun b hb => hb.trans (add_block _ _)
       have k2x := k2''.set 1 (.slice (some (ptr X)) F.ints F.ints)
       have r2a := k2x.get (i := 0) rfl
       rw [e0] at r2a
       refine ⟨_,h7a,_,h7b,_,_,_,_,_,_,rfl,⟨_,h2a⟩,f2a,⟨_,k2''.get (i := 1) rfl⟩,k2''.froz 1,_,r2a,_,k2x.get (i := 1) rfl,?_⟩
       have st23 := st2.trans st3
       refine hQ _ b6 X x (sub_step_new sub1 st23 (by rintro b rfl; exact M2.n2)) M2.n6 (new_of M.sub hX0) ?_ (kX'.keep st23 X2) (fun y hy d hd => ?_) hxb
       · have : tab F.bools (fun i => decide (0 < st.value.getD i 0)) = bl := by
           apply List.ext_getElem?
           intro i
           by_cases hi : i < F.bools
           · rw [tab_get hi,hbl i hi,if_pos hi]
           · rw [List.getElem?_eq_none (by rw [tab_len]; omega),List.getElem?_eq_none (by omega)]
         rw [this]
         exact k6'.keep st23 (Ne.symm M2.d26)
       · have hyl := hT.lit y hy
         have hvy := hyl.vr_lt
         obtain ⟨w,w1,w2,w3⟩ := hT.lit_in hvy (hv _ hvy)
         have : w * (((vr y : Nat) : Int) + 1) = y := by
           have e : w * (((vr y : Nat) : Int) + 1) = y ∨ w * (((vr y : Nat) : Int) + 1) = -y := by
             obtain ⟨g1,g2⟩ := hyl
             unfold vr
             rcases w2 with rfl | rfl <;> omega
           rcases e with e | e
           · exact e
           · rw [e] at w3; exact absurd w3 (fun h => hT.anti hy h)
         exact hx d (hl2 (vr y) hvy w w1 d (by rw [this]; exact hd))
     refine ⟨τ,PH.sub.refl _,_,_,_,_,_,_,_,rfl,⟨_,u7⟩,f7,?_⟩
     exact fin _ sub1 k2' k6' kX' k7'
   · refine (ring_false hD.ring (x := x0) fun d hd => ?_).elim
     obtain ⟨j,hj,rfl⟩ := List.mem_map.1 hd
     have := hD.rng j hj
     have hjl : j.toNat < l.length := by omega
     have hm : l.getD j.toNat (0,0,0) ∈ l := by
       rw [List.getD_eq_getElem?_getD,List.getElem?_eq_getElem hjl]; exact List.getElem_mem _
     obtain ⟨y,hy1,hy2⟩ := hl1 _ hm
     exact hx0 y hy1 _ hy2
structure FOkR (i1 i2 : Int) (atoms : List Dif) (clauses : List (List Int)) : Prop where
 ints : 0 ≤ i1 ∧ i1 ≤ 32
 bools : 0 ≤ i2 ∧ i2 ≤ 1024
 cn : clauses.length ≤ 32768
 an : (atoms.length : Int) ≤ i2
 at' : ∀ d ∈ atoms,0 ≤ d.1 ∧ d.1 < i1 ∧ 0 ≤ d.2.1 ∧ d.2.1 < i1 ∧ d.1 ≠ d.2.1 ∧ -1048576 ≤ d.2.2 ∧ d.2.2 ≤ 1048576
 cl : ∀ c ∈ clauses,∀ x ∈ c,x ≠ 0 ∧ -i2 ≤ x ∧ x ≤ i2
theorem fok_raw {F : Fm} (h : FOk F) : FOkR F.ints F.bools F.atoms F.clauses := by
 have h1 := h.ints
 have h2 := h.bools
 have h3 := h.atoms
 exact ⟨by omega,by omega,h.cn,by omega,h.at',fun c hc x hx => by obtain ⟨q1,q2⟩ := h.cl c hc x hx; exact ⟨q1,by omega,by omega⟩⟩
theorem mem_of_all {α : Type} {l : List α} {P : α → Prop} (h : ∀ i x,i < l.length → l[i]? = some x → P x) : ∀ x ∈ l,P x := by
 intro x hx
 obtain ⟨i,hi⟩ := List.mem_iff_getElem?.1 hx
 exact h i x (List.getElem?_eq_some_iff.1 hi).1 hi
theorem c35 {σ : PH} {i1 i2 : Int} {aa : Option Addr} {an ac : Nat} {ca : Option Addr} {cn cc : Nat} {atoms : List Dif} {clauses : List (List Int)} (hA : Atoms σ aa an atoms) (hL : Lists σ ca cn clauses) (hlen : ∀ c ∈ clauses,c.length ≤ 1000000) {Q : Value → PH → Prop}
   (hok : FOkR i1 i2 atoms clauses → ∀ τ,σ.sub τ → Q (.int .i64 0) τ) (hno : ¬ FOkR i1 i2 atoms clauses → ∀ τ e,σ.sub τ → (e = 1 ∨ e = 2) → Q (.int .i64 e) τ) :
   C 35 #[.agg #[.int .i64 i1,.int .i64 i2,.slice aa an ac,.slice ca cn cc]] Q σ := by
 refine go (E35_0 _ _ _ _ _ _ _ _ _ _ _) ?_
 unfold S35_0
 have e0 : ∀ b : Nat,(Addr.mk b 0 none).add 0 = ⟨b,0,none⟩ := fun b => rfl
 have han := hA.1
 have hcn := hL.1
 intro b9 h9
 have s9 := PH.sub_set (o := .cells #[.int .i64 i1,.int .i64 i2,.slice aa an ac,.slice ca cn cc] 29) h9
 have B9 : Blk (σ.set b9 (.cells #[.int .i64 i1,.int .i64 i2,.slice aa an ac,.slice ca cn cc] 29)) b9 29 [.int .i64 i1,.int .i64 i2,.slice aa an ac,.slice ca cn cc] := set_self
 generalize σ.set b9 (.cells #[.int .i64 i1,.int .i64 i2,.slice aa an ac,.slice ca cn cc] 29) = ω9 at *
 have g0 := B9.get (i := 0) rfl
 rw [e0] at g0
 refine ⟨_,g0,_,rfl,br_dec.2 ⟨fun h => hno (fun f => by have := f.ints; omega) _ _ s9 (.inr rfl),fun h1 => ?_⟩⟩
 refine ⟨_,B9.get (i := 1) rfl,_,rfl,br_dec.2 ⟨fun h => hno (fun f => by have := f.bools; omega) _ _ s9 (.inr rfl),fun h2 => ?_⟩⟩
 refine ⟨_,B9.get (i := 3) rfl,_,_,_,rfl,br_dec.2 ⟨fun h => hno (fun f => by have := f.cn; omega) _ _ s9 (.inr rfl),fun h3 => ?_⟩⟩
 refine ⟨_,g0,_,rfl,br_dec.2 ⟨fun h => hno (fun f => by have := f.ints; omega) _ _ s9 (.inl rfl),fun h4 => ?_⟩⟩
 refine ⟨_,B9.get (i := 1) rfl,_,rfl,br_dec.2 ⟨fun h => hno (fun f => by have := f.bools; omega) _ _ s9 (.inl rfl),fun h5 => ?_⟩⟩
 refine ⟨_,B9.get (i := 2) rfl,_,_,_,rfl,_,B9.get (i := 1) rfl,_,rfl,br_dec.2 ⟨fun h => hno (fun f => by have := f.an; omega) _ _ s9 (.inl rfl),fun h6 => ?_⟩⟩
 refine ⟨_,B9.get (i := 2) rfl,_,_,_,rfl,?_⟩
 unfold S35_1
 refine iloopS_for (G := Unit) (fun k _ => (ptr b9,aa,an,ac,(an : Int),(k : Int))) (fun k _ υ => ω9.sub υ ∧ ∀ j d,j < k → atoms[j]? = some d → 0 ≤ d.1 ∧ d.1 < i1 ∧ 0 ≤ d.2.1 ∧ d.2.1 < i1 ∧ d.1 ≠ d.2.1 ∧ -1048576 ≤ d.2.2 ∧ d.2.2 ≤ 1048576) an ?_ (g := ()) ⟨PH.sub.refl _,fun j d h => by omega⟩
 rintro k _ υ hk ⟨hs,hall⟩ R hR
 unfold S35_2
 dsimp only
 have hsu := s9.trans hs
 refine br_dec.2 ⟨fun hlt => ?_,fun hge => ?_⟩
 · have hkn : k < an := by omega
   obtain ⟨d,hd⟩ : ∃ d,atoms[k]? = some d := ⟨_,List.getElem?_eq_getElem (by omega)⟩
   have hdm := List.mem_of_getElem? hd
   obtain ⟨p,hp,a0,a1,a2⟩ := (hA.sub hsu).2 k d hd
   refine ⟨p,hp,by omega,by omega,_,by rw [Int.toNat_natCast]; exact a0,_,by rw [Int.toNat_natCast]; exact a1,_,by rw [Int.toNat_natCast]; exact a2,_,_,_,rfl,fun b hb => ?_⟩
   have sb := PH.sub_set (o := .cells #[.int .i64 d.1,.int .i64 d.2.1,.int .i64 d.2.2] 50) hb
   simp only [newSet,newSet0,newCell,newCell0,newFroz,newFroz0,List.setIfInBounds_toArray,List.set_cons_zero,List.set_cons_succ,List.getElem?_toArray,List.getElem?_cons_zero,List.getElem?_cons_succ,Option.some.injEq,exists_eq',true_and,Value.int.injEq,exists_eq_left']
   generalize υ.set b (.cells #[.int .i64 d.1,.int .i64 d.2.1,.int .i64 d.2.2] 50) = ω at *
   have sω := hsu.trans sb
   have g0ω := (hs.trans sb).cell g0
   have wk : IntKind.wrap .i64 ((k : Int) + 1) = ((k + 1 : Nat) : Int) := by rw [w64 (by omega) (by omega)]; omega
   have no : ¬ (0 ≤ d.1 ∧ d.1 < i1 ∧ 0 ≤ d.2.1 ∧ d.2.1 < i1 ∧ d.1 ≠ d.2.1 ∧ -1048576 ≤ d.2.2 ∧ d.2.2 ≤ 1048576) → Q (.int .i64 1) ω := fun hn => hno (fun f => hn (f.at' d hdm)) ω 1 sω (.inl rfl)
   refine br_dec.2 ⟨fun h => no (by omega),fun q1 => ⟨_,g0ω,_,rfl,br_dec.2 ⟨fun h => no (by omega),fun q2 => br_dec.2 ⟨fun h => no (by omega),fun q3 => ⟨_,g0ω,_,rfl,br_dec.2 ⟨fun h => no (by omega),fun q4 => br_iff.2 ⟨fun h => no ?_,fun q5 => br_dec.2 ⟨fun h => no (by omega),fun q6 => br_dec.2 ⟨fun h => no (by omega),fun q7 => ?_⟩⟩⟩⟩⟩⟩⟩⟩⟩
   · have : d.1 = d.2.1 := by simpa using h
     omega
   · have q5 : d.1 ≠ d.2.1 := by simpa using q5
     rw [wk]
     refine hR () _ hkn ⟨hs.trans sb,fun j e hj he => ?_⟩
     by_cases ej : j = k
     · subst ej
       rw [hd] at he; cases he
       omega
     · exact hall j e (by omega) he
 · have hkn : k = an := by omega
   subst hkn
   have hat : ∀ d ∈ atoms,0 ≤ d.1 ∧ d.1 < i1 ∧ 0 ≤ d.2.1 ∧ d.2.1 < i1 ∧ d.1 ≠ d.2.1 ∧ -1048576 ≤ d.2.2 ∧ d.2.2 ≤ 1048576 := mem_of_all fun i d hi hd => hall i d (by omega) hd
   refine ⟨_,hs.cell (B9.get (i := 3) rfl),_,_,_,rfl,?_⟩
   unfold S35_3
   refine iloopS_for (G := Unit) (fun k _ => (ptr b9,ca,cn,cc,(cn : Int),(k : Int))) (fun k _ τ => υ = τ ∧ ∀ j c,j < k → clauses[j]? = some c → ∀ x ∈ c,x ≠ 0 ∧ -i2 ≤ x ∧ x ≤ i2) cn ?_ (g := ()) ⟨rfl,fun j d h => by omega⟩
   rintro k2 _ _ hk2 ⟨rfl,hall2⟩ R2 hR2
   unfold S35_4
   dsimp only
   refine br_dec.2 ⟨fun hlt => ?_,fun hge => ?_⟩
   · have hkn2 : k2 < cn := by omega
     obtain ⟨c,hc⟩ : ∃ c,clauses[k2]? = some c := ⟨_,List.getElem?_eq_getElem (by omega)⟩
     have hcm := List.mem_of_getElem? hc
     obtain ⟨p,x,m,kk,hp,hcell,hI,hmk⟩ := (hL.sub hsu).2 k2 c hc
     have hmc := hI.1
     have hcl := hlen c hcm
     have wk2 : IntKind.wrap .i64 ((k2 : Int) + 1) = ((k2 + 1 : Nat) : Int) := by rw [w64 (by omega) (by omega)]; omega
     refine ⟨p,hp,by omega,by omega,_,by rw [Int.toNat_natCast,Nat.mul_one]; exact hcell,_,_,_,rfl,?_⟩
     unfold S35_5
     refine iloopS_for (G := Unit) (fun k _ => (ptr b9,ca,cn,cc,(cn : Int),(k2 : Int),x,m,kk,(m : Int),(k : Int))) (fun k _ τ => υ = τ ∧ ∀ j y,j < k → c[j]? = some y → y ≠ 0 ∧ -i2 ≤ y ∧ y ≤ i2) m ?_ (g := ()) ⟨rfl,fun j d h => by omega⟩
     rintro k3 _ _ hk3 ⟨rfl,hall3⟩ R3 hR3
     unfold S35_6
     dsimp only
     refine br_dec.2 ⟨fun hlt3 => ?_,fun hge3 => ?_⟩
     · have hkn3 : k3 < m := by omega
       obtain ⟨y,hy⟩ : ∃ y,c[k3]? = some y := ⟨_,List.getElem?_eq_getElem (by omega)⟩
       have hym := List.mem_of_getElem? hy
       obtain ⟨p3,hp3,hc3⟩ := hI.2.at (i := k3) (v := .int .i64 y) (by simp [hy])
       have wk3 : IntKind.wrap .i64 ((k3 : Int) + 1) = ((k3 + 1 : Nat) : Int) := by rw [w64 (by omega) (by omega)]; omega
       have wi : IntKind.wrap .i64 (0 - i2) = -i2 := by rw [w64 (by omega) (by omega)]; omega
       have g1 := hs.cell (B9.get (i := 1) rfl)
       have no : ¬ (y ≠ 0 ∧ -i2 ≤ y ∧ y ≤ i2) → Q (.int .i64 1) υ := fun hn => hno (fun f => hn (f.cl c hcm y hym)) υ 1 hsu (.inl rfl)
       refine ⟨p3,hp3,by omega,by omega,_,by rw [Int.toNat_natCast,Nat.mul_one]; exact hc3,y,rfl,br_iff.2 ⟨fun h => no ?_,fun q1 => ⟨_,g1,_,rfl,br_dec.2 ⟨fun h => no (by omega),fun q2 => ⟨_,g1,_,rfl,?_⟩⟩⟩⟩⟩
       · have : y = 0 := by simpa using h
         omega
       · rw [wi]
         refine br_dec.2 ⟨fun h => no (by omega),fun q3 => ?_⟩
         have q1 : y ≠ 0 := by simpa using q1
         rw [wk3]
         refine hR3 () _ hkn3 ⟨rfl,fun j z hj hz => ?_⟩
         by_cases ej : j = k3
         · subst ej
           rw [hy] at hz; cases hz
           exact ⟨q1,by omega,by omega⟩
         · exact hall3 j z (by omega) hz
     · have hkn3 : k3 = m := by omega
       subst hkn3
       rw [wk2]
       refine hR2 () _ hkn2 ⟨rfl,fun j c' hj hc' => ?_⟩
       by_cases ej : j = k2
       · subst ej
         rw [hc] at hc'; cases hc'
         exact mem_of_all fun i y hi hy => hall3 i y (by omega) hy
       · exact hall2 j c' (by omega) hc'
   · exact hok ⟨by omega,by omega,by omega,by omega,hat,mem_of_all fun i c hi hc => hall2 i c (by omega) hc⟩ υ hsu
end Go.Proofs.Ythfnjogadngfiaa
namespace Go.Sv
def litT (bl : List Bool) (y : Int) : Prop := if 0 < y then bl.getD (y - 1).toNat false = true else bl.getD (-y - 1).toNat false = false
structure SatM (F : Fm) (bl : List Bool) (x : Nat → Int) : Prop where
 len : bl.length = F.bools
 cl : ∀ c ∈ F.clauses,∃ y ∈ c,litT bl y
 at' : ∀ (i : Nat) d,F.atoms[i]? = some d → (bl.getD i false = true ↔ x (dX d) - x (dY d) ≤ d.2.2)
 rng : ∀ v,v < F.ints → -1000000000000000 ≤ x v ∧ x v ≤ 0
theorem Tr.or {n : Nat} {value : List Int} {level : List Nat} {trail : List Int} {limits : List Nat} (h : Tr n value level trail limits) (hv : ∀ i,i < n → value[i]? ≠ some 0) {y : Int} (hy : LitN n y) : y ∈ trail ∨ -y ∈ trail := by
 obtain ⟨w,w1,w2,w3⟩ := h.lit_in hy.vr_lt (hv _ hy.vr_lt)
 have e : w * (((vr y : Nat) : Int) + 1) = y ∨ w * (((vr y : Nat) : Int) + 1) = -y := by
   obtain ⟨g1,g2⟩ := hy
   unfold vr
   rcases w2 with rfl | rfl <;> omega
 rcases e with e | e
 · rw [e] at w3; exact .inl w3
 · rw [e] at w3; exact .inr w3
theorem sat_clauses {F : Fm} {n : Nat} {st : St} (hF : FOk F) (hn : n = F.bools) (hI : Inv F n st) (hW : WI n st st.W st.trail.length) (hC : Cov F st) (hv : ∀ i,i < n → st.value[i]? ≠ some 0) : ∀ c ∈ F.clauses,∃ y ∈ c,y ∈ st.trail := by
 intro c hc
 have hl := hF.cl c hc
 rw [← hn] at hl
 have hnb := hF.bools
 cases hnm : norm c with
 | none =>
   have : ¬ Clean c := fun h => by obtain ⟨o,ho⟩ := norm_ok h; rw [hnm] at ho; cases ho
   unfold Clean at this
   have : ∃ x ∈ c,-x ∈ c := by
     apply Classical.byContradiction
     intro hne
     exact this fun x hx => ⟨(hl x hx).1,by obtain ⟨_,h2⟩ := hl x hx; unfold minInt; omega,fun h => hne ⟨x,hx,h⟩⟩
   obtain ⟨x,h1,h2⟩ := this
   rcases hI.tr.or hv (hl x h1) with h | h
   · exact ⟨x,h1,h⟩
   · exact ⟨-x,h2,h⟩
 | some l =>
   obtain ⟨_,hm,_⟩ := norm_some hnm
   rcases hC c hc l hnm with ⟨r,q1,rc,q2,q3⟩ | ⟨x,q1,q2,_⟩
   · obtain ⟨rc',q4,q5⟩ := hW.cl r q1
     rw [q2] at q4; cases q4
     obtain ⟨a,ha⟩ : ∃ a,rc.lits[0]? = some a := ⟨_,List.getElem?_eq_getElem (by omega)⟩
     obtain ⟨b,hb⟩ : ∃ b,rc.lits[1]? = some b := ⟨_,List.getElem?_eq_getElem (by omega)⟩
     have ha' := List.mem_of_getElem? ha
     have hac := (hm a).1 ((q3 a).1 ha')
     rcases hI.tr.or hv (hl a hac) with h | h
     · exact ⟨a,hac,h⟩
     · obtain ⟨h1,_⟩ := hW.ok r q1 rc q2 a b (.inl ⟨ha,hb⟩) (by rw [List.take_length]; exact h)
       exact ⟨b,(hm b).1 ((q3 b).1 (List.mem_of_getElem? hb)),h1⟩
   · subst q1
     exact ⟨x,(hm x).1 (by simp),q2⟩
theorem litT_of {n : Nat} {value : List Int} {level : List Nat} {trail : List Int} {limits : List Nat} (h : Tr n value level trail limits) {bl : List Bool} (hb : ∀ i,i < n → bl[i]? = some (decide (0 < value.getD i 0))) {y : Int} (hy : y ∈ trail) : litT bl y := by
 have hl := h.lit y hy
 have hv := h.val (vr y) hl.vr_lt
 have hbv := hb (vr y) hl.vr_lt
 rw [List.getD_eq_getElem?_getD,hv] at hbv
 obtain ⟨g1,g2⟩ := hl
 unfold Go.Sv.litT
 split
 · rename_i hp
   have e : (y - 1).toNat = vr y := by unfold vr; omega
   rw [e,List.getD_eq_getElem?_getD,hbv]
   have : ((vr y : Nat) : Int) + 1 = y := by unfold vr; omega
   simp [sg,this,hy]
 · rename_i hp
   have e : (-y - 1).toNat = vr y := by unfold vr; omega
   rw [e,List.getD_eq_getElem?_getD,hbv]
   have e2 : ((vr y : Nat) : Int) + 1 = -y := by unfold vr; omega
   have hn : -y ∉ trail := fun hm => h.anti hy hm
   have e3 : -(((vr y : Nat) : Int) + 1) = y := by omega
   simp [sg,e2,hn,hy]
theorem sat_model {F : Fm} {n : Nat} {st : St} (hF : FOk F) (hn : n = F.bools) (hI : Inv F n st) (hW : WI n st st.W st.trail.length) (hC : Cov F st) (hv : ∀ i,i < n → st.value[i]? ≠ some 0) {bl : List Bool} (hbl : bl.length = n) (hb : ∀ i,i < n → bl[i]? = some (decide (0 < st.value.getD i 0))) {x : Nat → Int} (hx : ∀ y ∈ st.trail,∀ d,bound F y = some d → x (dX d) - x (dY d) ≤ d.2.2) (hxb : ∀ v,v < F.ints → -1000000000000000 ≤ x v ∧ x v ≤ 0) : SatM F bl x := by
 refine ⟨by omega,fun c hc => ?_,fun i d hd => ?_,hxb⟩
 · obtain ⟨y,h1,h2⟩ := sat_clauses hF hn hI hW hC hv c hc
   exact ⟨y,h1,litT_of hI.tr hb h2⟩
 · have hi := (List.getElem?_eq_some_iff.1 hd).1
   have hal := hF.atoms
   have hin : i < n := by omega
   obtain ⟨w,w1,w2,w3⟩ := hI.tr.lit_in hin (hv i hin)
   have hbi : bl.getD i false = decide (0 < w) := by rw [List.getD_eq_getElem?_getD,hb i hin,List.getD_eq_getElem?_getD,w1]; rfl
   rw [hbi]
   rcases w2 with rfl | rfl
   · rw [Int.one_mul] at w3
     have := hx _ w3 d (bound_pos hd)
     simp [this]
   · rw [Int.neg_mul,Int.one_mul] at w3
     have := hx _ w3 _ (bound_neg (a := d.1) (b := d.2.1) (c := d.2.2) hd)
     have e1 : dX (d.2.1,d.1,-d.2.2 - 1) = dY d := rfl
     have e2 : dY (d.2.1,d.1,-d.2.2 - 1) = dX d := rfl
     rw [e1,e2] at this
     simp only [show ¬ ((0 : Int) < -1) from by decide,decide_false,Bool.false_eq_true,false_iff]
     dsimp only at this
     omega
end Go.Sv
namespace Go.Proofs.Ythfnjogadngfiaa
open Go.Sl Go.Sv
def StepsM (τ : PH) (a : Option Addr) (n : Nat) (ps : List PStep) : Prop :=
 ps.length = n ∧ ∀ (i : Nat) p,ps[i]? = some p → ∃ q x m c,a = some q ∧ τ.cell? (q.add (i * 6)) = some (.int .i64 p.kind) ∧ τ.cell? ((q.add (i * 6)).add 1) = some (.int .i64 p.index) ∧ τ.cell? ((q.add (i * 6)).add 2) = some (.slice x m c) ∧ Ints τ x m p.lits ∧ m ≤ c ∧
   τ.cell? ((q.add (i * 6)).add 3) = some (.int .i64 p.p) ∧ τ.cell? ((q.add (i * 6)).add 4) = some (.int .i64 p.q) ∧ τ.cell? ((q.add (i * 6)).add 5) = some (.int .i64 p.v)
theorem Sol.stepsM {σ : PH} {T : Nat → Tag} {s : Nat} {g : Low} (H : Sol σ T s g) {st : St} (A : Abs g st) : (g.F 4).n ≤ (g.F 4).c ∧ StepsM σ (g.F 4).a (g.F 4).n st.steps := by
 have hO := H.fld 4 95 6 rfl
 refine ⟨hO.1.le,⟨(H.n4 A).symm,fun i p hp => ?_⟩⟩
 obtain ⟨g',x,H',hff',A',hx,hn4,q,hq,c0,c1,c2,c3,c4,c5⟩ := copyStep ⟨g,H,rfl,A⟩ hp
 have f1 := H.field (k := 4) rfl
 have f2 := H'.field (k := 4) rfl
 rw [f1] at f2
 simp only [Option.some.injEq,Value.slice.injEq] at f2
 obtain ⟨e1,_,_⟩ := f2
 rw [e1]
 obtain ⟨k1,k2,k3,k4,k5,k6⟩ := hx
 rw [k1] at c0; rw [k2] at c1; rw [k3] at c3; rw [k4] at c4; rw [k5] at c5
 rcases k6 with ⟨l1,l2⟩ | ⟨r,y,l1,l2,l3⟩
 · rw [l1] at c2
   exact ⟨q,none,0,0,hq,c0,c1,c2,by rw [l2]; exact own_ints own_nil,Nat.le_refl _,c3,c4,c5⟩
 · have hc := (H'.rc r y l1).1
   rw [l3] at hc
   rw [l2] at c2
   exact ⟨q,y.c.a,y.c.n,y.c.c,hq,c0,c1,c2,own_ints hc,hc.le,c3,c4,c5⟩
theorem c17 {F : Fm} {σ : PH} (hF : FOk F) (h40 : F.bools ≤ 40) (hlen : ∀ c ∈ F.clauses,c.length ≤ 1000000) {aa ca : Option Addr} {an ac cn cc : Nat} (hA : Atoms σ aa an F.atoms) (hL : Lists σ ca cn F.clauses) (ha : an ≤ ac) (hcc : cn ≤ cc) {Q : Value → PH → Prop}
   (hsat : ∀ τ b X bl x,σ.sub τ → Blk τ b 4 (boolsV bl) → Blk τ X 3 (ints (tab F.ints x)) → SatM F bl x → Q (.tuple #[.agg #[.slice (some (ptr b)) F.bools F.bools,.slice (some (ptr X)) F.ints F.ints],.slice none 0 0,.bool true]) τ)
   (hunsat : ∀ τ a n c ps cs,σ.sub τ → StepsM τ a n ps → n ≤ c → stepsOf F ps = some cs → cs.getLast? = some [] → n ≤ 3500000000000 → Q (.tuple #[.agg #[.slice none 0 0,.slice none 0 0],.slice a n c,.bool false]) τ) :
   C 17 #[.agg #[.int .i64 F.ints,.int .i64 F.bools,.slice aa an ac,.slice ca cn cc]] Q σ := by
 refine go (E17_0 _ _ _ _ _ _ _ _ _ _ _) ?_
 unfold S17_0
 have e0 : ∀ b : Nat,(Addr.mk b 0 none).add 0 = ⟨b,0,none⟩ := fun b => rfl
 intro b9 h9
 have s9 := PH.sub_set (o := .cells #[.int .i64 F.ints,.int .i64 F.bools,.slice aa an ac,.slice ca cn cc] 29) h9
 have B9 : Blk (σ.set b9 (.cells #[.int .i64 F.ints,.int .i64 F.bools,.slice aa an ac,.slice ca cn cc] 29)) b9 29 [.int .i64 F.ints,.int .i64 F.bools,.slice aa an ac,.slice ca cn cc] := set_self
 generalize σ.set b9 (.cells #[.int .i64 F.ints,.int .i64 F.bools,.slice aa an ac,.slice ca cn cc] 29) = ω9 at *
 intro b10 h10
 have s10 := PH.sub_set (o := .cells #[.slice none 0 0,.slice none 0 0] 35) h10
 have B10 : Blk (ω9.set b10 (.cells #[.slice none 0 0,.slice none 0 0] 35)) b10 35 [.slice none 0 0,.slice none 0 0] := set_self
 have B9a := s10 _ _ B9
 have nb10 : σ b10 = none := new_of s9 h10
 have sω := s9.trans s10
 generalize ω9.set b10 (.cells #[.slice none 0 0,.slice none 0 0] 35) = ω at *
 clear B9 s9 s10 h10
 have B9 : Blk ω b9 29 [.int .i64 F.ints,.int .i64 F.bools,.slice aa an ac,.slice ca cn cc] := B9a
 have g0 := B9.get (i := 0) rfl
 rw [e0] at g0
 refine ⟨_,g0,_,B9.get (i := 1) rfl,_,B9.get (i := 2) rfl,_,B9.get (i := 3) rfl,_,_,_,_,_,_,_,_,rfl,?_⟩
 refine c35 (hA.sub sω) (hL.sub sω) hlen (fun _ υ hs => ?_) fun hno => absurd (fok_raw hF) hno
 have B9u : Blk υ b9 29 [.int .i64 F.ints,.int .i64 F.bools,.slice aa an ac,.slice ca cn cc] := hs _ _ B9
 have B10u : Blk υ b10 35 [.slice none 0 0,.slice none 0 0] := hs _ _ B10
 have g0u := B9u.get (i := 0) rfl
 rw [e0] at g0u
 refine ⟨υ,PH.sub.refl _,0,rfl,br_iff.2 ⟨fun h => (by cases h),fun _ => ?_⟩⟩
 refine ⟨_,g0u,_,B9u.get (i := 1) rfl,_,B9u.get (i := 2) rfl,_,B9u.get (i := 3) rfl,_,_,_,_,_,_,_,_,rfl,?_⟩
 have sσυ := sω.trans hs
 refine r36 hF rfl hlen rfl (hL.sub sσυ) fun τ T s st h1 R1 N1 => ⟨τ,PH.sub.refl _,_,rfl,?_⟩
 have hf : Frm (oth τ T) [.int .i64 F.ints,.int .i64 F.bools,.slice aa an ac,.slice ca cn cc] F := ⟨aa,an,ac,ca,cn,cc,rfl,(hA.sub sσυ).sub h1,(hL.sub sσυ).sub h1,ha,hcc⟩
 refine r37 hF rfl h40 R1 hf N1 (fun τ2 T2 st2 x D2 R2 I2 W2 C2 hv hx => ?_) fun τ2 T2 st2 cs D2 R2 hcs hlast hsn => ?_
 · have B10t : Blk τ2 b10 35 [.slice none 0 0,.slice none 0 0] := oth_sub _ _ _ _ (D2.oth _ _ (h1 _ _ B10u))
   have sub2 : σ.sub τ2 := ((sσυ.trans h1).trans D2.oth).trans (oth_sub _ _)
   refine ⟨τ2,PH.sub.refl _,_,rfl,br_iff.2 ⟨fun _ => ?_,fun h => (by cases h)⟩⟩
   refine r38 hF rfl R2 (hf.sub D2.oth) I2 hv hx fun τ3 b X x' hs3 hb0 hX0 kb kX hx' hxb' => ?_
   have B10v : Blk τ3 b10 35 [.slice none 0 0,.slice none 0 0] := hs3 _ _ B10t
   have sub3 := sub2.trans hs3
   have c0 := B10v.get (i := 0) rfl
   have f0 := B10v.froz 0
   rw [e0] at c0 f0
   have k1 := B10v.set 0 (.slice (some (ptr b)) F.bools F.bools)
   rw [e0] at k1
   have k2 := k1.set 1 (.slice (some (ptr X)) F.ints F.ints)
   have r0 := k2.get (i := 0) rfl
   rw [e0] at r0
   have st1 : Step (· = b10) τ3 (τ3.setCell (ptr b10) (.slice (some (ptr b)) F.bools F.bools)) := setCell_step.weaken fun b hb => hb
   have st2' : Step (· = b10) (τ3.setCell (ptr b10) (.slice (some (ptr b)) F.bools F.bools)) ((τ3.setCell (ptr b10) (.slice (some (ptr b)) F.bools F.bools)).setCell ((ptr b10).add 1) (.slice (some (ptr X)) F.ints F.ints)) := setCell_step.weaken fun b hb => hb.trans (add_block _ _)
   have stt := st1.trans st2'
   have nbb : b ≠ b10 := ne_new B10t hb0
   have nbX : X ≠ b10 := ne_new B10t hX0
   refine ⟨τ3,PH.sub.refl _,_,_,_,_,_,_,rfl,⟨_,c0⟩,f0,⟨_,k1.get (i := 1) rfl⟩,k1.froz 1,_,r0,_,k2.get (i := 1) rfl,?_⟩
   refine hsat _ b X _ x' (sub_step_new sub3 stt (by rintro q rfl; exact nb10)) (kb.keep stt nbb) (kX.keep stt nbX) ?_
   exact sat_model hF rfl I2 W2 C2 hv tab_len (fun i hi => tab_get hi) hx' hxb'
 · have B10t : Blk τ2 b10 35 [.slice none 0 0,.slice none 0 0] := oth_sub _ _ _ _ (D2.oth _ _ (h1 _ _ B10u))
   have to : T2 b10 = .other := by
     have h := D2.oth _ _ (h1 _ _ B10u)
     unfold oth at h
     split at h
     · assumption
     · cases h
   have sub2 : σ.sub τ2 := ((sσυ.trans h1).trans D2.oth).trans (oth_sub _ _)
   obtain ⟨g,H,hff,A⟩ := R2
   have hsb : s ≠ b10 := by
     rintro rfl
     have := H.tag
     rw [to] at this; cases this
   have c0 := B10t.get (i := 0) rfl
   have f0 := B10t.froz 0
   rw [e0] at c0 f0
   have k1 := B10t.set 0 (.slice none 0 0)
   rw [e0] at k1
   have k2 := k1.set 1 (.slice none 0 0)
   have r0 := k2.get (i := 0) rfl
   rw [e0] at r0
   have st1 : Step (· = b10) τ2 (τ2.setCell (ptr b10) (.slice none 0 0)) := setCell_step.weaken fun b hb => hb
   have st2' : Step (· = b10) (τ2.setCell (ptr b10) (.slice none 0 0)) ((τ2.setCell (ptr b10) (.slice none 0 0)).setCell ((ptr b10).add 1) (.slice none 0 0)) := setCell_step.weaken fun b hb => hb.trans (add_block _ _)
   have stt := st1.trans st2'
   have H3 := H.keep stt fun b hb e => hb (by rw [e]; exact to)
   obtain ⟨hnc,hSM⟩ := H3.stepsM A
   have hn4 := H.n4 A
   refine ⟨τ2,PH.sub.refl _,_,rfl,br_iff.2 ⟨fun h => (by cases h),fun _ => ?_⟩⟩
   refine ⟨_,rfl,_,H.field (k := 4) rfl,_,_,_,rfl,fun h => hsb (by have := h.1; rw [add_block] at this; exact this.symm),fun h => hsb (by have := h.1; rw [add_block,add_block] at this; exact this.symm),⟨_,c0⟩,f0,⟨_,k1.get (i := 1) rfl⟩,k1.froz 1,_,r0,_,k2.get (i := 1) rfl,?_⟩
   exact hunsat _ _ _ _ _ cs (sub_step_new sub2 stt (by rintro q rfl; exact nb10)) hSM hnc hcs hlast (by omega)
theorem c44 {x : Int} (hl : Lit x) (σ : PH) : C 44 #[.int .i64 x] (fun v τ => v = .int .i64 (x.natAbs : Nat) ∧ τ = σ) σ := by
 refine go (E44_0 _ _ _ _) ?_
 unfold S44_0
 obtain ⟨h1,h2⟩ := hl
 refine br_dec.2 ⟨fun hn => ⟨?_,rfl⟩,fun hn => ⟨?_,rfl⟩⟩
 · rw [w64 (by omega) (by omega)]
   congr 1; omega
 · congr 1; omega
structure Tri (σ υ : PH) (sl : Sli) (l : List Dif) (sc : Sli) (js : List Int) (sn : Sli) (ns : List Int) : Prop where
 col : Col σ υ sl l sc js
 on : Own υ 3 1 sn.a sn.n sn.c (ints ns)
 nn : ∀ p,sn.a = some p → σ p.block = none
 d1 : ∀ p q,sl.a = some p → sn.a = some q → p.block ≠ q.block
 d2 : ∀ p q,sc.a = some p → sn.a = some q → p.block ≠ q.block
theorem growNew {σ υ : PH} {sl : Sli} {o : List Int} (hs : σ.sub υ) (hO : Own υ 3 1 sl.a sl.n sl.c (ints o)) (hnew : ∀ p,sl.a = some p → σ p.block = none) (x : Int) (hn : o.length ≤ 1000000) {b : Nat} (hb : υ b = none) {R : Option Addr → Nat → Nat → PH → Prop}
   (hR : ∀ (sl' : Sli) τ,σ.sub τ → Own τ 3 1 sl'.a sl'.n sl'.c (ints (o ++ [x])) → (∀ p,sl'.a = some p → σ p.block = none) → R sl'.a sl'.n sl'.c τ) :
   iappend prog 3 (.slice sl.a sl.n sl.c) (.slice (some ⟨b,0,none⟩) 1 1) (fun v τ => ∃ (a : Option Addr) (n c : Nat),v = (.slice a n c) ∧ R a n c τ) (PH.set υ b (.cells #[(.int .i64 x)] 3)) := by
 have hon := own_len hO
 refine pushRow t3.1 t3.2.1 t3.2.2 rfl (by decide) hO hb (news := [.int .i64 x]) rfl ?_ (by omega) ?_
 · intro v hv; simp at hv; subst hv; trivial
 · intro a c τ hO' hst hnew'
   refine ⟨_,_,_,rfl,hR ⟨a,sl.n + 1,c⟩ τ (sub_step_new hs hst (by rintro q ⟨p,h1,rfl⟩; exact hnew p h1)) (by simpa [ints] using hO') fun p hp => ?_⟩
   rcases hnew' p hp with ⟨p',h1,h2⟩ | h1
   · rw [h2]; exact hnew p' h1
   · exact new_of hs h1
end Go.Proofs.Ythfnjogadngfiaa
namespace Go.Sv
theorem stepsFrom_pre {F : Fm} : ∀ {l : List PStep} {acc cs : List (List Int)},stepsFrom F acc l = some cs → cs.take acc.length = acc ∧ cs.length = acc.length + l.length ∧ ∀ (i : Nat) s,l[i]? = some s → ∃ c,cs[acc.length + i]? = some c ∧ stepClause F (cs.take (acc.length + i)) s = some c
 | [],acc,cs,h => by
   simp only [stepsFrom,Option.some.injEq] at h
   subst h
   simp
 | s :: l,acc,cs,h => by
   unfold stepsFrom at h
   split at h
   · cases h
   · rename_i c hc
     obtain ⟨h1,h2,h3⟩ := stepsFrom_pre h
     have e1 : (acc ++ [c]).length = acc.length + 1 := by simp
     rw [e1] at h1 h2 h3
     have ht : cs.take acc.length = acc := by
       have := congrArg (List.take acc.length) h1
       rw [List.take_take] at this
       simpa using this
     refine ⟨ht,by simp; omega,fun i t hi => ?_⟩
     cases i with
     | zero =>
       simp at hi; subst hi
       refine ⟨c,?_,by rw [Nat.add_zero,ht]; exact hc⟩
       have : (cs.take (acc.length + 1))[acc.length]? = some c := by rw [h1]; simp
       rw [List.getElem?_take] at this
       simpa using this
     | succ i =>
       obtain ⟨d,q1,q2⟩ := h3 i t (by simpa using hi)
       refine ⟨d,by rw [show acc.length + (i + 1) = acc.length + 1 + i from by omega]; exact q1,by rw [show acc.length + (i + 1) = acc.length + 1 + i from by omega]; exact q2⟩
theorem stepsOf_pre {F : Fm} {l : List PStep} {cs : List (List Int)} (h : stepsOf F l = some cs) : cs.length = l.length ∧ ∀ (i : Nat) s,l[i]? = some s → ∃ c,cs[i]? = some c ∧ stepClause F (cs.take i) s = some c := by
 obtain ⟨_,h2,h3⟩ := stepsFrom_pre h
 refine ⟨by simpa using h2,fun i s hs => ?_⟩
 obtain ⟨c,q1,q2⟩ := h3 i s hs
 exact ⟨c,by simpa using q1,by simpa using q2⟩
theorem bound_litN {F : Fm} (hF : FOk F) {x : Int} {d : Dif} (h : bound F x = some d) : LitN F.bools x := by
 unfold bound at h
 split at h
 · cases h
 · rename_i h0
   split at h
   · cases h
   · rename_i a b c hat
     have := (List.getElem?_eq_some_iff.1 hat).1
     have := hF.atoms
     refine ⟨h0,?_⟩
     unfold vr at *
     omega
theorem bounds_litN {F : Fm} (hF : FOk F) : ∀ {lits : List Int} {l : List Dif},bounds F lits = some l → ∀ x ∈ lits,LitN F.bools x
 | [],_,_,x,hx => by simp at hx
 | y :: t,l,h,x,hx => by
   unfold bounds at h
   split at h
   · cases h
   · rename_i d hd
     split at h
     · cases h
     · rename_i l' hl'
       rcases List.mem_cons.1 hx with rfl | hx
       · exact bound_litN hF hd
       · exact bounds_litN hF hl' x hx
theorem cyclic_litN {F : Fm} (hF : FOk F) {lits out : List Int} (h : cyclic F lits = some out) : (∀ x ∈ lits,LitN F.bools x) ∧ norm (lits.map (- ·)) = some out := by
 unfold cyclic at h
 split at h
 · cases h
 · rename_i l hb
   split at h
   · exact ⟨bounds_litN hF hb,h⟩
   · cases h
theorem resolvent_some {p q out : List Int} {v : Int} (h : resolvent p q v = some out) : norm (p.filter (· != v + 1) ++ q.filter (· != -(v + 1))) = some out := by
 unfold resolvent at h
 split at h
 · exact h
 · cases h
theorem steps_lit {F : Fm} (hF : FOk F) {l : List PStep} {cs : List (List Int)} (h : stepsOf F l = some cs) : ∀ (i : Nat) c,cs[i]? = some c → SortedA c ∧ ∀ x ∈ c,LitN F.bools x := by
 obtain ⟨hlen,hat⟩ := stepsOf_pre h
 intro i
 induction i using Nat.strongRecOn with
 | ind i ih =>
   intro c hc
   have hi := (List.getElem?_eq_some_iff.1 hc).1
   obtain ⟨s,hs⟩ : ∃ s,l[i]? = some s := ⟨_,List.getElem?_eq_getElem (by omega)⟩
   obtain ⟨c',q1,q2⟩ := hat i s hs
   rw [hc] at q1; cases q1
   have fin : ∀ {d : List Int},norm d = some c → (∀ x ∈ d,LitN F.bools x) → SortedA c ∧ ∀ x ∈ c,LitN F.bools x := fun hd hl => by
     obtain ⟨h1,h2,_⟩ := norm_some hd
     exact ⟨h1,fun x hx => hl x ((h2 x).1 hx)⟩
   unfold stepClause at q2
   split at q2
   · split at q2
     · split at q2
       · rename_i d hd
         exact fin q2 (hF.cl d (List.mem_of_getElem? hd))
       · cases q2
     · cases q2
   · split at q2
     · obtain ⟨h1,h2⟩ := cyclic_litN hF q2
       refine fin h2 fun x hx => ?_
       obtain ⟨y,hy,rfl⟩ := List.mem_map.1 hx
       exact (h1 y hy).neg
     · split at q2
       · split at q2
         · split at q2
           · rename_i a b ha hb
             rw [List.getElem?_take] at ha hb
             split at ha
             · rename_i hp
               split at hb
               · rename_i hq
                 refine fin (resolvent_some q2) fun x hx => ?_
                 rcases List.mem_append.1 hx with hx | hx
                 · exact (ih _ hp a ha).2 x (List.mem_filter.1 hx).1
                 · exact (ih _ hq b hb).2 x (List.mem_filter.1 hx).1
               · cases hb
             · cases ha
           · cases q2
         · cases q2
       · cases q2
def setV (val : List Int) (x : Int) : Option (List Int) :=
 if x = 0 ∨ x > val.length ∨ x < -(val.length : Int) then none else if val.getD (vr x) 0 = -sgn x then none else some (val.set (vr x) (sgn x))
theorem setV_len {val val' : List Int} {x : Int} (h : setV val x = some val') : val'.length = val.length := by
 unfold setV at h
 split at h
 · cases h
 · split at h
   · cases h
   · cases h; simp
def setAll : List Int → List Int → Option (List Int)
 | val,[] => some val
 | val,x :: l => match setV val x with | none => none | some v => setAll v l
def scan1 (val : List Int) (x : Int) (s : Int × Nat × Bool) : Int × Nat × Bool :=
 if valS val x > 0 then (s.1,s.2.1,true) else if valS val x = 0 ∧ x ≠ s.1 then (x,s.2.1 + 1,s.2.2) else s
def scanC (val : List Int) : List Int → Int × Nat × Bool → Int × Nat × Bool
 | [],s => s
 | x :: l,s => scanC val l (scan1 val x s)
def roundP : List (List Int) → List Int → Bool → Option (List Int × Bool)
 | [],val,ch => some (val,ch)
 | c :: cs,val,ch =>
   let s := scanC val c (0,0,false)
   if s.2.2 = true ∨ 1 < s.2.1 then roundP cs val ch else if s.2.1 = 0 then none else roundP cs ((setV val s.1).getD val) true
inductive PropR (cs : List (List Int)) : List Int → Option (List Int) → Prop
 | stop {val : List Int} : roundP cs val false = none → PropR cs val none
 | done {val val' : List Int} : roundP cs val false = some (val',false) → PropR cs val (some val')
 | go {val val' : List Int} {r : Option (List Int)} : roundP cs val false = some (val',true) → PropR cs val' r → PropR cs val r
def litsTo (val : List Int) (k : Nat) : List Int := ((List.range k).filter fun i => val.getD i 0 != 0).map fun i => val.getD i 0 * ((i : Int) + 1)
theorem litsTo_succ (val : List Int) (k : Nat) : litsTo val (k + 1) = litsTo val k ++ (if val.getD k 0 = 0 then [] else [val.getD k 0 * ((k : Int) + 1)]) := by
 unfold litsTo
 rw [List.range_succ,List.filter_append,List.map_append]
 congr 1
 by_cases h : val.getD k 0 = 0
 · rw [if_pos h,List.filter_cons_of_neg (by rw [h]; simp)]; rfl
 · rw [if_neg h,List.filter_cons_of_pos (by simpa using h)]; rfl
theorem litsTo_len (val : List Int) (k : Nat) : (litsTo val k).length ≤ k := by
 unfold litsTo
 rw [List.length_map]
 exact Nat.le_trans (List.length_filter_le _ _) (by simp)
theorem setV_small {val val' : List Int} {x : Int} (h : setV val x = some val') (hs : ∀ y ∈ val,-1 ≤ y ∧ y ≤ 1) : ∀ y ∈ val',-1 ≤ y ∧ y ≤ 1 := by
 unfold setV at h
 split at h
 · cases h
 · split at h
   · cases h
   · cases h
     intro y hy
     rcases List.mem_or_eq_of_mem_set hy with hy | rfl
     · exact hs y hy
     · unfold sgn; split <;> omega
end Go.Sv
namespace Go.Proofs.Ythfnjogadngfiaa
open Go.Sl Go.Sv
theorem c42 {σ : PH} {b15 b16 n : Nat} {val : List Int} (h16 : Blk σ b16 33 [.slice (some (ptr b15)) n n]) (h15 : Blk σ b15 3 (ints val)) (hn : val.length = n) (hn1 : n ≤ 1000000) {x : Int} {Q : Value → PH → Prop}
   (hno : setV val x = none → Q (.bool false) σ) (hok : ∀ val' τ,setV val x = some val' → Blk τ b15 3 (ints val') → Step (· = b15) σ τ → Q (.bool true) τ) :
   C 42 #[.int .i64 x,.pointer (some (ptr b16))] Q σ := by
 refine go (E42_0 _ _ _ _ _) ?_
 unfold S42_0
 have e0 : ∀ b : Nat,(Addr.mk b 0 none).add 0 = ⟨b,0,none⟩ := fun b => rfl
 have g := h16.get (i := 0) rfl
 rw [e0] at g
 have wn : IntKind.wrap .i64 (0 - (n : Int)) = -(n : Int) := by rw [w64 (by omega) (by omega)]; omega
 have no : (x = 0 ∨ x > val.length ∨ x < -(val.length : Int)) → Q (.bool false) σ := fun h => hno (by unfold setV; rw [if_pos h])
 refine br_iff.2 ⟨fun h => no (.inl (by simpa using h)),fun h0 => ⟨_,g,_,_,_,rfl,br_dec.2 ⟨fun h => no (by omega),fun hle => ⟨_,g,_,_,_,rfl,?_⟩⟩⟩⟩
 have hx0 : x ≠ 0 := by simpa using h0
 rw [wn]
 refine br_dec.2 ⟨fun h => no (by omega),fun hge => ?_⟩
 have hv : vr x < val.length := by unfold vr; omega
 have hc : σ.cell? ((ptr b15).add (vr x)) = some (.int .i64 (val.getD (vr x) 0)) := h15.get (i := vr x) (by rw [ints,List.getElem?_map,List.getElem?_eq_getElem hv,List.getD_eq_getElem?_getD,List.getElem?_eq_getElem hv]; rfl)
 have hf := h15.froz (vr x)
 have hset : ∀ w : Int,Blk (σ.setCell ((ptr b15).add (vr x)) (.int .i64 w)) b15 3 (ints (val.set (vr x) w)) ∧ Step (· = b15) σ (σ.setCell ((ptr b15).add (vr x)) (.int .i64 w)) := fun w => by
   refine ⟨?_,setCell_step.weaken fun b hb => hb.trans (add_block _ _)⟩
   have := h15.set (vr x) (.int .i64 w)
   unfold ints at this ⊢
   rwa [List.map_set]
 have hsv : setV val x = if val.getD (vr x) 0 = -sgn x then none else some (val.set (vr x) (sgn x)) := by
   unfold setV
   rw [if_neg (by omega)]
 refine br_dec.2 ⟨fun hneg => ?_,fun hpos => ?_⟩
 · have w1 : IntKind.wrap .i64 (IntKind.wrap .i64 (0 - x) - 1) = ((vr x : Nat) : Int) := by unfold vr; rw [w64 (n := 0 - x) (by omega) (by omega),w64 (by omega) (by omega)]; omega
   have w2 : IntKind.wrap .i64 (0 - (-1 : Int)) = 1 := by rw [w64 (by omega) (by omega)]; rfl
   have hs : sgn x = -1 := if_pos hneg
   rw [hs] at hsv
   rw [w1,w2]
   simp only [Int.toNat_natCast,Nat.mul_one]
   refine ⟨_,g,_,_,_,rfl,_,rfl,by omega,by omega,_,hc,_,rfl,br_iff.2 ⟨fun h => ?_,fun h => ⟨_,g,_,_,_,rfl,_,rfl,by omega,by omega,⟨_,hc⟩,hf,?_⟩⟩⟩
   · have h : val.getD (vr x) 0 = 1 := by simpa using h
     exact hno (by rw [hsv,if_pos (by omega)])
   · have h : val.getD (vr x) 0 ≠ 1 := by simpa using h
     obtain ⟨k1,k2⟩ := hset (-1)
     exact hok _ _ (by rw [hsv,if_neg (by omega)]) k1 k2
 · have w1 : IntKind.wrap .i64 (x - 1) = ((vr x : Nat) : Int) := by unfold vr; rw [w64 (by omega) (by omega)]; omega
   have w2 : IntKind.wrap .i64 (0 - (1 : Int)) = -1 := by rw [w64 (by omega) (by omega)]; rfl
   have hs : sgn x = 1 := if_neg hpos
   rw [hs] at hsv
   rw [w1,w2]
   simp only [Int.toNat_natCast,Nat.mul_one]
   refine ⟨_,g,_,_,_,rfl,_,rfl,by omega,by omega,_,hc,_,rfl,br_iff.2 ⟨fun h => ?_,fun h => ⟨_,g,_,_,_,rfl,_,rfl,by omega,by omega,⟨_,hc⟩,hf,?_⟩⟩⟩
   · have h : val.getD (vr x) 0 = -1 := by simpa using h
     exact hno (by rw [hsv,if_pos (by omega)])
   · have h : val.getD (vr x) 0 ≠ -1 := by simpa using h
     obtain ⟨k1,k2⟩ := hset 1
     exact hok _ _ (by rw [hsv,if_neg (by omega)]) k1 k2
structure PV (σ υ : PH) (ff : List Value) (b12 b15 b16 n : Nat) (val : List Int) : Prop where
 sub : σ.sub υ
 k12 : Blk υ b12 29 ff
 k16 : Blk υ b16 33 [.slice (some (ptr b15)) n n]
 k15 : Blk υ b15 3 (ints val)
 n15 : σ b15 = none
 d1 : b12 ≠ b15
 d2 : b16 ≠ b15
 len : val.length = n
 sm : ∀ y ∈ val,-1 ≤ y ∧ y ≤ 1
theorem PV.set {σ υ τ : PH} {ff : List Value} {b12 b15 b16 n : Nat} {val val' : List Int} (h : PV σ υ ff b12 b15 b16 n val) {x : Int} (hv : setV val x = some val') (k : Blk τ b15 3 (ints val')) (st : Step (· = b15) υ τ) : PV σ τ ff b12 b15 b16 n val' :=
 ⟨sub_step_new h.sub st (by rintro b rfl; exact h.n15),h.k12.keep st h.d1,h.k16.keep st h.d2,k,h.n15,h.d1,h.d2,(setV_len hv).trans h.len,setV_small hv h.sm⟩
theorem PV.lits {σ υ : PH} {ff : List Value} {b12 b15 b16 n : Nat} {val : List Int} (h : PV σ υ ff b12 b15 b16 n val) : ∀ y ∈ val,Lit y := fun y hy => by have := h.sm y hy; unfold Lit; omega
theorem scan_lit {val : List Int} {N : Nat} : ∀ {c : List Int} {s : Int × Nat × Bool},(∀ x ∈ c,LitN N x) → (s.1 = 0 ∨ LitN N s.1) → (s.2.1 = 0 ∨ LitN N s.1) → ((scanC val c s).1 = 0 ∨ LitN N (scanC val c s).1) ∧ ((scanC val c s).2.1 = 0 ∨ LitN N (scanC val c s).1)
 | [],s,_,h1,h2 => ⟨h1,h2⟩
 | x :: c,s,hc,h1,h2 => by
   unfold scanC
   refine scan_lit (fun y hy => hc y (List.mem_cons_of_mem _ hy)) ?_ ?_
   · unfold scan1
     split
     · exact h1
     · split
       · exact .inr (hc x List.mem_cons_self)
       · exact h1
   · unfold scan1
     split
     · exact h2
     · split
       · exact .inr (hc x List.mem_cons_self)
       · exact h2
theorem c25 {σ : PH} {F : Fm} (hF : FOk F) (hlen : ∀ c ∈ F.clauses,c.length ≤ 1000000) {aa ca : Option Addr} {an ac cn cc : Nat} (hL : Lists σ ca cn F.clauses) {a : Option Addr} {n c : Nat} {l : List Int} (hI : Ints σ a n l) (hll : l.length ≤ 1000000)
   {Q : Value → PH → Prop} (hno : (setAll (List.replicate F.bools 0) l = none ∨ ∃ v,setAll (List.replicate F.bools 0) l = some v ∧ PropR F.clauses v none) → ∀ τ,σ.sub τ → Q (.tuple #[.slice none 0 0,.bool false]) τ)
   (hok : ∀ v val τ (sl : Sli),setAll (List.replicate F.bools 0) l = some v → PropR F.clauses v (some val) → σ.sub τ → Own τ 3 1 sl.a sl.n sl.c (ints (litsTo val F.bools)) → (∀ p,sl.a = some p → σ p.block = none) → Q (.tuple #[sl.v,.bool true]) τ)
   (hdec : ∀ v,setAll (List.replicate F.bools 0) l = some v → ∃ r,PropR F.clauses v r) :
   C 25 #[.agg #[.int .i64 F.ints,.int .i64 F.bools,.slice aa an ac,.slice ca cn cc],.slice a n c] Q σ := by
 refine go (E25_0 _ _ _ _ _ _ _ _ _ _ _ _ _ _) ?_
 unfold S25_0
 have e0 : ∀ b : Nat,(Addr.mk b 0 none).add 0 = ⟨b,0,none⟩ := fun b => rfl
 have hnb := hF.bools
 have hln := hI.1
 have hLn := hL.1
 have hcl := hF.cn
 intro b12 h12
 have s12 := PH.sub_set (o := .cells #[.int .i64 F.ints,.int .i64 F.bools,.slice aa an ac,.slice ca cn cc] 29) h12
 have B12 : Blk (σ.set b12 (.cells #[.int .i64 F.ints,.int .i64 F.bools,.slice aa an ac,.slice ca cn cc] 29)) b12 29 [.int .i64 F.ints,.int .i64 F.bools,.slice aa an ac,.slice ca cn cc] := set_self
 generalize σ.set b12 (.cells #[.int .i64 F.ints,.int .i64 F.bools,.slice aa an ac,.slice ca cn cc] 29) = ω at *
 refine ⟨_,B12.get (i := 1) rfl,_,rfl,?_⟩
 have wif : (if (F.bools : Int) < (0 : Int) then (0 : Int) else (F.bools : Int)) = (F.bools : Int) := if_neg (by omega)
 rw [wif]
 refine ⟨by omega,by omega,by omega,by omega,fun b15 h15 b16 => ?_⟩
 simp only [Int.toNat_natCast]
 have s15 := PH.sub_set (o := .cells (zeros (.int .i64 0) F.bools) 3) h15
 have B15 : Blk (ω.set b15 (.cells (zeros (.int .i64 0) F.bools) 3)) b15 3 (ints (List.replicate F.bools 0)) := by
   have : zeros (.int .i64 0) F.bools = (ints (List.replicate F.bools 0)).toArray := by rw [zeros_one rfl,ints,List.map_replicate]
   rw [this]; exact set_self
 generalize ω.set b15 (.cells (zeros (.int .i64 0) F.bools) 3) = ω1 at *
 intro h16
 simp only [newSet,newSet0,newCell,newCell0,newFroz,newFroz0,List.setIfInBounds_toArray,List.set_cons_zero,List.set_cons_succ,List.getElem?_toArray,List.getElem?_cons_zero,List.getElem?_cons_succ,Option.some.injEq,exists_eq',true_and,exists_eq_left']
 have s16 := PH.sub_set (o := .cells #[.slice (some ⟨b15,0,none⟩) F.bools F.bools] 33) h16
 have B16 : Blk (ω1.set b16 (.cells #[.slice (some ⟨b15,0,none⟩) F.bools F.bools] 33)) b16 33 [.slice (some (ptr b15)) F.bools F.bools] := set_self
 generalize ω1.set b16 (.cells #[.slice (some ⟨b15,0,none⟩) F.bools F.bools] 33) = ω2 at *
 have P0 : PV σ ω2 [.int .i64 F.ints,.int .i64 F.bools,.slice aa an ac,.slice ca cn cc] b12 b15 b16 F.bools (List.replicate F.bools 0) :=
   ⟨(s12.trans s15).trans s16,s16 _ _ (s15 _ _ B12),B16,s16 _ _ B15,new_of s12 h15,(ne_new B12 h15).symm,ne_new B15 h16,by simp,fun y hy => by rw [List.mem_replicate] at hy; omega⟩
 unfold S25_1
 refine iloopS_for (G := List Int) (fun k val => (ptr b12,ptr b16,ptr b16,a,n,c,(n : Int),(k : Int))) (fun k val υ => PV σ υ [.int .i64 F.ints,.int .i64 F.bools,.slice aa an ac,.slice ca cn cc] b12 b15 b16 F.bools val ∧ setAll val (l.drop k) = setAll (List.replicate F.bools 0) l) n ?_ (g := List.replicate F.bools 0) ⟨P0,rfl⟩
 rintro k val υ hk ⟨P,hs⟩ R hR
 unfold S25_2
 dsimp only
 refine br_dec.2 ⟨fun hlt => ?_,fun hge => ?_⟩
 · have hkn : k < n := by omega
   obtain ⟨x,hx⟩ : ∃ x,l[k]? = some x := ⟨_,List.getElem?_eq_getElem (by omega)⟩
   obtain ⟨p,hp,hc⟩ := (hI.sub P.sub).2.at (i := k) (v := .int .i64 x) (by simp [hx])
   have wk : IntKind.wrap .i64 ((k : Int) + 1) = ((k + 1 : Nat) : Int) := by rw [w64 (by omega) (by omega)]; omega
   have hdk : l.drop k = x :: l.drop (k + 1) := by
     rw [List.drop_eq_getElem_cons (by omega)]
     congr 1
     exact (List.getElem?_eq_some_iff.1 hx).2
   rw [hdk,setAll] at hs
   refine ⟨p,hp,by omega,by omega,_,by rw [Int.toNat_natCast,Nat.mul_one]; exact hc,x,rfl,?_⟩
   refine c42 P.k16 P.k15 P.len (by omega) (fun h => ⟨υ,.refl _,_,rfl,br_iff.2 ⟨fun _ => ?_,fun h => (by cases h)⟩⟩) fun val' τ h hB hst => ⟨τ,.refl _,_,rfl,br_iff.2 ⟨fun h => (by cases h),fun _ => ?_⟩⟩
   · rw [h] at hs
     exact hno (.inl hs.symm) υ P.sub
   · rw [h] at hs
     rw [wk]
     exact hR val' τ hkn ⟨P.set h hB hst,hs⟩
 · have hkn : k = n := by omega
   subst hkn
   rw [List.drop_eq_nil_of_le (by omega),setAll] at hs
   obtain ⟨r,hr⟩ := hdec val hs.symm
   have key : ∀ (v0 : List Int),setAll (List.replicate F.bools 0) l = some v0 → ∀ (w : List Int) (r : Option (List Int)),PropR F.clauses w r → (∀ r',PropR F.clauses w r' → PropR F.clauses v0 r') → ∀ υ,PV σ υ [.int .i64 F.ints,.int .i64 F.bools,.slice aa an ac,.slice ca cn cc] b12 b15 b16 F.bools w → S25_3 C Q (ptr b12) (ptr b16) (ptr b16) true υ := by
     intro v0 hv0 w r hwr
     have step : ∀ (w : List Int) (hpr : ∀ r',PropR F.clauses w r' → PropR F.clauses v0 r'),∀ υ,PV σ υ [.int .i64 F.ints,.int .i64 F.bools,.slice aa an ac,.slice ca cn cc] b12 b15 b16 F.bools w → ∀ R3 : Addr × Addr × Addr × Bool → PH → Prop,
         (roundP F.clauses w false = none → ∀ τ,σ.sub τ → Q (.tuple #[.slice none 0 0,.bool false]) τ) → (∀ w' ch τ,roundP F.clauses w false = some (w',ch) → PV σ τ [.int .i64 F.ints,.int .i64 F.bools,.slice aa an ac,.slice ca cn cc] b12 b15 b16 F.bools w' → R3 (ptr b12,ptr b16,ptr b16,ch) τ) → S25_4 C Q R3 (ptr b12) (ptr b16) (ptr b16) true υ := by
       intro w hpr υ P R3 h1 h2
       unfold S25_4
       refine br_iff.2 ⟨fun _ => ⟨_,P.k12.get (i := 3) rfl,_,_,_,rfl,?_⟩,fun h => (by cases h)⟩
       unfold S25_5
       refine iloopS_for (G := List Int × Bool) (fun k g => (ptr b12,ptr b16,ptr b16,g.2,ca,cn,cc,(cn : Int),(k : Int))) (fun k g τ => PV σ τ [.int .i64 F.ints,.int .i64 F.bools,.slice aa an ac,.slice ca cn cc] b12 b15 b16 F.bools g.1 ∧ roundP (F.clauses.drop k) g.1 g.2 = roundP F.clauses w false) cn ?_ (g := (w,false)) ⟨P,rfl⟩
       clear P υ
       rintro k ⟨wv,ch⟩ υ hk ⟨P,hrd⟩ R5 hR5
       dsimp only at P hrd
       unfold S25_6
       dsimp only
       refine br_dec.2 ⟨fun hlt => ?_,fun hge => ?_⟩
       · have hkn : k < cn := by omega
         obtain ⟨cl,hc⟩ : ∃ c,F.clauses[k]? = some c := ⟨_,List.getElem?_eq_getElem (by omega)⟩
         have hcm := List.mem_of_getElem? hc
         have hclit := hF.cl cl hcm
         have hdk : F.clauses.drop k = cl :: F.clauses.drop (k + 1) := by
           rw [List.drop_eq_getElem_cons (by omega)]
           congr 1
           exact (List.getElem?_eq_some_iff.1 hc).2
         rw [hdk,roundP] at hrd
         obtain ⟨p,x,m,kk,hp,hcell,hIc,hmk⟩ := (hL.sub P.sub).2 k cl hc
         have hcm' := hIc.1
         have hclen := hlen cl hcm
         have wk : IntKind.wrap .i64 ((k : Int) + 1) = ((k + 1 : Nat) : Int) := by rw [w64 (by omega) (by omega)]; omega
         have g16 := P.k16.get (i := 0) rfl
         rw [e0] at g16
         have hIv : Ints υ (some (ptr b15)) F.bools wv := ⟨P.len,.inr ⟨_,rfl,fun i v hv => P.k15.get hv⟩⟩
         refine ⟨p,hp,by omega,by omega,_,by rw [Int.toNat_natCast,Nat.mul_one]; exact hcell,_,_,_,rfl,?_⟩
         unfold S25_7
         refine iloopS_for (G := Int × Nat × Bool) (fun j s => (ptr b12,ptr b16,ptr b16,ch,s.1,(s.2.1 : Int),s.2.2,ca,cn,cc,(cn : Int),(k : Int),x,m,kk,(m : Int),(j : Int))) (fun j s τ => υ = τ ∧ scanC wv (cl.drop j) s = scanC wv cl (0,0,false) ∧ s.2.1 ≤ j) m ?_ (g := (0,0,false)) ⟨rfl,rfl,Nat.le_refl _⟩
         rintro j s _ hj ⟨rfl,hsc,hsj⟩ R7 hR7
         unfold S25_8
         dsimp only
         refine br_dec.2 ⟨fun hjlt => ?_,fun hjge => ?_⟩
         · have hjn : j < m := by omega
           obtain ⟨y,hy⟩ : ∃ y,cl[j]? = some y := ⟨_,List.getElem?_eq_getElem (by omega)⟩
           have hyl := hclit y (List.mem_of_getElem? hy)
           have hdj : cl.drop j = y :: cl.drop (j + 1) := by
             rw [List.drop_eq_getElem_cons (by omega)]
             congr 1
             exact (List.getElem?_eq_some_iff.1 hy).2
           rw [hdj,scanC] at hsc
           obtain ⟨q,hq,hcq⟩ := hIc.2.at (i := j) (v := .int .i64 y) (by simp [hy])
           have wj : IntKind.wrap .i64 ((j : Int) + 1) = ((j + 1 : Nat) : Int) := by rw [w64 (by omega) (by omega)]; omega
           refine ⟨q,hq,by omega,by omega,_,by rw [Int.toNat_natCast,Nat.mul_one]; exact hcq,y,rfl,_,g16,_,_,_,rfl,(c43 (litN hyl hnb) hIv P.lits).mono hb ?_⟩
           rintro _ τ ⟨rfl,eτ⟩
           obtain rfl := eτ.symm
           refine ⟨_,.refl _,_,rfl,?_⟩
           rw [wj]
           refine br_dec.2 ⟨fun hpos => ?_,fun hnp => br_iff.2 ⟨fun hz => br_iff.2 ⟨fun hne => ?_,fun he => ?_⟩,fun hz => ?_⟩⟩
           · refine hR7 (s.1,s.2.1,true) _ hjn ⟨rfl,?_,by dsimp only; omega⟩
             rw [← hsc]; congr 1
             unfold scan1; rw [if_pos hpos]
           · have hz : Go.Sv.valS wv y = 0 := by simpa using hz
             have hne : y ≠ s.1 := by simpa using hne
             have wo : IntKind.wrap .i64 ((s.2.1 : Int) + 1) = ((s.2.1 + 1 : Nat) : Int) := by rw [w64 (by omega) (by omega)]; omega
             rw [wo]
             refine hR7 (y,s.2.1 + 1,s.2.2) _ hjn ⟨rfl,?_,by dsimp only; omega⟩
             rw [← hsc]; congr 1
             unfold scan1; rw [if_neg hnp,if_pos ⟨hz,hne⟩]
           · have he : y = s.1 := by simpa using he
             refine hR7 s _ hjn ⟨rfl,?_,by omega⟩
             rw [← hsc]; congr 1
             unfold scan1; rw [if_neg hnp,if_neg (fun h => h.2 he)]
           · have hz : Go.Sv.valS wv y ≠ 0 := by simpa using hz
             refine hR7 s _ hjn ⟨rfl,?_,by omega⟩
             rw [← hsc]; congr 1
             unfold scan1; rw [if_neg hnp,if_neg (fun h => hz h.1)]
         · have hjn : j = m := by omega
           subst hjn
           rw [List.drop_eq_nil_of_le (by omega),scanC] at hsc
           rw [← hsc] at hrd
           have hsl := scan_lit (val := wv) (N := F.bools) (c := cl) (s := (0,0,false)) hclit (.inl rfl) (.inl rfl)
           rw [← hsc] at hsl
           have hsL : Lit s.1 := by
             rcases hsl.1 with h | h
             · rw [h]; unfold Lit; omega
             · exact litN h hnb
           rw [wk]
           refine br_iff.2 ⟨fun hh => ?_,fun hh => br_dec.2 ⟨fun ho => ?_,fun ho => br_iff.2 ⟨fun hz => ?_,fun hz => ?_⟩⟩⟩
           · rw [if_pos (.inl hh)] at hrd
             exact hR5 (wv,ch) _ hkn ⟨P,hrd⟩
           · rw [if_pos (.inr (by omega))] at hrd
             exact hR5 (wv,ch) _ hkn ⟨P,hrd⟩
           · have hz : s.2.1 = 0 := by simp at hz; omega
             rw [if_neg (by simp [hh]; omega),if_pos hz] at hrd
             exact h1 hrd.symm υ P.sub
           · have hz : s.2.1 ≠ 0 := by intro h; rw [h] at hz; simp at hz
             rw [if_neg (by simp [hh]; omega),if_neg hz] at hrd
             refine c42 P.k16 P.k15 P.len (by omega) (fun h => ⟨υ,.refl _,_,rfl,?_⟩) fun val' τ h hB hst => ⟨τ,.refl _,_,rfl,?_⟩
             · rw [h] at hrd
               exact hR5 (wv,true) _ hkn ⟨P,hrd⟩
             · rw [h] at hrd
               exact hR5 (val',true) _ hkn ⟨P.set h hB hst,hrd⟩
       · have hkn : k = cn := by omega
         subst hkn
         rw [List.drop_eq_nil_of_le (by omega),roundP] at hrd
         exact h2 wv ch υ hrd.symm P
     have fin : ∀ (w' : List Int),PropR F.clauses v0 (some w') → ∀ τ,PV σ τ [.int .i64 F.ints,.int .i64 F.bools,.slice aa an ac,.slice ca cn cc] b12 b15 b16 F.bools w' → ∀ R3 : Addr × Addr × Addr × Bool → PH → Prop,S25_4 C Q R3 (ptr b12) (ptr b16) (ptr b16) false τ := by
       intro w' hpr υ P R3
       unfold S25_4
       have g16 := P.k16.get (i := 0) rfl
       rw [e0] at g16
       refine br_iff.2 ⟨fun h => (by cases h),fun _ => ⟨_,g16,_,_,_,rfl,?_⟩⟩
       unfold S25_9
       refine iloopS_for (G := Sli) (fun k sl => (sl.a,sl.n,sl.c,some (ptr b15),F.bools,F.bools,(F.bools : Int),(k : Int))) (fun k sl τ => υ.sub τ ∧ Own τ 3 1 sl.a sl.n sl.c (ints (litsTo w' k)) ∧ ∀ p,sl.a = some p → υ p.block = none) F.bools ?_ (g := ⟨none,0,0⟩) ⟨.refl _,own_nil,fun p hp => by cases hp⟩
       rintro k sl τ hk ⟨hs,hO,hnew⟩ R9 hR9
       unfold S25_10
       dsimp only at hO hnew ⊢
       refine br_dec.2 ⟨fun hlt => ?_,fun hge => ?_⟩
       · have hkn : k < F.bools := by omega
         have hkl : k < w'.length := by rw [P.len]; exact hkn
         have hc : τ.cell? ((ptr b15).add k) = some (.int .i64 (w'.getD k 0)) := hs.cell (P.k15.get (i := k) (by rw [ints,List.getElem?_map,List.getElem?_eq_getElem hkl,List.getD_eq_getElem?_getD,List.getElem?_eq_getElem hkl]; rfl))
         have hsm := P.sm (w'.getD k 0) (by rw [List.getD_eq_getElem?_getD,List.getElem?_eq_getElem hkl]; exact List.getElem_mem _)
         have hlt' := litsTo_succ w' k
         have hll' := litsTo_len w' k
         generalize w'.getD k 0 = y at *
         have wk : IntKind.wrap .i64 ((k : Int) + 1) = (k : Int) + 1 := w64 (by omega) (by omega)
         have wy : IntKind.wrap .i64 (y * ((k : Int) + 1)) = y * ((k : Int) + 1) := by
           have : y = -1 ∨ y = 0 ∨ y = 1 := by omega
           rcases this with rfl | rfl | rfl <;> rw [w64 (by omega) (by omega)]
         rw [wk,show ((k : Int) + 1) = ((k + 1 : Nat) : Int) from by omega]
         refine ⟨_,rfl,by omega,by omega,_,by rw [Int.toNat_natCast,Nat.mul_one]; exact hc,y,rfl,br_iff.2 ⟨fun hne b hbn => ?_,fun he => ?_⟩⟩
         · have hne : y ≠ 0 := by simpa using hne
           rw [if_neg hne] at hlt'
           rw [show ((k + 1 : Nat) : Int) = (k : Int) + 1 from by omega,wy]
           exact growNew hs hO hnew (y * ((k : Int) + 1)) (by omega) hbn (R := fun a n c τ => R9 (a,n,c,some (ptr b15),F.bools,F.bools,(F.bools : Int),(k : Int) + 1) τ) fun sl' τ' g1 g2 g3 => hR9 sl' τ' hkn ⟨g1,by rw [hlt']; exact g2,g3⟩
         · have he : y = 0 := by simpa using he
           rw [if_pos he,List.append_nil] at hlt'
           exact hR9 sl τ hkn ⟨hs,by rw [hlt']; exact hO,hnew⟩
       · have hkn : k = F.bools := by omega
         subst hkn
         exact hok v0 w' τ sl hv0 hpr (P.sub.trans hs) hO fun p hp => new_of P.sub (hnew p hp)
     induction hwr with
     | stop h =>
       intro hpr υ P
       unfold S25_3
       intro R3 hR3
       refine hR3 _ _ (step _ hpr υ P R3 (fun h' τ hτ => hno (.inr ⟨v0,hv0,hpr _ (.stop h')⟩) τ hτ) fun w' ch τ h' _ => ?_)
       rw [h] at h'; cases h'
     | @done w w' h =>
       intro hpr υ P
       unfold S25_3
       intro R3 hR3
       refine hR3 _ _ (step _ hpr υ P R3 (fun h' _ _ => ?_) fun w2 ch τ h' P' => ?_)
       · rw [h] at h'; cases h'
       · rw [h] at h'; cases h'
         exact hR3 _ _ (fin _ (hpr _ (.done h)) τ P' R3)
     | @go w w' r h _ ih =>
       intro hpr υ P
       unfold S25_3
       intro R3 hR3
       refine hR3 _ _ (step _ hpr υ P R3 (fun h' _ _ => ?_) fun w2 ch τ h' P' => ?_)
       · rw [h] at h'; cases h'
       · rw [h] at h'; cases h'
         exact ih (fun r' hr' => hpr r' (.go h hr')) τ P' R3 hR3
   exact key val hs.symm val r hr (fun _ h => h) υ P
end Go.Proofs.Ythfnjogadngfiaa
