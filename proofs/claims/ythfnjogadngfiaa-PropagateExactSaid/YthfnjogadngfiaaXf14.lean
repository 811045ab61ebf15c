/- A part of the proof: see the last text, YthfnjogadngfiaaXf15. -/
import Derived.Test.YthfnjogadngfiaaXf13
set_option maxRecDepth 100000
set_option linter.unusedVariables false
set_option linter.unusedSimpArgs false
namespace Go.Proofs.Ythfnjogadngfiaa
open Go.Sl Go.Sv
theorem _root_.Go.Sl.Own.obj {σ : PH} {e size : Nat} {a : Option Addr} {n c : Nat} {vs : List Value} (o : Own σ e size a n c vs) {p : Addr} (hp : a = some p) : ∃ arr,σ p.block = some (.cells arr e (0,0)) := by
 rcases o.row with ⟨rfl,_⟩ | ⟨b,arr,rfl,hb,_⟩
 · cases hp
 · cases hp; exact ⟨arr,hb⟩
theorem ne_ty {ω : PH} {b b' : Nat} {arr arr' : Array Value} {e e' : Nat} {f f' : Nat × Nat} (h : ω b = some (.cells arr e f)) (h' : ω b' = some (.cells arr' e' f')) (he : e ≠ e') : b ≠ b' := by
 rintro rfl; rw [h] at h'; cases h'; exact he rfl
structure U8s (σ : PH) (a : Option Addr) (n : Nat) (l : List Int) : Prop where
 len : l.length = n
 row : Row σ a (l.map (.int .u8))
 rng : ∀ x ∈ l,0 ≤ x ∧ x < 256
theorem U8s.sub {σ τ : PH} (h : σ.sub τ) {a : Option Addr} {n : Nat} {l : List Int} (u : U8s σ a n l) : U8s τ a n l := ⟨u.len,u.row.sub h,u.rng⟩
theorem U8s.take {σ : PH} {a : Option Addr} {n : Nat} {l : List Int} (u : U8s σ a n l) (m : Nat) : U8s σ a (min m n) (l.take m) := by
 refine ⟨by rw [List.length_take,u.len],?_,fun x hx => u.rng x (List.mem_of_mem_take hx)⟩
 rcases u.row with h | ⟨p,h1,h2⟩
 · left; rw [List.map_take,h]; simp
 · right
   refine ⟨p,h1,fun i v hv => h2 i v ?_⟩
   rw [List.map_take,List.getElem?_take] at hv
   split at hv
   · exact hv
   · cases hv
def nxk (l : List Int) (k : Nat) : Nat := if k < l.length then k + 1 else k
def nxv (l : List Int) (k : Nat) : Int := l.getD k 0
theorem nxk_le {l : List Int} {k : Nat} (h : k ≤ l.length) : nxk l k ≤ l.length := by unfold nxk; split <;> omega
theorem nxv_rng {l : List Int} (h : ∀ x ∈ l,0 ≤ x ∧ x < 256) (k : Nat) : 0 ≤ nxv l k ∧ nxv l k < 256 := by
 unfold nxv
 rw [List.getD_eq_getElem?_getD]
 cases hc : l[k]? with
 | none => exact ⟨by simp,by simp⟩
 | some v => exact h v (List.mem_of_getElem? hc)
structure Tape (φ ω : PH) (t : Nat) (s : Sli) (l : List Int) (k : Nat) : Prop where
 blk : Blk ω t 90 [s.v,.int .i64 k]
 new : φ t = none
 u8 : U8s φ s.a s.n l
 le : k ≤ l.length
theorem Tape.grow {φ φ' ω : PH} {t : Nat} {s : Sli} {l : List Int} {k : Nat} (h : Tape φ ω t s l k) (hs : φ.sub φ') (hn : φ' t = none) : Tape φ' ω t s l k := ⟨h.blk,hn,h.u8.sub hs,h.le⟩
theorem Tape.keep {M : Nat → Prop} {φ ω τ : PH} {t : Nat} {s : Sli} {l : List Int} {k : Nat} (h : Tape φ ω t s l k) (st : Step M ω τ) (hM : ¬ M t) : Tape φ τ t s l k := ⟨h.blk.keep st hM,h.new,h.u8,h.le⟩
theorem c41 {φ ω : PH} {t : Nat} {s : Sli} {l : List Int} {k : Nat} {m : Int} (h : Tape φ ω t s l k) (hs : φ.sub ω) (hl : l.length ≤ 1000000) (hm : 1 ≤ m) {Q : Value → PH → Prop}
   (hQ : ∀ τ,Step (· = t) ω τ → φ.sub τ → Tape φ τ t s l (nxk l k) → Q (.int .i64 (Int.tmod (nxv l k) m)) τ) : C 41 #[.pointer (some (ptr t)),.int .i64 m] Q ω := by
 refine go (E41_0 _ _ _ _ _) ?_
 unfold S41_0
 have e0 : ∀ b : Nat,(Addr.mk b 0 none).add 0 = ⟨b,0,none⟩ := fun b => rfl
 have hlen := h.u8.len
 have hle := h.le
 have g0 := h.blk.get (i := 0) rfl
 rw [e0] at g0
 refine ⟨_,rfl,_,h.blk.get (i := 1) rfl,_,rfl,_,rfl,_,g0,_,_,_,rfl,br_dec.2 ⟨fun hge => ?_,fun hlt => br_dec.2 ⟨fun h => by omega,fun _ => ?_⟩⟩⟩
 · have hk : ¬ k < l.length := by omega
   have e1 : nxk l k = k := if_neg hk
   have e2 : nxv l k = 0 := by unfold nxv; rw [List.getD_eq_getElem?_getD,List.getElem?_eq_none (by omega)]; rfl
   have := hQ ω (.refl _) hs (by rw [e1]; exact h)
   rw [e2,Int.zero_tmod] at this
   exact this
 · have hk : k < l.length := by omega
   have wk : IntKind.wrap .i64 ((k : Int) + 1) = ((k + 1 : Nat) : Int) := by rw [w64 (by omega) (by omega)]; omega
   have wk2 : IntKind.wrap .i64 (((k + 1 : Nat) : Int) - 1) = (k : Int) := by rw [w64 (by omega) (by omega)]; omega
   have hS : Step (· = t) ω (ω.setCell ((ptr t).add 1) (.int .i64 ((k + 1 : Nat) : Int))) := setCell_step.weaken fun b hb => hb.trans (add_block _ _)
   have hφ : φ.sub (ω.setCell ((ptr t).add 1) (.int .i64 ((k + 1 : Nat) : Int))) := sub_step_new hs hS (by rintro b rfl; exact h.new)
   have B' : Blk (ω.setCell ((ptr t).add 1) (.int .i64 ((k + 1 : Nat) : Int))) t 90 [s.v,.int .i64 ((k + 1 : Nat) : Int)] := h.blk.set 1 (.int .i64 ((k + 1 : Nat) : Int))
   have g0' := B'.get (i := 0) rfl
   rw [e0] at g0'
   have hv : l.getD k 0 = nxv l k := rfl
   obtain ⟨p,hp,hc⟩ := h.u8.row.at (i := k) (v := .int .u8 (nxv l k)) (by unfold nxv; simp [hk])
   obtain ⟨r1,r2⟩ := nxv_rng h.u8.rng k
   have wv : IntKind.wrap .i64 (nxv l k) = nxv l k := w64 (by omega) (by omega)
   refine ⟨_,rfl,_,h.blk.get (i := 1) rfl,_,rfl,ptr t,rfl,⟨_,h.blk.get (i := 1) rfl⟩,h.blk.froz 1,ptr t,rfl,?_⟩
   rw [wk]
   refine ⟨_,g0',_,_,_,rfl,ptr t,rfl,_,B'.get (i := 1) rfl,_,rfl,p,hp,?_⟩
   rw [wk2]
   refine ⟨by omega,by omega,_,by rw [Int.toNat_natCast,Nat.mul_one]; exact hφ.cell hc,_,rfl,by omega,rfl,?_⟩
   rw [wv]
   have e1 : nxk l k = k + 1 := if_pos hk
   exact hQ _ hS hφ (by rw [e1]; exact ⟨B',h.new,h.u8,by omega⟩)
structure FR (φ ω : PH) (A K : Sli) (atoms : List Dif) (cs : List (List Int)) : Prop where
 sub : φ.sub ω
 oa : Own ω 50 3 A.a A.n A.c (difV atoms)
 anew : ∀ p,A.a = some p → φ p.block = none
 ok : ∃ vs,Own ω 33 1 K.a K.n K.c vs ∧ vs.length = cs.length ∧ ∀ (i : Nat) c,cs[i]? = some c → ∃ x m k,vs[i]? = some (.slice x m k) ∧ Own φ 3 1 x m k (ints c)
 knew : ∀ p,K.a = some p → φ p.block = none
theorem FR.atoms {φ ω : PH} {A K : Sli} {atoms : List Dif} {cs : List (List Int)} (h : FR φ ω A K atoms cs) : Atoms ω A.a A.n atoms := own_atoms h.oa
theorem FR.an {φ ω : PH} {A K : Sli} {atoms : List Dif} {cs : List (List Int)} (h : FR φ ω A K atoms cs) : A.n = atoms.length := h.atoms.1.symm
theorem FR.kn {φ ω : PH} {A K : Sli} {atoms : List Dif} {cs : List (List Int)} (h : FR φ ω A K atoms cs) : K.n = cs.length := by
 obtain ⟨vs,h1,h2,_⟩ := h.ok
 have := h1.len
 omega
theorem FR.lists {φ ω : PH} {A K : Sli} {atoms : List Dif} {cs : List (List Int)} (h : FR φ ω A K atoms cs) : Lists ω K.a K.n cs := by
 obtain ⟨vs,h1,h2,h3⟩ := h.ok
 refine ⟨by have := h1.len; omega,fun i c hc => ?_⟩
 obtain ⟨x,m,k,q1,q2⟩ := h3 i c hc
 obtain ⟨p,hp,hcell⟩ := h1.get q1
 exact ⟨p,x,m,k,hp,hcell,(own_ints q2).sub h.sub,q2.le⟩
theorem FR.keep {M : Nat → Prop} {φ ω τ : PH} {A K : Sli} {atoms : List Dif} {cs : List (List Int)} (h : FR φ ω A K atoms cs) (st : Step M ω τ) (hM : ∀ b,M b → φ b = none ∧ (∀ p,A.a = some p → b ≠ p.block) ∧ (∀ p,K.a = some p → b ≠ p.block)) : FR φ τ A K atoms cs := by
 refine ⟨sub_step_new h.sub st fun b hb => (hM b hb).1,h.oa.keep st fun p hp hm => (hM _ hm).2.1 p hp rfl,h.anew,?_,h.knew⟩
 obtain ⟨vs,h1,h2⟩ := h.ok
 exact ⟨vs,h1.keep st fun p hp hm => (hM _ hm).2.2 p hp rfl,h2⟩
theorem FR.grow {φ ω τ : PH} {A K : Sli} {atoms : List Dif} {cs : List (List Int)} (h : FR φ ω A K atoms cs) (hs : ω.sub τ) : FR φ τ A K atoms cs := h.keep (M := fun _ => False) hs.step fun _ h => h.elim
structure FB (φ ω : PH) (f : Nat) (i1 i2 : Int) (A K : Sli) (atoms : List Dif) (cs : List (List Int)) : Prop extends FR φ ω A K atoms cs where
 blk : Blk ω f 29 [.int .i64 i1,.int .i64 i2,A.v,K.v]
 fnew : φ f = none
theorem FB.nA {φ ω : PH} {f : Nat} {i1 i2 : Int} {A K : Sli} {atoms : List Dif} {cs : List (List Int)} (h : FB φ ω f i1 i2 A K atoms cs) {e : Nat} {arr : Array Value} {fr : Nat × Nat} {b : Nat} (hb : ω b = some (.cells arr e fr)) (he : e ≠ 50) : ∀ p,A.a = some p → b ≠ p.block := by
 intro p hp
 obtain ⟨arr',h'⟩ := h.oa.obj hp
 exact ne_ty hb h' he
theorem FB.nK {φ ω : PH} {f : Nat} {i1 i2 : Int} {A K : Sli} {atoms : List Dif} {cs : List (List Int)} (h : FB φ ω f i1 i2 A K atoms cs) {e : Nat} {arr : Array Value} {fr : Nat × Nat} {b : Nat} (hb : ω b = some (.cells arr e fr)) (he : e ≠ 33) : ∀ p,K.a = some p → b ≠ p.block := by
 intro p hp
 obtain ⟨vs,h1,_⟩ := h.ok
 obtain ⟨arr',h'⟩ := h1.obj hp
 exact ne_ty hb h' he
theorem FB.keep {M : Nat → Prop} {φ ω τ : PH} {f : Nat} {i1 i2 : Int} {A K : Sli} {atoms : List Dif} {cs : List (List Int)} (h : FB φ ω f i1 i2 A K atoms cs) (st : Step M ω τ)
   (hM : ∀ b,M b → φ b = none ∧ b ≠ f ∧ (∀ p,A.a = some p → b ≠ p.block) ∧ (∀ p,K.a = some p → b ≠ p.block)) : FB φ τ f i1 i2 A K atoms cs :=
 ⟨h.toFR.keep st fun b hb => ⟨(hM b hb).1,(hM b hb).2.2⟩,h.blk.keep st fun hm => (hM _ hm).2.1 rfl,h.fnew⟩
theorem FB.step1 {φ ω τ : PH} {f : Nat} {i1 i2 : Int} {A K : Sli} {atoms : List Dif} {cs : List (List Int)} (h : FB φ ω f i1 i2 A K atoms cs) {t e : Nat} {vs : List Value} (hb : Blk ω t e vs) (he : e ≠ 29 ∧ e ≠ 50 ∧ e ≠ 33) (ht : φ t = none) (st : Step (· = t) ω τ) : FB φ τ f i1 i2 A K atoms cs :=
 h.keep st (by rintro b rfl; exact ⟨ht,ne_ty hb h.blk he.1,h.nA hb he.2.1,h.nK hb he.2.2⟩)
theorem FB.sub' {φ ω τ : PH} {f : Nat} {i1 i2 : Int} {A K : Sli} {atoms : List Dif} {cs : List (List Int)} (h : FB φ ω f i1 i2 A K atoms cs) (hs : ω.sub τ) : FB φ τ f i1 i2 A K atoms cs := h.keep (M := fun _ => False) hs.step fun _ h => h.elim
theorem FB.setBools {φ ω : PH} {f : Nat} {i1 i2 : Int} {A K : Sli} {atoms : List Dif} {cs : List (List Int)} (h : FB φ ω f i1 i2 A K atoms cs) (v : Int) : FB φ (ω.setCell ((ptr f).add 1) (.int .i64 v)) f i1 v A K atoms cs := by
 have st : Step (· = f) ω (ω.setCell ((ptr f).add 1) (.int .i64 v)) := setCell_step.weaken fun b hb => hb.trans (add_block _ _)
 exact ⟨h.toFR.keep st (by rintro b rfl; exact ⟨h.fnew,h.nA h.blk (by decide),h.nK h.blk (by decide)⟩),h.blk.set 1 (.int .i64 v),h.fnew⟩
theorem FB.atom' {φ ω : PH} {f : Nat} {i1 i2 : Int} {A K : Sli} {atoms : List Dif} {cs : List (List Int)} (h : FB φ ω f i1 i2 A K atoms cs) (d : Dif) (hn : atoms.length ≤ 1000000) {b : Nat} (hb : ω b = none) {R : Option Addr → Nat → Nat → PH → Prop}
   (hR : ∀ A' τ,FB φ (PH.setCell τ ((ptr f).add 2) A'.v) f i1 i2 A' K (atoms ++ [d]) cs → Step (fun q => q = f ∨ ∃ p,A.a = some p ∧ q = p.block) ω (PH.setCell τ ((ptr f).add 2) A'.v) → R A'.a A'.n A'.c τ) :
   iappend prog 50 A.v (.slice (some ⟨b,0,none⟩) 1 1) (fun v τ => ∃ (a : Option Addr) (n c : Nat),v = .slice a n c ∧ (∃ u,PH.cell? τ ((ptr f).add 2) = some u) ∧ PH.froz τ ((ptr f).add 2) = some false ∧ R a n c τ) (PH.set ω b (.cells #[.int .i64 d.1,.int .i64 d.2.1,.int .i64 d.2.2] 50)) := by
 have han := h.an
 refine pushRow t50.1 t50.2.1 t50.2.2 rfl (by decide) h.oa hb (news := dcells d) rfl ?_ (by omega) ?_
 · intro v hv; simp [dcells] at hv; rcases hv with rfl | rfl | rfl <;> trivial
 · intro a' c' τ hO hst hnew
   have Bτ := h.blk.keep hst (by rintro ⟨p,hp,e⟩; exact h.nA h.blk (by decide) p hp e)
   have st2 : Step (· = f) τ (τ.setCell ((ptr f).add 2) (.slice a' (A.n + 1) c')) := setCell_step.weaken fun b hb => hb.trans (add_block _ _)
   refine ⟨_,_,_,rfl,⟨_,Bτ.get (i := 2) rfl⟩,Bτ.froz 2,hR ⟨a',A.n + 1,c'⟩ _ ⟨⟨?_,?_,?_,?_,h.knew⟩,Bτ.set 2 _,h.fnew⟩ ((hst.weaken fun q hq => .inr hq).trans (st2.weaken fun q hq => .inl hq))⟩
   · refine sub_step_new (sub_step_new h.sub hst ?_) st2 (by rintro b rfl; exact h.fnew)
     rintro b ⟨p,hp,rfl⟩; exact h.anew p hp
   · have e : difV (atoms ++ [d]) = difV atoms ++ dcells d := by unfold difV; simp
     rw [e]
     refine hO.keep st2 fun p hp hm => ?_
     obtain ⟨arr,ha⟩ := hO.obj hp
     exact ne_ty Bτ ha (by decide) hm.symm
   · intro p hp
     rcases hnew p hp with ⟨p',g1,g2⟩ | g1
     · rw [g2]; exact h.anew p' g1
     · exact new_of h.sub g1
   · obtain ⟨vs,h1,h2⟩ := h.ok
     refine ⟨vs,(h1.keep hst ?_).keep st2 fun p hp hm => h.nK h.blk (by decide) p hp hm.symm,h2⟩
     rintro p hp ⟨q,hq,e⟩
     obtain ⟨arr,ha⟩ := h1.obj hp
     exact h.nA ha (by decide) q hq e
theorem FB.atom {φ ω : PH} {f : Nat} {i1 i2 : Int} {A K : Sli} {atoms : List Dif} {cs : List (List Int)} (h : FB φ ω f i1 i2 A K atoms cs) (d : Dif) (hn : atoms.length ≤ 1000000) {b : Nat} (hb : ω b = none) {R : PH → Prop}
   (hR : ∀ A' τ,FB φ τ f i1 i2 A' K (atoms ++ [d]) cs → Step (fun q => q = f ∨ ∃ p,A.a = some p ∧ q = p.block) ω τ → R τ) :
   iappend prog 50 A.v (.slice (some ⟨b,0,none⟩) 1 1) (fun v τ => ∃ (a : Option Addr) (n c : Nat),v = .slice a n c ∧ (∃ u,PH.cell? τ ((ptr f).add 2) = some u) ∧ PH.froz τ ((ptr f).add 2) = some false ∧ R (PH.setCell τ ((ptr f).add 2) (.slice a n c))) (PH.set ω b (.cells #[.int .i64 d.1,.int .i64 d.2.1,.int .i64 d.2.2] 50)) :=
 h.atom' d hn hb (R := fun a n c τ => R (PH.setCell τ ((ptr f).add 2) (.slice a n c))) fun A' τ => hR A' _
theorem FB.clause' {φ ω : PH} {f : Nat} {i1 i2 : Int} {A K : Sli} {atoms : List Dif} {cs : List (List Int)} (h : FB φ ω f i1 i2 A K atoms cs) {x : Option Addr} {m k : Nat} {c : List Int} (hI : Own φ 3 1 x m k (ints c)) (hn : cs.length ≤ 1000000) {b : Nat} (hb : ω b = none) {R : Option Addr → Nat → Nat → PH → Prop}
   (hR : ∀ K' τ,FB φ (PH.setCell τ ((ptr f).add 3) K'.v) f i1 i2 A K' atoms (cs ++ [c]) → Step (fun q => q = f ∨ ∃ p,K.a = some p ∧ q = p.block) ω (PH.setCell τ ((ptr f).add 3) K'.v) → R K'.a K'.n K'.c τ) :
   iappend prog 33 K.v (.slice (some ⟨b,0,none⟩) 1 1) (fun v τ => ∃ (a : Option Addr) (n c : Nat),v = .slice a n c ∧ (∃ u,PH.cell? τ ((ptr f).add 3) = some u) ∧ PH.froz τ ((ptr f).add 3) = some false ∧ R a n c τ) (PH.set ω b (.cells #[.slice x m k] 33)) := by
 have hkn := h.kn
 obtain ⟨vs,h1,h2,h3⟩ := h.ok
 refine pushRow t33.1 t33.2.1 t33.2.2 rfl (by decide) h1 hb (news := [.slice x m k]) rfl ?_ (by omega) ?_
 · intro v hv; simp at hv; subst hv; trivial
 · intro a' c' τ hO hst hnew
   have Bτ := h.blk.keep hst (by rintro ⟨p,hp,e⟩; exact h.nK h.blk (by decide) p hp e)
   have st2 : Step (· = f) τ (τ.setCell ((ptr f).add 3) (.slice a' (K.n + 1) c')) := setCell_step.weaken fun b hb => hb.trans (add_block _ _)
   refine ⟨_,_,_,rfl,⟨_,Bτ.get (i := 3) rfl⟩,Bτ.froz 3,hR ⟨a',K.n + 1,c'⟩ _ ⟨⟨?_,?_,h.anew,?_,?_⟩,Bτ.set 3 _,h.fnew⟩ ((hst.weaken fun q hq => .inr hq).trans (st2.weaken fun q hq => .inl hq))⟩
   · refine sub_step_new (sub_step_new h.sub hst ?_) st2 (by rintro b rfl; exact h.fnew)
     rintro b ⟨p,hp,rfl⟩; exact h.knew p hp
   · refine (h.oa.keep hst ?_).keep st2 fun p hp hm => h.nA h.blk (by decide) p hp hm.symm
     rintro p hp ⟨q,hq,e⟩
     obtain ⟨arr,ha⟩ := h.oa.obj hp
     exact h.nK ha (by decide) q hq e
   · refine ⟨vs ++ [.slice x m k],hO.keep st2 fun p hp hm => ?_,by simp [h2],fun i c0 hc0 => ?_⟩
     · obtain ⟨arr,ha⟩ := hO.obj hp
       exact ne_ty Bτ ha (by decide) hm.symm
     · by_cases hi : i < cs.length
       · rw [List.getElem?_append_left hi] at hc0
         obtain ⟨y,m',k',g1,g2⟩ := h3 i c0 hc0
         exact ⟨y,m',k',by rw [List.getElem?_append_left (by omega)]; exact g1,g2⟩
       · rw [List.getElem?_append_right (by omega)] at hc0
         have hi0 : i = cs.length := by have := (List.getElem?_eq_some_iff.1 hc0).1; simp at this; omega
         subst hi0
         simp at hc0
         subst hc0
         exact ⟨x,m,k,by rw [List.getElem?_append_right (by omega)]; simp [h2],hI⟩
   · intro p hp
     rcases hnew p hp with ⟨p',g1,g2⟩ | g1
     · rw [g2]; exact h.knew p' g1
     · exact new_of h.sub g1
theorem FB.clause {φ ω : PH} {f : Nat} {i1 i2 : Int} {A K : Sli} {atoms : List Dif} {cs : List (List Int)} (h : FB φ ω f i1 i2 A K atoms cs) {x : Option Addr} {m k : Nat} {c : List Int} (hI : Own φ 3 1 x m k (ints c)) (hn : cs.length ≤ 1000000) {b : Nat} (hb : ω b = none) {R : PH → Prop}
   (hR : ∀ K' τ,FB φ τ f i1 i2 A K' atoms (cs ++ [c]) → Step (fun q => q = f ∨ ∃ p,K.a = some p ∧ q = p.block) ω τ → R τ) :
   iappend prog 33 K.v (.slice (some ⟨b,0,none⟩) 1 1) (fun v τ => ∃ (a : Option Addr) (n c : Nat),v = .slice a n c ∧ (∃ u,PH.cell? τ ((ptr f).add 3) = some u) ∧ PH.froz τ ((ptr f).add 3) = some false ∧ R (PH.setCell τ ((ptr f).add 3) (.slice a n c))) (PH.set ω b (.cells #[.slice x m k] 33)) :=
 h.clause' hI hn hb (R := fun a n c τ => R (PH.setCell τ ((ptr f).add 3) (.slice a n c))) fun K' τ => hR K' _
open Classical in
theorem FB.freeze {φ ω : PH} {f : Nat} {i1 i2 : Int} {A K : Sli} {atoms : List Dif} {cs : List (List Int)} (h : FB φ ω f i1 i2 A K atoms cs) (E : Nat → Prop) (hE : ∀ b,E b → φ b = none) :
   ∃ φ' : PH,φ.sub φ' ∧ FB φ' ω f i1 i2 A K atoms cs ∧ (∀ b,E b → φ' b = none) ∧ ∀ b,b ≠ f → (∀ p,A.a = some p → b ≠ p.block) → (∀ p,K.a = some p → b ≠ p.block) → ¬ E b → φ' b = ω b := by
 obtain ⟨φ',hφ⟩ : ∃ φ' : PH,φ' = fun b => if b = f ∨ (∃ p,A.a = some p ∧ b = p.block) ∨ (∃ p,K.a = some p ∧ b = p.block) ∨ E b then none else ω b := ⟨_,rfl⟩
 have off : ∀ b,(b = f ∨ (∃ p,A.a = some p ∧ b = p.block) ∨ (∃ p,K.a = some p ∧ b = p.block) ∨ E b) → φ' b = none := fun b hb => by rw [hφ]; exact if_pos hb
 have on : ∀ b,¬ (b = f ∨ (∃ p,A.a = some p ∧ b = p.block) ∨ (∃ p,K.a = some p ∧ b = p.block) ∨ E b) → φ' b = ω b := fun b hb => by rw [hφ]; exact if_neg hb
 have s1 : φ.sub φ' := by
   intro b o ho
   rw [on b]
   · exact h.sub b o ho
   · rintro (rfl | ⟨p,hp,rfl⟩ | ⟨p,hp,rfl⟩ | he)
     · rw [h.fnew] at ho; cases ho
     · rw [h.anew p hp] at ho; cases ho
     · rw [h.knew p hp] at ho; cases ho
     · rw [hE b he] at ho; cases ho
 have s2 : φ'.sub ω := by
   intro b o ho
   by_cases hb : (b = f ∨ (∃ p,A.a = some p ∧ b = p.block) ∨ (∃ p,K.a = some p ∧ b = p.block) ∨ E b)
   · rw [off b hb] at ho; cases ho
   · rw [on b hb] at ho; exact ho
 refine ⟨φ',s1,⟨⟨s2,h.oa,fun p hp => off _ (.inr (.inl ⟨p,hp,rfl⟩)),?_,fun p hp => off _ (.inr (.inr (.inl ⟨p,hp,rfl⟩)))⟩,h.blk,off _ (.inl rfl)⟩,fun b hb => off _ (.inr (.inr (.inr hb))),fun b h1 h2 h3 h4 => on b ?_⟩
 · obtain ⟨vs,q1,q2,q3⟩ := h.ok
   refine ⟨vs,q1,q2,fun i c hc => ?_⟩
   obtain ⟨x,m,k,g1,g2⟩ := q3 i c hc
   exact ⟨x,m,k,g1,g2.keep (M := fun _ => False) s1.step fun _ _ h => h⟩
 · rintro (rfl | ⟨p,hp,rfl⟩ | ⟨p,hp,rfl⟩ | he)
   · exact h1 rfl
   · exact h2 p hp rfl
   · exact h3 p hp rfl
   · exact h4 he
theorem own_frozen {φ ω : PH} {x : Option Addr} {m k : Nat} {c : List Int} (o : Own ω 3 1 x m k (ints c)) (hφ : ∀ p,x = some p → φ p.block = ω p.block) : Own φ 3 1 x m k (ints c) := by
 refine ⟨o.len,o.le,?_⟩
 rcases o.row with g | ⟨b0,arr,g1,g2,g3⟩
 · exact .inl g
 · exact .inr ⟨b0,arr,g1,(hφ _ g1).trans g2,g3⟩
end Go.Proofs.Ythfnjogadngfiaa
namespace Go.Sv
theorem PropR.det {cs : List (List Int)} {v : List Int} {r r' : Option (List Int)} (h : PropR cs v r) (h' : PropR cs v r') : r = r' := by
 induction h with
 | stop h => cases h' with
   | stop _ => rfl
   | done k => rw [h] at k; cases k
   | go k _ => rw [h] at k; cases k
 | done h => cases h' with
   | stop k => rw [h] at k; cases k
   | done k => rw [h] at k; cases k; rfl
   | go k _ => rw [h] at k; cases k
 | go h _ ih => cases h' with
   | stop k => rw [h] at k; cases k
   | done k => rw [h] at k; cases k
   | go k k' => rw [h] at k; cases k; exact ih k'
def zs : List Int → Nat
 | [] => 0
 | x :: l => (if x = 0 then 1 else 0) + zs l
theorem zs_set : ∀ (v : List Int) (i : Nat) (w : Int),i < v.length → v.getD i 0 = 0 → w ≠ 0 → zs (v.set i w) < zs v
 | [],i,w,h,_,_ => by simp at h
 | x :: l,0,w,h,h0,hw => by
   simp at h0; subst h0
   simp [zs,hw]
 | x :: l,i + 1,w,h,h0,hw => by
   have := zs_set l i w (by simpa using h) (by simpa using h0) hw
   simp only [List.set_cons_succ,zs]
   omega
theorem sgn_ne {x : Int} : sgn x ≠ 0 := by unfold sgn; split <;> omega
theorem valS_zero {n : Nat} {v : List Int} (hl : v.length = n) {x : Int} (hx : LitN n x) (h : valS v x = 0) : v.getD (vr x) 0 = 0 := by
 rw [valS_eq hl hx] at h
 split at h <;> omega
theorem scan_open {n : Nat} {v : List Int} (hl : v.length = n) : ∀ {c : List Int} {s : Int × Nat × Bool},(∀ x ∈ c,LitN n x) → (s.2.1 = 0 ∨ (LitN n s.1 ∧ v.getD (vr s.1) 0 = 0)) → ((scanC v c s).2.1 = 0 ∨ (LitN n (scanC v c s).1 ∧ v.getD (vr (scanC v c s).1) 0 = 0))
 | [],s,_,h => h
 | x :: c,s,hc,h => by
   unfold scanC
   refine scan_open hl (fun y hy => hc y (List.mem_cons_of_mem _ hy)) ?_
   unfold scan1
   split
   · exact h
   · split
     · rename_i h0
       exact .inr ⟨hc x List.mem_cons_self,valS_zero hl (hc x List.mem_cons_self) h0.1⟩
     · exact h
theorem setV_open {n : Nat} {v : List Int} (hl : v.length = n) {x : Int} (hx : LitN n x) (h0 : v.getD (vr x) 0 = 0) : setV v x = some (v.set (vr x) (sgn x)) := by
 unfold setV
 obtain ⟨h1,h2⟩ := hx
 rw [if_neg (by omega),h0,if_neg (by have := @sgn_ne x; omega)]
theorem round_zs {n : Nat} : ∀ {cs : List (List Int)} {v v' : List Int} {ch ch' : Bool},v.length = n → (∀ c ∈ cs,∀ x ∈ c,LitN n x) → roundP cs v ch = some (v',ch') → v'.length = n ∧ zs v' ≤ zs v ∧ (ch' = true → ch = true ∨ zs v' < zs v)
 | [],v,v',ch,ch',hl,_,h => by rw [roundP] at h; cases h; exact ⟨hl,Nat.le_refl _,.inl⟩
 | c :: cs,v,v',ch,ch',hl,hc,h => by
   rw [roundP] at h
   have hso := scan_open hl (c := c) (s := (0,0,false)) (hc c List.mem_cons_self) (.inl rfl)
   split at h
   · exact round_zs hl (fun d hd => hc d (List.mem_cons_of_mem _ hd)) h
   · split at h
     · cases h
     · rename_i _ hne
       rcases hso with h1 | ⟨h1,h2⟩
       · exact absurd h1 hne
       · rw [setV_open hl h1 h2,Option.getD_some] at h
         have hlt := zs_set v (vr (scanC v c (0,0,false)).1) (sgn (scanC v c (0,0,false)).1) (by rw [hl]; exact h1.vr_lt) h2 sgn_ne
         obtain ⟨q1,q2,q3⟩ := round_zs (by simpa using hl) (fun d hd => hc d (List.mem_cons_of_mem _ hd)) h
         exact ⟨q1,by omega,fun _ => .inr (by omega)⟩
theorem PropR.total {n : Nat} {cs : List (List Int)} (hc : ∀ c ∈ cs,∀ x ∈ c,LitN n x) : ∀ {v : List Int},v.length = n → ∃ r,PropR cs v r := by
 have : ∀ (m : Nat) (v : List Int),zs v = m → v.length = n → ∃ r,PropR cs v r := by
   intro m
   induction m using Nat.strongRecOn with
   | _ m ih =>
     intro v hm hl
     cases hr : roundP cs v false with
     | none => exact ⟨none,.stop hr⟩
     | some p =>
       obtain ⟨v',ch⟩ := p
       cases ch with
       | false => exact ⟨some v',.done hr⟩
       | true =>
         obtain ⟨q1,q2,q3⟩ := round_zs hl hc hr
         rcases q3 rfl with h | h
         · cases h
         · obtain ⟨r,hr'⟩ := ih (zs v') (by omega) v' rfl q1
           exact ⟨r,.go hr hr'⟩
 exact fun {v} hl => this _ v rfl hl
theorem setAll_len : ∀ {l v v' : List Int},setAll v l = some v' → v'.length = v.length
 | [],v,v',h => by rw [setAll] at h; cases h; rfl
 | x :: l,v,v',h => by
   rw [setAll] at h
   cases hs : setV v x with
   | none => rw [hs] at h; cases h
   | some w => rw [hs] at h; rw [setAll_len h,setV_len hs]
end Go.Sv
namespace Go.Proofs.Ythfnjogadngfiaa
open Go.Sl Go.Sv
def refV (n : Nat) (val : List Int) : List Int := 0 :: (List.range n).map fun (i : Nat) => val.getD i 0 * ((i : Int) + 1)
theorem refV_len {n : Nat} {val : List Int} : (refV n val).length = n + 1 := by unfold refV; simp
theorem refV_get {n : Nat} {val : List Int} {i : Nat} (h : i < n) : (refV n val)[i + 1]? = some (val.getD i 0 * ((i : Int) + 1)) := by
 unfold refV; rw [List.getElem?_cons_succ,List.getElem?_map,List.getElem?_range h]; rfl
theorem refV_lit {n : Nat} {val : List Int} {x : Int} (hx : LitN n x) : (refV n val)[x.natAbs]? = some (val.getD (vr x) 0 * (x.natAbs : Int)) := by
 obtain ⟨h1,h2⟩ := hx
 have e : x.natAbs = vr x + 1 := by unfold vr; omega
 have := refV_get (n := n) (val := val) (i := vr x) (by unfold vr; omega)
 rw [e,this]
 congr 2
theorem refV_set {n : Nat} {val : List Int} (hl : val.length = n) {x : Int} (hx : LitN n x) : (refV n val).set x.natAbs x = refV n (val.set (vr x) (sgn x)) := by
 obtain ⟨h1,h2⟩ := hx
 have e : x.natAbs = vr x + 1 := by unfold vr; omega
 apply List.ext_getElem?
 intro i
 rw [List.getElem?_set,refV_len]
 cases i with
 | zero => rw [if_neg (by omega)]; rfl
 | succ j =>
   by_cases hj : j < n
   · rw [refV_get (val := val.set (vr x) (sgn x)) hj]
     by_cases hj2 : x.natAbs = j + 1
     · rw [if_pos hj2,if_pos (by omega)]
       have : j = vr x := by omega
       subst this
       rw [List.getD_eq_getElem?_getD,List.getElem?_set,if_pos rfl,if_pos (by omega),Option.getD_some]
       congr 1
       unfold sgn
       split <;> omega
     · rw [if_neg hj2,refV_get hj]
       rw [List.getD_eq_getElem?_getD,List.getD_eq_getElem?_getD,List.getElem?_set,if_neg (by omega)]
   · rw [if_neg (by omega),List.getElem?_eq_none (by rw [refV_len]; omega),List.getElem?_eq_none (by rw [refV_len]; omega)]
structure RV (σ υ : PH) (ff : List Value) (b12 b15 n : Nat) (val : List Int) : Prop where
 sub : σ.sub υ
 k12 : Blk υ b12 29 ff
 k15 : Blk υ b15 3 (ints (refV n val))
 n15 : σ b15 = none
 d1 : b12 ≠ b15
 len : val.length = n
 sm : ∀ y ∈ val,-1 ≤ y ∧ y ≤ 1
theorem RV.set {σ υ : PH} {ff : List Value} {b12 b15 n : Nat} {val val' : List Int} (h : RV σ υ ff b12 b15 n val) {x : Int} (hx : LitN n x) (hv : setV val x = some val') : RV σ (υ.setCell ((ptr b15).add x.natAbs) (.int .i64 x)) ff b12 b15 n val' := by
 have st : Step (· = b15) υ (υ.setCell ((ptr b15).add x.natAbs) (.int .i64 x)) := setCell_step.weaken fun b hb => hb.trans (add_block _ _)
 have e : val' = val.set (vr x) (sgn x) := by
   unfold setV at hv
   split at hv
   · cases hv
   · split at hv
     · cases hv
     · cases hv; rfl
 refine ⟨sub_step_new h.sub st (by rintro b rfl; exact h.n15),h.k12.keep st h.d1,?_,h.n15,h.d1,(setV_len hv).trans h.len,setV_small hv h.sm⟩
 have := h.k15.set x.natAbs (.int .i64 x)
 rw [e,← refV_set h.len hx]
 unfold ints at this ⊢
 rwa [List.map_set]
theorem RV.at {σ υ : PH} {ff : List Value} {b12 b15 n : Nat} {val : List Int} (h : RV σ υ ff b12 b15 n val) {x : Int} (hx : LitN n x) : υ.cell? ((ptr b15).add ((x.natAbs : Nat) : Int).toNat) = some (.int .i64 (val.getD (vr x) 0 * (x.natAbs : Int))) := by
 rw [Int.toNat_natCast]
 exact h.k15.get (by rw [ints,List.getElem?_map,refV_lit hx]; rfl)
theorem RV.one {σ υ : PH} {ff : List Value} {b12 b15 n : Nat} {val : List Int} (h : RV σ υ ff b12 b15 n val) {x : Int} (hx : LitN n x) : val.getD (vr x) 0 = -1 ∨ val.getD (vr x) 0 = 0 ∨ val.getD (vr x) 0 = 1 := by
 have hv := hx.vr_lt
 have := h.sm (val.getD (vr x) 0) (by rw [List.getD_eq_getElem?_getD,List.getElem?_eq_getElem (by rw [h.len]; exact hv)]; exact List.getElem_mem _)
 omega
theorem RV.pos {σ υ : PH} {ff : List Value} {b12 b15 n : Nat} {val : List Int} (h : RV σ υ ff b12 b15 n val) {x : Int} (hx : LitN n x) : val.getD (vr x) 0 * (x.natAbs : Int) = x ↔ valS val x > 0 := by
 rw [valS_eq h.len hx]
 have h0 := hx.1
 rcases h.one hx with e | e | e <;> rw [e] <;> split <;> omega
theorem RV.zero {σ υ : PH} {ff : List Value} {b12 b15 n : Nat} {val : List Int} (h : RV σ υ ff b12 b15 n val) {x : Int} (hx : LitN n x) : val.getD (vr x) 0 * (x.natAbs : Int) = 0 ↔ valS val x = 0 := by
 rw [valS_eq h.len hx]
 have h0 := hx.1
 rcases h.one hx with e | e | e <;> rw [e] <;> split <;> omega
theorem RV.neg {σ υ : PH} {ff : List Value} {b12 b15 n : Nat} {val : List Int} (h : RV σ υ ff b12 b15 n val) {x : Int} (hx : LitN n x) : val.getD (vr x) 0 * (x.natAbs : Int) = -x ↔ val.getD (vr x) 0 = -sgn x := by
 have h0 := hx.1
 rcases h.one hx with e | e | e <;> rw [e] <;> unfold sgn <;> split <;> omega
theorem c26 {σ : PH} {F : Fm} (hF : FOk F) (hlen : ∀ c ∈ F.clauses,c.length ≤ 1000000) {aa ca : Option Addr} {an ac cn cc : Nat} (hL : Lists σ ca cn F.clauses) {a : Option Addr} {n c : Nat} {l : List Int} (hI : Ints σ a n l) (hll : l.length ≤ 1000000)
   {Q : Value → PH → Prop} (hno : (setAll (List.replicate F.bools 0) l = none ∨ ∃ v,setAll (List.replicate F.bools 0) l = some v ∧ PropR F.clauses v none) → ∀ τ,σ.sub τ → Q (.tuple #[.slice none 0 0,.bool false]) τ)
   (hok : ∀ v val τ (sl : Sli),setAll (List.replicate F.bools 0) l = some v → PropR F.clauses v (some val) → σ.sub τ → Own τ 3 1 sl.a sl.n sl.c (ints (litsTo val F.bools)) → (∀ p,sl.a = some p → σ p.block = none) → Q (.tuple #[sl.v,.bool true]) τ) :
   C 26 #[.agg #[.int .i64 F.ints,.int .i64 F.bools,.slice aa an ac,.slice ca cn cc],.slice a n c] Q σ := by
 refine go (E26_0 _ _ _ _ _ _ _ _ _ _ _ _ _ _) ?_
 unfold S26_0
 have e0 : ∀ b : Nat,(Addr.mk b 0 none).add 0 = ⟨b,0,none⟩ := fun b => rfl
 have hnb := hF.bools
 have hln := hI.1
 have hLn := hL.1
 have hcl := hF.cn
 intro b12 h12
 have s12 := PH.sub_set (o := .cells #[.int .i64 F.ints,.int .i64 F.bools,.slice aa an ac,.slice ca cn cc] 29) h12
 have B12 : Blk (σ.set b12 (.cells #[.int .i64 F.ints,.int .i64 F.bools,.slice aa an ac,.slice ca cn cc] 29)) b12 29 [.int .i64 F.ints,.int .i64 F.bools,.slice aa an ac,.slice ca cn cc] := set_self
 generalize σ.set b12 (.cells #[.int .i64 F.ints,.int .i64 F.bools,.slice aa an ac,.slice ca cn cc] 29) = ω at *
 refine ⟨_,B12.get (i := 1) rfl,_,rfl,?_⟩
 have w1 : IntKind.wrap .i64 ((F.bools : Int) + 1) = ((F.bools + 1 : Nat) : Int) := wnat (by omega)
 rw [w1]
 refine ⟨by omega,by omega,by omega,by omega,fun b15 h15 => ?_⟩
 simp only [Int.toNat_natCast]
 have s15 := PH.sub_set (o := .cells (zeros (.int .i64 0) (F.bools + 1)) 3) h15
 have B15 : Blk (ω.set b15 (.cells (zeros (.int .i64 0) (F.bools + 1)) 3)) b15 3 (ints (refV F.bools (List.replicate F.bools 0))) := by
   have e1 : refV F.bools (List.replicate F.bools 0) = List.replicate (F.bools + 1) 0 := by
     unfold refV
     rw [List.replicate_succ]
     congr 1
     rw [List.eq_replicate_iff]
     refine ⟨by simp,fun y hy => ?_⟩
     obtain ⟨i,hi,rfl⟩ := List.mem_map.1 hy
     rw [List.getD_eq_getElem?_getD,List.getElem?_replicate]
     split <;> simp
   have : zeros (.int .i64 0) (F.bools + 1) = (ints (refV F.bools (List.replicate F.bools 0))).toArray := by rw [zeros_one rfl,ints,e1,List.map_replicate]
   rw [this]; exact set_self
 generalize ω.set b15 (.cells (zeros (.int .i64 0) (F.bools + 1)) 3) = ω1 at *
 have P0 : RV σ ω1 [.int .i64 F.ints,.int .i64 F.bools,.slice aa an ac,.slice ca cn cc] b12 b15 F.bools (List.replicate F.bools 0) :=
   ⟨s12.trans s15,s15 _ _ B12,B15,new_of s12 h15,(ne_new B12 h15).symm,by simp,fun y hy => by rw [List.mem_replicate] at hy; omega⟩
 unfold S26_1
 refine iloopS_for (G := List Int) (fun k val => (ptr b12,some (ptr b15),F.bools + 1,F.bools + 1,a,n,c,(n : Int),(k : Int))) (fun k val υ => RV σ υ [.int .i64 F.ints,.int .i64 F.bools,.slice aa an ac,.slice ca cn cc] b12 b15 F.bools val ∧ setAll val (l.drop k) = setAll (List.replicate F.bools 0) l) n ?_ (g := List.replicate F.bools 0) ⟨P0,rfl⟩
 rintro k val υ hk ⟨P,hs⟩ R hR
 unfold S26_2
 dsimp only
 refine br_dec.2 ⟨fun hlt => ?_,fun hge => ?_⟩
 · have hkn : k < n := by omega
   obtain ⟨x,hx⟩ : ∃ x,l[k]? = some x := ⟨_,List.getElem?_eq_getElem (by omega)⟩
   obtain ⟨p,hp,hc⟩ := (hI.sub P.sub).2.at (i := k) (v := .int .i64 x) (by simp [hx])
   have wk : IntKind.wrap .i64 ((k : Int) + 1) = ((k + 1 : Nat) : Int) := by rw [w64 (by omega) (by omega)]; omega
   have hdk : l.drop k = x :: l.drop (k + 1) := by
     rw [List.drop_eq_getElem_cons (by omega)]
     congr 1
     exact (List.getElem?_eq_some_iff.1 hx).2
   rw [hdk,setAll] at hs
   have hPl := P.len
   have bad : setV val x = none → Q (.tuple #[.slice none 0 0,.bool false]) υ := fun h => by
     rw [h] at hs
     exact hno (.inl hs.symm) υ P.sub
   have bad0 : (x = 0 ∨ x > val.length ∨ x < -(val.length : Int)) → Q (.tuple #[.slice none 0 0,.bool false]) υ := fun h => bad (by unfold setV; rw [if_pos h])
   have wn : IntKind.wrap .i64 (0 - (F.bools : Int)) = -(F.bools : Int) := by rw [w64 (by omega) (by omega)]; omega
   refine ⟨p,hp,by omega,by omega,_,by rw [Int.toNat_natCast,Nat.mul_one]; exact hc,x,rfl,?_⟩
   refine br_iff.2 ⟨fun h => bad0 (.inl (by simpa using h)),fun hx0 => ⟨_,P.k12.get (i := 1) rfl,_,rfl,br_dec.2 ⟨fun h => bad0 (by omega),fun hle => ⟨_,P.k12.get (i := 1) rfl,_,rfl,?_⟩⟩⟩⟩
   rw [wn]
   refine br_dec.2 ⟨fun h => bad0 (by omega),fun hge => ?_⟩
   have hx0 : x ≠ 0 := by simpa using hx0
   have hxl : LitN F.bools x := ⟨hx0,by omega⟩
   have hna : x.natAbs < F.bools + 1 := by have := hxl.2; omega
   refine (c44 (litN hxl hnb) υ).mono hb ?_
   rintro _ τ ⟨rfl,eτ⟩
   obtain rfl := eτ.symm
   refine ⟨_,.refl _,_,rfl,_,rfl,by omega,by omega,_,by rw [Nat.mul_one]; exact P.at hxl,_,rfl,?_⟩
   rw [w64 (n := 0 - x) (by omega) (by omega),wk]
   refine br_iff.2 ⟨fun h => bad ?_,fun h => ?_⟩
   · have h : val.getD (vr x) 0 * (x.natAbs : Int) = 0 - x := eq_of_beq h
     unfold setV
     rw [if_neg (by omega),if_pos ((P.neg hxl).1 (by omega))]
   · have hne : ¬ val.getD (vr x) 0 = -sgn x := fun e => by
       have := (P.neg hxl).2 e
       rw [this] at h; simp at h
     have hsv : setV val x = some (val.set (vr x) (sgn x)) := by
       unfold setV
       rw [if_neg (by omega),if_neg hne]
     refine (c44 (litN hxl hnb) υ).mono hb ?_
     rintro _ τ' ⟨rfl,eτ⟩
     obtain rfl := eτ.symm
     refine ⟨_,.refl _,_,rfl,_,rfl,by omega,by omega,?_⟩
     rw [Nat.mul_one]
     refine ⟨⟨_,P.at hxl⟩,P.k15.froz _,?_⟩
     rw [Int.toNat_natCast]
     refine hR _ _ hkn ⟨P.set hxl hsv,?_⟩
     rw [hsv] at hs
     exact hs
 · have hkn : k = n := by omega
   subst hkn
   rw [List.drop_eq_nil_of_le (by omega),setAll] at hs
   obtain ⟨r,hr⟩ := PropR.total hF.cl (v := val) P.len
   have key : ∀ (v0 : List Int),setAll (List.replicate F.bools 0) l = some v0 → ∀ (w : List Int) (r : Option (List Int)),PropR F.clauses w r → (∀ r',PropR F.clauses w r' → PropR F.clauses v0 r') → ∀ υ,RV σ υ [.int .i64 F.ints,.int .i64 F.bools,.slice aa an ac,.slice ca cn cc] b12 b15 F.bools w → S26_3 C Q (ptr b12) (some (ptr b15)) (F.bools + 1) (F.bools + 1) true υ := by
     intro v0 hv0 w r hwr
     have step : ∀ (w : List Int) (hpr : ∀ r',PropR F.clauses w r' → PropR F.clauses v0 r'),∀ υ,RV σ υ [.int .i64 F.ints,.int .i64 F.bools,.slice aa an ac,.slice ca cn cc] b12 b15 F.bools w → ∀ R3 : T26_3 → PH → Prop,
         (roundP F.clauses w false = none → ∀ τ,σ.sub τ → Q (.tuple #[.slice none 0 0,.bool false]) τ) → (∀ w' ch τ,roundP F.clauses w false = some (w',ch) → RV σ τ [.int .i64 F.ints,.int .i64 F.bools,.slice aa an ac,.slice ca cn cc] b12 b15 F.bools w' → R3 (ptr b12,some (ptr b15),F.bools + 1,F.bools + 1,ch) τ) → S26_4 C Q R3 (ptr b12) (some (ptr b15)) (F.bools + 1) (F.bools + 1) true υ := by
       intro w hpr υ P R3 h1 h2
       unfold S26_4
       refine br_iff.2 ⟨fun _ => ⟨_,P.k12.get (i := 3) rfl,_,_,_,rfl,?_⟩,fun h => (by cases h)⟩
       unfold S26_5
       refine iloopS_for (G := List Int × Bool) (fun k g => (ptr b12,some (ptr b15),F.bools + 1,F.bools + 1,g.2,ca,cn,cc,(cn : Int),(k : Int))) (fun k g τ => RV σ τ [.int .i64 F.ints,.int .i64 F.bools,.slice aa an ac,.slice ca cn cc] b12 b15 F.bools g.1 ∧ roundP (F.clauses.drop k) g.1 g.2 = roundP F.clauses w false) cn ?_ (g := (w,false)) ⟨P,rfl⟩
       clear P υ
       rintro k ⟨wv,ch⟩ υ hk ⟨P,hrd⟩ R5 hR5
       dsimp only at P hrd
       unfold S26_6
       dsimp only
       refine br_dec.2 ⟨fun hlt => ?_,fun hge => ?_⟩
       · have hkn : k < cn := by omega
         obtain ⟨cl,hc⟩ : ∃ c,F.clauses[k]? = some c := ⟨_,List.getElem?_eq_getElem (by omega)⟩
         have hcm := List.mem_of_getElem? hc
         have hclit := hF.cl cl hcm
         have hdk : F.clauses.drop k = cl :: F.clauses.drop (k + 1) := by
           rw [List.drop_eq_getElem_cons (by omega)]
           congr 1
           exact (List.getElem?_eq_some_iff.1 hc).2
         rw [hdk,roundP] at hrd
         obtain ⟨p,x,m,kk,hp,hcell,hIc,hmk⟩ := (hL.sub P.sub).2 k cl hc
         have hcm' := hIc.1
         have hclen := hlen cl hcm
         have wk : IntKind.wrap .i64 ((k : Int) + 1) = ((k + 1 : Nat) : Int) := by rw [w64 (by omega) (by omega)]; omega
         refine ⟨p,hp,by omega,by omega,_,by rw [Int.toNat_natCast,Nat.mul_one]; exact hcell,_,_,_,rfl,?_⟩
         unfold S26_7
         refine iloopS_for (G := Int × Nat × Bool) (fun j s => (ptr b12,some (ptr b15),F.bools + 1,F.bools + 1,ch,s.1,(s.2.1 : Int),s.2.2,ca,cn,cc,(cn : Int),(k : Int),x,m,kk,(m : Int),(j : Int))) (fun j s τ => υ = τ ∧ scanC wv (cl.drop j) s = scanC wv cl (0,0,false) ∧ s.2.1 ≤ j) m ?_ (g := (0,0,false)) ⟨rfl,rfl,Nat.le_refl _⟩
         rintro j s _ hj ⟨rfl,hsc,hsj⟩ R7 hR7
         unfold S26_8
         dsimp only
         refine br_dec.2 ⟨fun hjlt => ?_,fun hjge => ?_⟩
         · have hjn : j < m := by omega
           obtain ⟨y,hy⟩ : ∃ y,cl[j]? = some y := ⟨_,List.getElem?_eq_getElem (by omega)⟩
           have hyl := hclit y (List.mem_of_getElem? hy)
           have hdj : cl.drop j = y :: cl.drop (j + 1) := by
             rw [List.drop_eq_getElem_cons (by omega)]
             congr 1
             exact (List.getElem?_eq_some_iff.1 hy).2
           rw [hdj,scanC] at hsc
           obtain ⟨q,hq,hcq⟩ := hIc.2.at (i := j) (v := .int .i64 y) (by simp [hy])
           have wj : IntKind.wrap .i64 ((j : Int) + 1) = ((j + 1 : Nat) : Int) := by rw [w64 (by omega) (by omega)]; omega
           have hya : y.natAbs < F.bools + 1 := by have := hyl.2; omega
           refine ⟨q,hq,by omega,by omega,_,by rw [Int.toNat_natCast,Nat.mul_one]; exact hcq,y,rfl,(c44 (litN hyl hnb) υ).mono hb ?_⟩
           rintro _ τ ⟨rfl,eτ⟩
           obtain rfl := eτ.symm
           refine ⟨_,.refl _,_,rfl,_,rfl,by omega,by omega,_,by rw [Nat.mul_one]; exact P.at hyl,_,rfl,?_⟩
           rw [wj]
           refine br_iff.2 ⟨fun hpos => ?_,fun hnp => ?_⟩
           · have hpos := (P.pos hyl).1 (eq_of_beq hpos)
             refine hR7 (s.1,s.2.1,true) _ hjn ⟨rfl,?_,by dsimp only; omega⟩
             rw [← hsc]; congr 1
             unfold scan1; rw [if_pos hpos]
           · have hnp : ¬ Go.Sv.valS wv y > 0 := fun h => by
               have := (P.pos hyl).2 h
               rw [this] at hnp; simp at hnp
             refine (c44 (litN hyl hnb) υ).mono hb ?_
             rintro _ τ' ⟨rfl,eτ⟩
             obtain rfl := eτ.symm
             refine ⟨_,.refl _,_,rfl,_,rfl,by omega,by omega,_,by rw [Nat.mul_one]; exact P.at hyl,_,rfl,?_⟩
             refine br_iff.2 ⟨fun hz => br_iff.2 ⟨fun hne => ?_,fun he => ?_⟩,fun hz => ?_⟩
             · have hz := (P.zero hyl).1 (eq_of_beq hz)
               have hne : y ≠ s.1 := by simpa using hne
               have wo : IntKind.wrap .i64 ((s.2.1 : Int) + 1) = ((s.2.1 + 1 : Nat) : Int) := by rw [w64 (by omega) (by omega)]; omega
               rw [wo]
               refine hR7 (y,s.2.1 + 1,s.2.2) _ hjn ⟨rfl,?_,by dsimp only; omega⟩
               rw [← hsc]; congr 1
               unfold scan1; rw [if_neg hnp,if_pos ⟨hz,hne⟩]
             · have he : y = s.1 := by simpa using he
               refine hR7 s _ hjn ⟨rfl,?_,by omega⟩
               rw [← hsc]; congr 1
               unfold scan1; rw [if_neg hnp,if_neg (fun h => h.2 he)]
             · have hz : Go.Sv.valS wv y ≠ 0 := fun h => by
                 have := (P.zero hyl).2 h
                 rw [this] at hz; simp at hz
               refine hR7 s _ hjn ⟨rfl,?_,by omega⟩
               rw [← hsc]; congr 1
               unfold scan1; rw [if_neg hnp,if_neg (fun h => hz h.1)]
         · have hjn : j = m := by omega
           subst hjn
           rw [List.drop_eq_nil_of_le (by omega),scanC] at hsc
           rw [← hsc] at hrd
           have hso := scan_open P.len (c := cl) (s := (0,0,false)) hclit (.inl rfl)
           rw [← hsc] at hso
           rw [wk]
           refine br_iff.2 ⟨fun hh => ?_,fun hh => br_dec.2 ⟨fun ho => ?_,fun ho => br_iff.2 ⟨fun hz => ?_,fun hz => ?_⟩⟩⟩
           · rw [if_pos (.inl hh)] at hrd
             exact hR5 (wv,ch) _ hkn ⟨P,hrd⟩
           · rw [if_pos (.inr (by omega))] at hrd
             exact hR5 (wv,ch) _ hkn ⟨P,hrd⟩
           · have hz : s.2.1 = 0 := by simp at hz; omega
             rw [if_neg (by simp [hh]; omega),if_pos hz] at hrd
             exact h1 hrd.symm υ P.sub
           · have hz : s.2.1 ≠ 0 := by intro h; rw [h] at hz; simp at hz
             rw [if_neg (by simp [hh]; omega),if_neg hz] at hrd
             rcases hso with h | ⟨hsl,hs0⟩
             · exact absurd h hz
             have hsv := setV_open P.len hsl hs0
             have hsa : s.1.natAbs < F.bools + 1 := by have := hsl.2; omega
             refine (c44 (litN hsl hnb) υ).mono hb ?_
             rintro _ τ ⟨rfl,eτ⟩
             obtain rfl := eτ.symm
             refine ⟨_,.refl _,_,rfl,_,rfl,by omega,by omega,?_⟩
             rw [Nat.mul_one]
             refine ⟨⟨_,P.at hsl⟩,P.k15.froz _,?_⟩
             rw [Int.toNat_natCast]
             rw [hsv,Option.getD_some] at hrd
             exact hR5 (_,true) _ hkn ⟨P.set hsl hsv,hrd⟩
       · have hkn : k = cn := by omega
         subst hkn
         rw [List.drop_eq_nil_of_le (by omega),roundP] at hrd
         exact h2 wv ch υ hrd.symm P
     have fin : ∀ (w' : List Int),PropR F.clauses v0 (some w') → ∀ τ,RV σ τ [.int .i64 F.ints,.int .i64 F.bools,.slice aa an ac,.slice ca cn cc] b12 b15 F.bools w' → ∀ R3 : T26_3 → PH → Prop,S26_4 C Q R3 (ptr b12) (some (ptr b15)) (F.bools + 1) (F.bools + 1) false τ := by
       intro w' hpr υ P R3
       unfold S26_4
       refine br_iff.2 ⟨fun h => (by cases h),fun _ => ?_⟩
       unfold S26_9
       refine iloopS_for (G := Sli) (fun k sl => (sl.a,sl.n,sl.c,some (ptr b15),F.bools + 1,F.bools + 1,((F.bools + 1 : Nat) : Int),(k : Int))) (fun k sl τ => υ.sub τ ∧ Own τ 3 1 sl.a sl.n sl.c (ints (litsTo w' (k - 1))) ∧ ∀ p,sl.a = some p → υ p.block = none) (F.bools + 1) ?_ (g := ⟨none,0,0⟩) ⟨.refl _,own_nil,fun p hp => by cases hp⟩
       rintro k sl τ hk ⟨hs,hO,hnew⟩ R9 hR9
       unfold S26_10
       dsimp only at hO hnew ⊢
       refine br_dec.2 ⟨fun hlt => ?_,fun hge => ?_⟩
       · have hkn : k < F.bools + 1 := by omega
         have wk : IntKind.wrap .i64 ((k : Int) + 1) = ((k + 1 : Nat) : Int) := wnat (by omega)
         rw [wk]
         cases k with
         | zero =>
           have hc : τ.cell? ((ptr b15).add 0) = some (.int .i64 0) := hs.cell (P.k15.get (i := 0) rfl)
           refine ⟨_,rfl,by omega,by omega,_,hc,_,rfl,br_iff.2 ⟨fun h => by simp at h,fun _ => hR9 sl τ hkn ⟨hs,hO,hnew⟩⟩⟩
         | succ i =>
           have hin : i < F.bools := by omega
           have hkl : i < w'.length := by rw [P.len]; exact hin
           have hc : τ.cell? ((ptr b15).add (i + 1)) = some (.int .i64 (w'.getD i 0 * ((i : Int) + 1))) := hs.cell (P.k15.get (i := i + 1) (by rw [ints,List.getElem?_map,refV_get hin]; rfl))
           have hsm := P.sm (w'.getD i 0) (by rw [List.getD_eq_getElem?_getD,List.getElem?_eq_getElem hkl]; exact List.getElem_mem _)
           have hlt' := litsTo_succ w' i
           have hll' := litsTo_len w' i
           rw [show i + 1 - 1 = i from rfl] at hO
           generalize w'.getD i 0 = y at *
           refine ⟨_,rfl,by omega,by omega,_,by rw [Int.toNat_natCast,Nat.mul_one]; exact hc,_,rfl,br_iff.2 ⟨fun hne b hbn => ?_,fun he => ?_⟩⟩
           · have hne : y ≠ 0 := by
               rintro rfl; simp at hne
             rw [if_neg hne] at hlt'
             exact growNew hs hO hnew (y * ((i : Int) + 1)) (by omega) hbn (R := fun a n c τ => R9 (a,n,c,some (ptr b15),F.bools + 1,F.bools + 1,((F.bools + 1 : Nat) : Int),((i + 1 + 1 : Nat) : Int)) τ) fun sl' τ' g1 g2 g3 => hR9 sl' τ' hkn ⟨g1,by rw [show i + 1 + 1 - 1 = i + 1 from rfl,hlt']; exact g2,g3⟩
           · have he : y = 0 := by
               have : y * ((i : Int) + 1) = 0 := by simpa using he
               rcases Int.mul_eq_zero.1 this with h | h <;> omega
             rw [if_pos he,List.append_nil] at hlt'
             exact hR9 sl τ hkn ⟨hs,by rw [show i + 1 + 1 - 1 = i + 1 from rfl,hlt']; exact hO,hnew⟩
       · have hkn : k = F.bools + 1 := by omega
         subst hkn
         exact hok v0 w' τ sl hv0 hpr (P.sub.trans hs) hO fun p hp => new_of P.sub (hnew p hp)
     induction hwr with
     | stop h =>
       intro hpr υ P
       unfold S26_3
       intro R3 hR3
       refine hR3 _ _ (step _ hpr υ P R3 (fun h' τ hτ => hno (.inr ⟨v0,hv0,hpr _ (.stop h')⟩) τ hτ) fun w' ch τ h' _ => ?_)
       rw [h] at h'; cases h'
     | @done w w' h =>
       intro hpr υ P
       unfold S26_3
       intro R3 hR3
       refine hR3 _ _ (step _ hpr υ P R3 (fun h' _ _ => ?_) fun w2 ch τ h' P' => ?_)
       · rw [h] at h'; cases h'
       · rw [h] at h'; cases h'
         exact hR3 _ _ (fin _ (hpr _ (.done h)) τ P' R3)
     | @go w w' r h _ ih =>
       intro hpr υ P
       unfold S26_3
       intro R3 hR3
       refine hR3 _ _ (step _ hpr υ P R3 (fun h' _ _ => ?_) fun w2 ch τ h' P' => ?_)
       · rw [h] at h'; cases h'
       · rw [h] at h'; cases h'
         exact ih (fun r' hr' => hpr r' (.go h hr')) τ P' R3 hR3
   exact key val hs.symm val r hr (fun _ h => h) υ P
end Go.Proofs.Ythfnjogadngfiaa
namespace Go.Sv
theorem litT_neg {bl : List Bool} {y : Int} (hy : y ≠ 0) : litT bl (-y) ↔ ¬ litT bl y := by
 unfold litT
 by_cases h : 0 < y
 · rw [if_pos h,if_neg (by omega),Int.neg_neg]; simp
 · rw [if_neg h,if_pos (by omega)]; simp
theorem bound_sat {F : Fm} {bl : List Bool} {x : Nat → Int} (hM : SatM F bl x) {y : Int} {d : Dif} (hb : bound F y = some d) (hy : litT bl y) : x (dX d) - x (dY d) ≤ d.2.2 := by
 unfold bound at hb
 split at hb
 · cases hb
 · rename_i h0
   split at hb
   · cases hb
   · rename_i a b c hat
     have := hM.at' _ _ hat
     split at hb
     · rename_i hp
       cases hb
       unfold litT at hy
       rw [if_pos hp,show (y - 1).toNat = vr y from by unfold vr; omega] at hy
       exact this.1 hy
     · rename_i hp
       cases hb
       unfold litT at hy
       rw [if_neg hp,show (-y - 1).toNat = vr y from by unfold vr; omega] at hy
       have hn : ¬ (x (dX (a,b,c)) - x (dY (a,b,c)) ≤ c) := fun h => by
         have := this.2 h
         rw [hy] at this; cases this
       have e1 : dX (b,a,-c - 1) = dY (a,b,c) := rfl
       have e2 : dY (b,a,-c - 1) = dX (a,b,c) := rfl
       rw [e1,e2]
       show _ ≤ -c - 1
       omega
theorem sound {F : Fm} (hF : FOk F) {bl : List Bool} {x : Nat → Int} (hM : SatM F bl x) {l : List PStep} {cs : List (List Int)} (h : stepsOf F l = some cs) : ∀ (i : Nat) c,cs[i]? = some c → ∃ y ∈ c,litT bl y := by
 obtain ⟨hlen,hat⟩ := stepsOf_pre h
 have hlit := steps_lit hF h
 intro i
 induction i using Nat.strongRecOn with
 | ind i ih =>
   intro c hc
   have hi := (List.getElem?_eq_some_iff.1 hc).1
   obtain ⟨s,hs⟩ : ∃ s,l[i]? = some s := ⟨_,List.getElem?_eq_getElem (by omega)⟩
   obtain ⟨c',q1,q2⟩ := hat i s hs
   rw [hc] at q1; cases q1
   have fin : ∀ {d : List Int},norm d = some c → (∃ y ∈ d,litT bl y) → ∃ y ∈ c,litT bl y := fun hd ⟨y,h1,h2⟩ => by
     obtain ⟨_,hm,_⟩ := norm_some hd
     exact ⟨y,(hm y).2 h1,h2⟩
   unfold stepClause at q2
   split at q2
   · split at q2
     · split at q2
       · rename_i d hd
         exact fin q2 (hM.cl d (List.mem_of_getElem? hd))
       · cases q2
     · cases q2
   · split at q2
     · obtain ⟨h1,h2⟩ := cyclic_litN hF q2
       refine fin h2 ?_
       apply Classical.byContradiction
       intro hne
       have hall : ∀ y ∈ s.lits,litT bl y := by
         intro y hy
         apply Classical.byContradiction
         intro hny
         exact hne ⟨-y,List.mem_map.2 ⟨y,hy,rfl⟩,(litT_neg (h1 y hy).1).2 hny⟩
       unfold cyclic at q2
       split at q2
       · cases q2
       · rename_i lb hb
         split at q2
         · rename_i hr
           refine ring_false (x := x) hr.1 fun d hd => ?_
           obtain ⟨y,hy1,hy2⟩ := bounds_mem hb d hd
           exact bound_sat hM hy2 (hall y hy1)
         · cases q2
     · split at q2
       · split at q2
         · split at q2
           · rename_i a b ha hb
             rw [List.getElem?_take] at ha hb
             split at ha
             · rename_i hp
               split at hb
               · rename_i hq
                 refine fin (resolvent_some q2) ?_
                 obtain ⟨y,y1,y2⟩ := ih _ hp a ha
                 obtain ⟨z,z1,z2⟩ := ih _ hq b hb
                 by_cases hy : y = s.v + 1
                 · have hz : z ≠ -(s.v + 1) := by
                     intro hz
                     rw [hz] at z2
                     rw [hy] at y2
                     have h0 : s.v + 1 ≠ 0 := by
                       have := ((hlit _ a ha).2 y y1).1
                       omega
                     exact (litT_neg h0).1 z2 y2
                   exact ⟨z,List.mem_append_right _ (List.mem_filter.2 ⟨z1,by simpa using hz⟩),z2⟩
                 · exact ⟨y,List.mem_append_left _ (List.mem_filter.2 ⟨y1,by simpa using hy⟩),y2⟩
               · cases hb
             · cases ha
           · cases q2
         · cases q2
       · cases q2
theorem sound_no {F : Fm} (hF : FOk F) {bl : List Bool} {x : Nat → Int} (hM : SatM F bl x) {l : List PStep} {cs : List (List Int)} (h : stepsOf F l = some cs) (hl : cs.getLast? = some []) : False := by
 rw [List.getLast?_eq_getElem?] at hl
 obtain ⟨y,hy,_⟩ := sound hF hM h _ _ hl
 simp at hy
end Go.Sv
namespace Go.Proofs.Ythfnjogadngfiaa
open Go.Sl Go.Sv
def aw1 : Fm := ⟨0,3,[],[[-1,2],[-2,3]]⟩
def aw2 : Fm := ⟨2,2,[(0,1,-1),(1,0,-1)],[[1],[2]]⟩
def aw3 : Fm := ⟨2,2,[(0,1,-1),(1,0,-1)],[[1]]⟩
theorem aw1_ok : FOk aw1 := by
 refine ⟨by decide,by decide,by decide,by decide,?_,by decide⟩
 unfold LitN; decide
theorem aw2_ok : FOk aw2 := by
 refine ⟨by decide,by decide,by decide,by decide,?_,by decide⟩
 unfold LitN; decide
theorem aw3_ok : FOk aw3 := by
 refine ⟨by decide,by decide,by decide,by decide,?_,by decide⟩
 unfold LitN; decide
theorem aw_r1 : roundP aw1.clauses [1,0,0] false = some ([1,1,1],true) := by decide
theorem aw_r2 : roundP aw1.clauses [1,1,1] false = some ([1,1,1],false) := by decide
theorem aw_prop : ∀ {r},PropR aw1.clauses [1,0,0] r → r = some [1,1,1] := by
 have h2 : ∀ {r},PropR aw1.clauses [1,1,1] r → r = some [1,1,1] := by
   intro r h
   cases h with
   | stop h => rw [aw_r2] at h; cases h
   | done h => rw [aw_r2] at h; cases h; rfl
   | go h _ => rw [aw_r2] at h; cases h
 intro r h
 cases h with
 | stop h => rw [aw_r1] at h; cases h
 | done h => rw [aw_r1] at h; cases h
 | go h hr => rw [aw_r1] at h; cases h; exact h2 hr
theorem aw2_no {bl : List Bool} {x : Nat → Int} (h : SatM aw2 bl x) : False := by
 obtain ⟨y,hy,h1⟩ := h.cl [1] (by decide)
 obtain ⟨z,hz,h2⟩ := h.cl [2] (by decide)
 simp at hy hz
 subst hy; subst hz
 have a0 := (h.at' 0 (0,1,-1) rfl).1 (by unfold litT at h1; simpa using h1)
 have a1 := (h.at' 1 (1,0,-1) rfl).1 (by unfold litT at h2; simpa using h2)
 have e0 : dX (0,1,-1) = 0 := rfl
 have e1 : dY (0,1,-1) = 1 := rfl
 have e2 : dX (1,0,-1) = 1 := rfl
 have e3 : dY (1,0,-1) = 0 := rfl
 rw [e0,e1] at a0
 rw [e2,e3] at a1
 dsimp only at a0 a1
 omega
theorem aw3_sat : SatM aw3 [true,false] (fun v => if v = 0 then -1 else 0) := by
 refine ⟨rfl,fun c hc => ?_,fun i d hd => ?_,fun v _ => ?_⟩
 · have : c = [1] := by simpa [aw3] using hc
   subst this
   exact ⟨1,by simp,by unfold litT; decide⟩
 · match i,hd with
   | 0,hd => cases hd; decide
   | 1,hd => cases hd; decide
   | i + 2,hd => simp [aw3] at hd
 · show _ ≤ (if v = 0 then (-1 : Int) else 0) ∧ (if v = 0 then (-1 : Int) else 0) ≤ 0
   split <;> omega
theorem blk_ints {ω : PH} {b : Nat} {l : List Int} {n : Nat} (h : Blk ω b 3 (ints l)) (hn : l.length = n) : Ints ω (some (ptr b)) n l := ⟨hn,.inr ⟨_,rfl,fun i v hv => h.get hv⟩⟩
theorem c20 {σ : PH} {Q : Value → PH → Prop} (hQ : ∀ τ,σ.sub τ → Q (.bool true) τ) : C 20 #[] Q σ := by
 refine go (E20_0 _ _ _) ?_
 unfold S20_0
 have e0 : ∀ b : Nat,(Addr.mk b 0 none).add 0 = ⟨b,0,none⟩ := fun b => rfl
 intro b1 h1
 have s1 := PH.sub_set (o := .cells #[.int .i64 (-1),.int .i64 2] 3) h1
 have k1 : Blk (σ.set b1 (.cells #[.int .i64 (-1),.int .i64 2] 3)) b1 3 (ints [-1,2]) := set_self
 generalize σ.set b1 (.cells #[.int .i64 (-1),.int .i64 2] 3) = ω1 at *
 intro b2 h2
 have s2 := PH.sub_set (o := .cells #[.int .i64 (-2),.int .i64 3] 3) h2
 have k2 : Blk (ω1.set b2 (.cells #[.int .i64 (-2),.int .i64 3] 3)) b2 3 (ints [-2,3]) := set_self
 generalize ω1.set b2 (.cells #[.int .i64 (-2),.int .i64 3] 3) = ω2 at *
 intro b3 h3
 have s3 := PH.sub_set (o := .cells #[.slice (some ⟨b1,0,none⟩) 2 2,.slice (some ⟨b2,0,none⟩) 2 2] 33) h3
 have k3 : Blk (ω2.set b3 (.cells #[.slice (some ⟨b1,0,none⟩) 2 2,.slice (some ⟨b2,0,none⟩) 2 2] 33)) b3 33 [.slice (some (ptr b1)) 2 2,.slice (some (ptr b2)) 2 2] := set_self
 generalize ω2.set b3 (.cells #[.slice (some ⟨b1,0,none⟩) 2 2,.slice (some ⟨b2,0,none⟩) 2 2] 33) = ω3 at *
 intro b4 h4
 have s4 := PH.sub_set (o := .cells #[.int .i64 1] 3) h4
 have k4 : Blk (ω3.set b4 (.cells #[.int .i64 1] 3)) b4 3 (ints [1]) := set_self
 generalize ω3.set b4 (.cells #[.int .i64 1] 3) = ω4 at *
 have sub4 := ((s1.trans s2).trans s3).trans s4
 have L1 : Lists ω4 (some (ptr b3)) 2 aw1.clauses := by
   refine ⟨rfl,fun i c hc => ?_⟩
   match i,hc with
   | 0,hc => cases hc; exact ⟨_,_,_,_,rfl,s4.cell (k3.get (i := 0) rfl),blk_ints (s4 _ _ (s3 _ _ (s2 _ _ k1))) rfl,Nat.le_refl _⟩
   | 1,hc => cases hc; exact ⟨_,_,_,_,rfl,s4.cell (k3.get (i := 1) rfl),blk_ints (s4 _ _ (s3 _ _ k2)) rfl,Nat.le_refl _⟩
   | i + 2,hc => simp [aw1] at hc
 have hset : setAll (List.replicate aw1.bools 0) [1] = some [1,0,0] := by decide
 refine c25 (F := aw1) aw1_ok (by decide) L1 (blk_ints k4 rfl) (by decide) (fun h => ?_) (fun v val υ7 sl hv hp hs7 hO7 hnew7 => ?_) (fun v hv => ?_)
 · exfalso
   rcases h with h | ⟨v,hv,hp⟩
   · rw [hset] at h; cases h
   · rw [hset] at hv; cases hv
     have := aw_prop hp; cases this
 rotate_left
 · rw [hset] at hv; cases hv
   exact ⟨_,.go aw_r1 (.done aw_r2)⟩
 rw [hset] at hv; cases hv
 have hval := aw_prop hp
 cases hval
 have hl123 : litsTo [1,1,1] aw1.bools = [1,2,3] := by decide
 rw [hl123] at hO7
 refine ⟨υ7,.refl _,_,_,_,_,rfl,?_⟩
 have σ7 := sub4.trans hs7
 have I7 := own_ints hO7
 intro b12 h12
 have s12 := PH.sub_set (o := .cells #[.int .i64 0,.int .i64 1,.int .i64 (-1),.int .i64 1,.int .i64 0,.int .i64 (-1)] 50) h12
 have k12 : Blk (υ7.set b12 (.cells #[.int .i64 0,.int .i64 1,.int .i64 (-1),.int .i64 1,.int .i64 0,.int .i64 (-1)] 50)) b12 50 (difV [(0,1,-1),(1,0,-1)]) := set_self
 generalize υ7.set b12 (.cells #[.int .i64 0,.int .i64 1,.int .i64 (-1),.int .i64 1,.int .i64 0,.int .i64 (-1)] 50) = ω12 at *
 intro b13 h13
 have s13 := PH.sub_set (o := .cells #[.int .i64 1] 3) h13
 have k13 : Blk (ω12.set b13 (.cells #[.int .i64 1] 3)) b13 3 (ints [1]) := set_self
 generalize ω12.set b13 (.cells #[.int .i64 1] 3) = ω13 at *
 intro b14 h14
 have s14 := PH.sub_set (o := .cells #[.int .i64 2] 3) h14
 have k14 : Blk (ω13.set b14 (.cells #[.int .i64 2] 3)) b14 3 (ints [2]) := set_self
 generalize ω13.set b14 (.cells #[.int .i64 2] 3) = ω14 at *
 intro b15 h15
 have s15 := PH.sub_set (o := .cells #[.slice (some ⟨b13,0,none⟩) 1 1,.slice (some ⟨b14,0,none⟩) 1 1] 33) h15
 have k15 : Blk (ω14.set b15 (.cells #[.slice (some ⟨b13,0,none⟩) 1 1,.slice (some ⟨b14,0,none⟩) 1 1] 33)) b15 33 [.slice (some (ptr b13)) 1 1,.slice (some (ptr b14)) 1 1] := set_self
 generalize ω14.set b15 (.cells #[.slice (some ⟨b13,0,none⟩) 1 1,.slice (some ⟨b14,0,none⟩) 1 1] 33) = ω15 at *
 intro b16 h16
 simp only [newSet,newSet0,newCell,newCell0,newFroz,newFroz0,List.setIfInBounds_toArray,List.set_cons_zero,List.set_cons_succ,List.getElem?_toArray,List.getElem?_cons_zero,List.getElem?_cons_succ,Option.some.injEq,exists_eq',true_and,exists_eq_left']
 have s16 := PH.sub_set (o := .cells #[.int .i64 2,.int .i64 2,.slice (some ⟨b12,0,none⟩) 2 2,.slice (some ⟨b15,0,none⟩) 2 2] 29) h16
 have k16 : Blk (ω15.set b16 (.cells #[.int .i64 2,.int .i64 2,.slice (some ⟨b12,0,none⟩) 2 2,.slice (some ⟨b15,0,none⟩) 2 2] 29)) b16 29 [.int .i64 2,.int .i64 2,.slice (some (ptr b12)) 2 2,.slice (some (ptr b15)) 2 2] := set_self
 generalize ω15.set b16 (.cells #[.int .i64 2,.int .i64 2,.slice (some ⟨b12,0,none⟩) 2 2,.slice (some ⟨b15,0,none⟩) 2 2] 29) = ω16 at *
 have s715 := ((s12.trans s13).trans s14).trans s15
 have A2 : Atoms ω15 (some (ptr b12)) 2 aw2.atoms := (own_atoms (n := 2) (c := 2) ⟨rfl,Nat.le_refl _,.inr ⟨b12,_,rfl,k12,rfl,rfl⟩⟩).sub ((s13.trans s14).trans s15)
 have L2 : Lists ω15 (some (ptr b15)) 2 aw2.clauses := by
   refine ⟨rfl,fun i c hc => ?_⟩
   match i,hc with
   | 0,hc => cases hc; exact ⟨_,_,_,_,rfl,k15.get (i := 0) rfl,blk_ints (s15 _ _ (s14 _ _ k13)) rfl,Nat.le_refl _⟩
   | 1,hc => cases hc; exact ⟨_,_,_,_,rfl,k15.get (i := 1) rfl,blk_ints (s15 _ _ k14) rfl,Nat.le_refl _⟩
   | i + 2,hc => simp [aw2] at hc
 have n16 : υ7 b16 = none := new_of s715 h16
 refine ⟨_,_,_,_,_,_,_,_,rfl,?_⟩
 refine c17 (F := aw2) aw2_ok (by decide) (by decide) (A2.sub s16) (L2.sub s16) (Nat.le_refl _) (Nat.le_refl _) (fun τ b X bl x _ _ _ hM => (aw2_no hM).elim) fun υ35 a n c ps cs hs35 _ _ _ _ _ => ?_
 refine ⟨υ35,.refl _,_,_,_,_,_,_,_,_,_,_,rfl,?_⟩
 intro b46 h46
 have k16a : Blk υ35 b16 29 [.int .i64 2,.int .i64 2,.slice (some (ptr b12)) 2 2,.slice (some (ptr b15)) 2 2] := hs35 _ _ k16
 have s46 := PH.sub_set (o := .cells #[.slice none 0 0,.slice none 0 0] 35) h46
 generalize υ35.set b46 (.cells #[.slice none 0 0,.slice none 0 0] 35) = ω46 at *
 have k16b : Blk ω46 b16 29 [.int .i64 2,.int .i64 2,.slice (some (ptr b12)) 2 2,.slice (some (ptr b15)) 2 2] := s46 _ _ k16a
 have st : Step (· = b16) ω46 (ω46.setCell ((ptr b16).add 3) (.slice (some (ptr b15)) (Int.toNat 1) 2)) := setCell_step.weaken fun b hb => hb.trans (add_block _ _)
 have k16c := k16b.set 3 (.slice (some (ptr b15)) (Int.toNat 1) 2)
 have s1546 : ω15.sub ω46 := (s16.trans hs35).trans s46
 have sN : ω15.sub (ω46.setCell ((ptr b16).add 3) (.slice (some (ptr b15)) (Int.toNat 1) 2)) := sub_step_new s1546 st (by rintro b rfl; exact h16)
 refine ⟨_,k16b.get (i := 3) rfl,_,_,_,rfl,by omega,by omega,⟨_,k16b.get (i := 3) rfl⟩,k16b.froz 3,?_⟩
 have g0 := k16c.get (i := 0) rfl
 rw [e0] at g0
 refine ⟨_,g0,_,k16c.get (i := 1) rfl,_,k16c.get (i := 2) rfl,_,k16c.get (i := 3) rfl,_,_,_,_,_,_,_,_,rfl,?_⟩
 have L3 : Lists ω15 (some (ptr b15)) 1 aw3.clauses := by
   refine ⟨rfl,fun i c hc => ?_⟩
   match i,hc with
   | 0,hc => cases hc; exact ⟨_,_,_,_,rfl,k15.get (i := 0) rfl,blk_ints (s15 _ _ (s14 _ _ k13)) rfl,Nat.le_refl _⟩
   | i + 1,hc => simp [aw3] at hc
 refine c17 (F := aw3) aw3_ok (by decide) (by decide) (A2.sub sN) (L3.sub sN) (Nat.le_refl _) (by decide) (fun υ68 b X bl x hs68 _ _ _ => ?_) fun τ a n c ps cs _ _ _ hcs hlast _ => (sound_no aw3_ok aw3_sat hcs hlast).elim
 refine ⟨υ68,.refl _,_,_,_,_,_,_,_,_,_,_,rfl,?_⟩
 intro b79 h79
 have s768 : υ7.sub υ68 := (s715.trans sN).trans hs68
 refine br_iff.2 ⟨fun _ b82 h82 => ?_,fun h => (by cases h)⟩
 have s79 := PH.sub_set (o := .cells #[.slice (some (ptr b)) aw3.bools aw3.bools,.slice (some (ptr X)) aw3.ints aw3.ints] 35) h79
 have s82 := PH.sub_set (o := .cells #[.int .i64 1,.int .i64 2,.int .i64 3] 3) h82
 have s7f := (s768.trans s79).trans s82
 have k82 : Blk ((υ68.set b79 (.cells #[.slice (some (ptr b)) aw3.bools aw3.bools,.slice (some (ptr X)) aw3.ints aw3.ints] 35)).set b82 (.cells #[.int .i64 1,.int .i64 2,.int .i64 3] 3)) b82 3 (ints [1,2,3]) := set_self
 have hn7 := I7.1
 refine (c27 (by unfold Len; simp at hn7; omega) (I7.sub s7f) (blk_ints k82 rfl)).mono hb ?_
 rintro _ τ ⟨rfl,eτ⟩
 obtain rfl := eτ.symm
 exact ⟨_,.refl _,_,rfl,br_iff.2 ⟨fun _ => br_iff.2 ⟨fun _ => hQ _ (σ7.trans s7f),fun h => (by cases h)⟩,fun h => by simp at h⟩⟩
theorem c20' {σ : PH} {Q : Value → PH → Prop} (hQ : ∀ τ,σ.sub τ → Q (.bool true) τ) : C 20 #[] (fun v τ => ∃ υ : PH,υ.sub τ ∧ ∃ q : Bool,v = .bool q ∧ Q (.bool q) υ) σ := c20 fun τ hs => ⟨τ,.refl _,true,rfl,hQ τ hs⟩
def PropO (F : Fm) (l : List Int) (r : Option (List Int)) : Prop :=
 (setAll (List.replicate F.bools 0) l = none ∧ r = none) ∨ ∃ v,setAll (List.replicate F.bools 0) l = some v ∧ PropR F.clauses v r
theorem PropO.det {F : Fm} {l : List Int} {r r' : Option (List Int)} (h : PropO F l r) (h' : PropO F l r') : r = r' := by
 rcases h with ⟨h1,h2⟩ | ⟨v,h1,h2⟩ <;> rcases h' with ⟨h3,h4⟩ | ⟨v',h3,h4⟩
 · rw [h2,h4]
 · rw [h1] at h3; cases h3
 · rw [h1] at h3; cases h3
 · rw [h1] at h3; cases h3; exact h2.det h4
def litsO (F : Fm) : Option (List Int) → List Int
 | none => []
 | some val => litsTo val F.bools
theorem litsO_len (F : Fm) (r : Option (List Int)) : (litsO F r).length ≤ F.bools := by
 cases r with
 | none => exact Nat.zero_le _
 | some val => exact litsTo_len val F.bools
theorem c25r {σ : PH} {F : Fm} (hF : FOk F) (hlen : ∀ c ∈ F.clauses,c.length ≤ 1000000) {aa ca : Option Addr} {an ac cn cc : Nat} (hL : Lists σ ca cn F.clauses) {a : Option Addr} {n c : Nat} {l : List Int} (hI : Ints σ a n l) (hll : l.length ≤ 1000000)
   {Q : Value → PH → Prop} (hQ : ∀ r τ (sl : Sli),PropO F l r → σ.sub τ → Own τ 3 1 sl.a sl.n sl.c (ints (litsO F r)) → (∀ p,sl.a = some p → σ p.block = none) → Q (.tuple #[sl.v,.bool r.isSome]) τ) :
   C 25 #[.agg #[.int .i64 F.ints,.int .i64 F.bools,.slice aa an ac,.slice ca cn cc],.slice a n c] Q σ := by
 refine c25 hF hlen hL hI hll (fun h τ hs => ?_) (fun v val τ sl h1 h2 hs hO hn => hQ (some val) τ sl (.inr ⟨v,h1,h2⟩) hs hO hn) fun v hv => PropR.total hF.cl (by rw [setAll_len hv]; simp)
 refine hQ none τ ⟨none,0,0⟩ ?_ hs own_nil (by simp)
 rcases h with h | ⟨v,h1,h2⟩
 · exact .inl ⟨h,rfl⟩
 · exact .inr ⟨v,h1,h2⟩
theorem c26r {σ : PH} {F : Fm} (hF : FOk F) (hlen : ∀ c ∈ F.clauses,c.length ≤ 1000000) {aa ca : Option Addr} {an ac cn cc : Nat} (hL : Lists σ ca cn F.clauses) {a : Option Addr} {n c : Nat} {l : List Int} (hI : Ints σ a n l) (hll : l.length ≤ 1000000)
   {Q : Value → PH → Prop} (hQ : ∀ r τ (sl : Sli),PropO F l r → σ.sub τ → Own τ 3 1 sl.a sl.n sl.c (ints (litsO F r)) → (∀ p,sl.a = some p → σ p.block = none) → Q (.tuple #[sl.v,.bool r.isSome]) τ) :
   C 26 #[.agg #[.int .i64 F.ints,.int .i64 F.bools,.slice aa an ac,.slice ca cn cc],.slice a n c] Q σ := by
 refine c26 hF hlen hL hI hll (fun h τ hs => ?_) (fun v val τ sl h1 h2 hs hO hn => hQ (some val) τ sl (.inr ⟨v,h1,h2⟩) hs hO hn)
 refine hQ none τ ⟨none,0,0⟩ ?_ hs own_nil (by simp)
 rcases h with h | ⟨v,h1,h2⟩
 · exact .inl ⟨h,rfl⟩
 · exact .inr ⟨v,h1,h2⟩
theorem both {σ : PH} {F : Fm} (hF : FOk F) (hlen : ∀ c ∈ F.clauses,c.length ≤ 1000000) {f : Nat} {A K : Sli} (B : Blk σ f 29 [.int .i64 F.ints,.int .i64 F.bools,A.v,K.v]) (hL : Lists σ K.a K.n F.clauses) {a : Option Addr} {n c : Nat} {l : List Int} (hI : Ints σ a n l) (hll : l.length ≤ 1000000) {Q : Value → PH → Prop} (hQ : ∀ τ,σ.sub τ → Q (.bool true) τ) :
   C 25 #[.agg #[.int .i64 F.ints,.int .i64 F.bools,A.v,K.v],.slice a n c] (fun v82 τ83 => ∃ υ84 : PH,PH.sub υ84 τ83 ∧ ∃ (a85 : Option Addr) (n86 : Nat) (c87 : Nat) (q88 : Bool),v82 = (.tuple #[.slice a85 n86 c87,(.bool q88)]) ∧ ∃ v89,PH.cell? υ84 (ptr f) = some v89 ∧ ∃ v90,PH.cell? υ84 ((ptr f).add 1) = some v90 ∧ ∃ v91,PH.cell? υ84 ((ptr f).add 2) = some v91 ∧ ∃ v92,PH.cell? υ84 ((ptr f).add 3) = some v92 ∧ ∃ (i93 : Int) (i94 : Int) (a95 : Option Addr) (n96 : Nat) (c97 : Nat) (a98 : Option Addr) (n99 : Nat) (c100 : Nat),Value.agg #[v89,v90,v91,v92] = (.agg #[.int .i64 i93,.int .i64 i94,.slice a95 n96 c97,.slice a98 n99 c100]) ∧
     C 26 #[(.agg #[.int .i64 i93,.int .i64 i94,.slice a95 n96 c97,.slice a98 n99 c100]),.slice a n c] (fun v101 τ102 => ∃ υ103 : PH,PH.sub υ103 τ102 ∧ ∃ (a104 : Option Addr) (n105 : Nat) (c106 : Nat) (q107 : Bool),v101 = (.tuple #[.slice a104 n105 c106,(.bool q107)]) ∧
       br (q88 == q107) (C 27 #[.slice a85 n86 c87,.slice a104 n105 c106] (fun v108 τ109 => ∃ υ110 : PH,PH.sub υ110 τ109 ∧ ∃ (q111 : Bool),v108 = (.bool q111) ∧ br q111 (C 20 #[] (fun v112 τ113 => ∃ υ114 : PH,PH.sub υ114 τ113 ∧ ∃ (q115 : Bool),v112 = (.bool q115) ∧ Q (.bool q115) υ114) υ110) (Q (.bool false) υ110)) υ103) (Q (.bool false) υ103)) υ84) σ := by
 have e0 : ∀ b : Nat,(Addr.mk b 0 none).add 0 = ⟨b,0,none⟩ := fun b => rfl
 have hnb := hF.bools
 refine c25r hF hlen hL hI hll fun r τ sl hr hs hO _ => ⟨τ,.refl _,_,_,_,_,rfl,?_⟩
 have B1 : Blk τ f 29 _ := hs _ _ B
 have g := B1.get (i := 0) rfl
 rw [e0] at g
 refine ⟨_,g,_,B1.get (i := 1) rfl,_,B1.get (i := 2) rfl,_,B1.get (i := 3) rfl,_,_,_,_,_,_,_,_,rfl,?_⟩
 refine c26r hF hlen (hL.sub hs) (hI.sub hs) hll fun r' τ' sl' hr' hs' hO' _ => ⟨τ',.refl _,_,_,_,_,rfl,?_⟩
 obtain rfl := hr.det hr'
 refine br_iff.2 ⟨fun _ => ?_,fun h => by simp at h⟩
 have hll2 := litsO_len F r
 have I1 := (own_ints hO).sub hs'
 have hn := I1.1
 refine (c27 (by unfold Len; omega) I1 (own_ints hO')).mono hb ?_
 rintro _ τ2 ⟨rfl,eτ⟩
 obtain rfl := eτ.symm
 refine ⟨_,.refl _,_,rfl,br_iff.2 ⟨fun _ => c20' fun τ3 hs3 => hQ τ3 ((hs.trans hs').trans hs3),fun h => by simp at h⟩⟩
def litOf (B v : Int) : Int := if v.tmod 2 = 1 then -(1 + (v.tdiv 2).tmod B) else 1 + (v.tdiv 2).tmod B
def difOf (I x y : Int) : Dif := (x.tmod I,((x.tmod I + 1) + y.tmod (I - 1)).tmod I,(x.tdiv 16).tmod 7 - 4)
def atR (l : List Int) (I : Int) : Nat → Nat × List Dif
 | 0 => (0,[])
 | i + 1 => (nxk l (nxk l (atR l I i).1),(atR l I i).2 ++ [difOf I (nxv l (atR l I i).1) (nxv l (nxk l (atR l I i).1))])
def litS (l : List Int) (B : Int) (k0 : Nat) : Nat → Nat × List Int
 | 0 => (k0,[])
 | i + 1 => (nxk l (litS l B k0 i).1,(litS l B k0 i).2 ++ [litOf B (nxv l (litS l B k0 i).1)])
def clS (l : List Int) (B : Int) (k0 : Nat) : Nat → Nat × List (List Int)
 | 0 => (k0,[])
 | i + 1 => ((litS l B (nxk l (clS l B k0 i).1) (((nxv l (clS l B k0 i).1).tmod 4).toNat + 1)).1,(clS l B k0 i).2 ++ [(litS l B (nxk l (clS l B k0 i).1) (((nxv l (clS l B k0 i).1).tmod 4).toNat + 1)).2])
def clE (l : List Int) (B : Int) (k0 : Nat) : Nat → Nat → List (List Int)
 | 0,i => (clS l B k0 i).2
 | f + 1,i => if (clS l B k0 i).1 < l.length then clE l B k0 f (i + 1) else (clS l B k0 i).2
def probF (s0 s1 s2 : Int) (l : List Int) : Fm :=
 ⟨(2 + s0.tmod 5).toNat,((atR l (2 + s0.tmod 5) (1 + s1.tmod 12).toNat).2.length + s2.tmod 7).toNat,(atR l (2 + s0.tmod 5) (1 + s1.tmod 12).toNat).2,
   clE l ((atR l (2 + s0.tmod 5) (1 + s1.tmod 12).toNat).2.length + s2.tmod 7) (atR l (2 + s0.tmod 5) (1 + s1.tmod 12).toNat).1 40 0⟩
theorem tm {a b : Int} (h : 0 ≤ a) (hb : 0 < b) : 0 ≤ a.tmod b ∧ a.tmod b < b := ⟨Int.tmod_nonneg b h,Int.tmod_lt_of_pos a hb⟩
theorem td {a b : Int} (h : 0 ≤ a) (hb : 0 ≤ b) : 0 ≤ a.tdiv b ∧ a.tdiv b ≤ a := ⟨Int.tdiv_nonneg h hb,Int.tdiv_le_self b h⟩
theorem tm_id {a b : Int} (h : 0 ≤ a) (hb : a < b) : a.tmod b = a := Int.tmod_eq_of_lt h hb
theorem atR_len {l : List Int} {I : Int} : ∀ i,(atR l I i).2.length = i
 | 0 => rfl
 | i + 1 => by rw [atR,List.length_append,atR_len i]; rfl
theorem atR_le {l : List Int} {I : Int} : ∀ i,(atR l I i).1 ≤ l.length
 | 0 => Nat.zero_le _
 | i + 1 => by rw [atR]; exact nxk_le (nxk_le (atR_le i))
theorem litS_len {l : List Int} {B : Int} {k0 : Nat} : ∀ i,(litS l B k0 i).2.length = i
 | 0 => rfl
 | i + 1 => by rw [litS,List.length_append,litS_len i]; rfl
theorem clS_len {l : List Int} {B : Int} {k0 : Nat} : ∀ i,(clS l B k0 i).2.length = i
 | 0 => rfl
 | i + 1 => by rw [clS,List.length_append,clS_len i]; rfl
theorem difOf_ok {I x y : Int} (hI : 2 ≤ I) (hI6 : I ≤ 6) (hx : 0 ≤ x) (hy : 0 ≤ y) : 0 ≤ (difOf I x y).1 ∧ (difOf I x y).1 < I ∧ 0 ≤ (difOf I x y).2.1 ∧ (difOf I x y).2.1 < I ∧ (difOf I x y).1 ≠ (difOf I x y).2.1 ∧ -4 ≤ (difOf I x y).2.2 ∧ (difOf I x y).2.2 ≤ 2 := by
 unfold difOf
 obtain ⟨a1,a2⟩ := tm hx (show (0 : Int) < I by omega)
 obtain ⟨b1,b2⟩ := tm hy (show (0 : Int) < I - 1 by omega)
 obtain ⟨c1,c2⟩ := tm (td hx (show (0 : Int) ≤ 16 by omega)).1 (show (0 : Int) < 7 by omega)
 generalize x.tmod I = u at *
 generalize y.tmod (I - 1) = w at *
 generalize (x.tdiv 16).tmod 7 = z at *
 obtain ⟨d1,d2⟩ := tm (show 0 ≤ u + 1 + w by omega) (show (0 : Int) < I by omega)
 refine ⟨a1,a2,d1,d2,?_,by show -4 ≤ z - 4; omega,by show z - 4 ≤ 2; omega⟩
 show u ≠ (u + 1 + w).tmod I
 intro e
 by_cases hlt : u + 1 + w < I
 · rw [tm_id (by omega) hlt] at e; omega
 · have : (u + 1 + w).tmod I = u + 1 + w - I := by
     rw [Int.tmod_eq_emod_of_nonneg (by omega),← Int.sub_emod_right,Int.emod_eq_of_lt (by omega) (by omega)]
   omega
theorem litOf_ok {B v : Int} (hB : 1 ≤ B) (hv : 0 ≤ v) : LitN B.toNat (litOf B v) := by
 unfold litOf LitN
 obtain ⟨c1,c2⟩ := tm (td hv (show (0 : Int) ≤ 2 by omega)).1 (show (0 : Int) < B by omega)
 split <;> omega
theorem atR_ok {l : List Int} (hl : ∀ x ∈ l,0 ≤ x ∧ x < 256) {I : Int} (hI : 2 ≤ I) (hI6 : I ≤ 6) : ∀ i,∀ d ∈ (atR l I i).2,0 ≤ d.1 ∧ d.1 < I ∧ 0 ≤ d.2.1 ∧ d.2.1 < I ∧ d.1 ≠ d.2.1 ∧ -4 ≤ d.2.2 ∧ d.2.2 ≤ 2
 | 0,d,h => by simp [atR] at h
 | i + 1,d,h => by
   rw [atR,List.mem_append] at h
   rcases h with h | h
   · exact atR_ok hl hI hI6 i d h
   · simp at h; subst h
     exact difOf_ok hI hI6 (nxv_rng hl _).1 (nxv_rng hl _).1
theorem litS_ok {l : List Int} (hl : ∀ x ∈ l,0 ≤ x ∧ x < 256) {B : Int} (hB : 1 ≤ B) {k0 : Nat} : ∀ i,∀ x ∈ (litS l B k0 i).2,LitN B.toNat x
 | 0,d,h => by simp [litS] at h
 | i + 1,d,h => by
   rw [litS,List.mem_append] at h
   rcases h with h | h
   · exact litS_ok hl hB i d h
   · simp at h; subst h
     exact litOf_ok hB (nxv_rng hl _).1
theorem clS_ok {l : List Int} (hl : ∀ x ∈ l,0 ≤ x ∧ x < 256) {B : Int} (hB : 1 ≤ B) {k0 : Nat} : ∀ i,∀ c ∈ (clS l B k0 i).2,c.length ≤ 4 ∧ ∀ x ∈ c,LitN B.toNat x
 | 0,d,h => by simp [clS] at h
 | i + 1,d,h => by
   rw [clS,List.mem_append] at h
   rcases h with h | h
   · exact clS_ok hl hB i d h
   · simp at h; subst h
     refine ⟨?_,litS_ok hl hB _⟩
     rw [litS_len]
     have := (tm (nxv_rng hl (clS l B k0 i).1).1 (show (0 : Int) < 4 by omega)).2
     omega
theorem clE_ok {l : List Int} (hl : ∀ x ∈ l,0 ≤ x ∧ x < 256) {B : Int} (hB : 1 ≤ B) {k0 : Nat} : ∀ f i,(clE l B k0 f i).length ≤ i + f ∧ ∀ c ∈ clE l B k0 f i,c.length ≤ 4 ∧ ∀ x ∈ c,LitN B.toNat x
 | 0,i => by rw [clE,clS_len]; exact ⟨by omega,clS_ok hl hB i⟩
 | f + 1,i => by
   rw [clE]
   split
   · have := clE_ok hl hB (k0 := k0) f (i + 1)
     exact ⟨by omega,this.2⟩
   · rw [clS_len]; exact ⟨by omega,clS_ok hl hB i⟩
structure PrOk (F : Fm) : Prop where
 fok : FOk F
 bools : 1 ≤ F.bools ∧ F.bools ≤ 18
 ints : 2 ≤ F.ints ∧ F.ints ≤ 6
 an : 1 ≤ F.atoms.length ∧ F.atoms.length ≤ 12
 cn : F.clauses.length ≤ 40
 cl : ∀ c ∈ F.clauses,c.length ≤ 4
 at' : ∀ d ∈ F.atoms,-4 ≤ d.2.2 ∧ d.2.2 ≤ 2
theorem probF_ok {s0 s1 s2 : Int} (h0 : 0 ≤ s0) (h1 : 0 ≤ s1) (h2 : 0 ≤ s2) {l : List Int} (hl : ∀ x ∈ l,0 ≤ x ∧ x < 256) : PrOk (probF s0 s1 s2 l) := by
 obtain ⟨a1,a2⟩ := tm h0 (show (0 : Int) < 5 by omega)
 obtain ⟨b1,b2⟩ := tm h1 (show (0 : Int) < 12 by omega)
 obtain ⟨c1,c2⟩ := tm h2 (show (0 : Int) < 7 by omega)
 unfold probF
 generalize s0.tmod 5 = u at *
 generalize s1.tmod 12 = w at *
 generalize s2.tmod 7 = z at *
 have hat := atR_ok hl (I := 2 + u) (by omega) (by omega) (1 + w).toNat
 have hlen : (atR l (2 + u) (1 + w).toNat).2.length = (1 + w).toNat := atR_len _
 generalize (atR l (2 + u) (1 + w).toNat).1 = k at *
 generalize (atR l (2 + u) (1 + w).toNat).2 = at' at *
 have hcl := clE_ok hl (B := (at'.length : Int) + z) (by omega) (k0 := k) 40 0
 generalize clE l ((at'.length : Int) + z) k 40 0 = cs at *
 refine ⟨⟨?_,?_,?_,?_,?_,?_⟩,⟨?_,?_⟩,⟨?_,?_⟩,⟨?_,?_⟩,?_,?_,?_⟩ <;> dsimp only
 · omega
 · omega
 · omega
 · intro d hd
   have := hat d hd
   refine ⟨this.1,?_,this.2.2.1,?_,this.2.2.2.2.1,by omega,by omega⟩ <;> omega
 · exact fun c hc => (hcl.2 c hc).2
 · omega
 · omega
 · omega
 · omega
 · omega
 · omega
 · omega
 · omega
 · exact fun c hc => (hcl.2 c hc).1
 · exact fun d hd => (hat d hd).2.2.2.2.2
theorem wi {x : Int} (h : 0 ≤ x ∧ x < 256) : IntKind.wrap .i64 x = x := w64 (by omega) (by omega)
theorem nx256 {l : List Int} (hl : ∀ x ∈ l,0 ≤ x ∧ x < 256) (k : Nat) : (nxv l k).tmod 256 = nxv l k := tm_id (nxv_rng hl k).1 (nxv_rng hl k).2
theorem c21 {σ : PH} {s0 s1 s2 : Int} {a : Option Addr} {n c : Nat} {l : List Int} (hU : U8s σ a n l) (hc : n ≤ c) (h0 : 0 ≤ s0 ∧ s0 < 256) (h1 : 0 ≤ s1 ∧ s1 < 256) (h2 : 0 ≤ s2 ∧ s2 < 256) {Q : Value → PH → Prop}
   (hQ : ∀ φ τ A K,σ.sub φ → FR φ τ A K (probF s0 s1 s2 (l.take 300)).atoms (probF s0 s1 s2 (l.take 300)).clauses → A.n ≤ A.c → K.n ≤ K.c →
     Q (.agg #[.int .i64 (probF s0 s1 s2 (l.take 300)).ints,.int .i64 (probF s0 s1 s2 (l.take 300)).bools,A.v,K.v]) τ) :
   C 21 #[.agg #[.int .u8 s0,.int .u8 s1,.int .u8 s2,.slice a n c]] Q σ := by
 refine go (E21_0 _ _ _ _ _ _ _ _ _) ?_
 unfold S21_0
 have e0 : ∀ b : Nat,(Addr.mk b 0 none).add 0 = ⟨b,0,none⟩ := fun b => rfl
 have hp := probF_ok h0.1 h1.1 h2.1 (hU.take 300).rng
 obtain ⟨l',hl'⟩ : ∃ l',l' = l.take 300 := ⟨_,rfl⟩
 rw [← hl'] at hQ hp
 have hU' : U8s σ a (min 300 n) l' := by rw [hl']; exact hU.take 300
 have hl := hU'.rng
 have hll := hU'.len
 clear hl'
 obtain ⟨u1,u2⟩ := tm h0.1 (show (0 : Int) < 5 by omega)
 obtain ⟨v1,v2⟩ := tm h1.1 (show (0 : Int) < 12 by omega)
 obtain ⟨z1,z2⟩ := tm h2.1 (show (0 : Int) < 7 by omega)
 obtain ⟨I,hI⟩ : ∃ I : Int,I = 2 + s0.tmod 5 := ⟨_,rfl⟩
 obtain ⟨N,hN⟩ : ∃ N : Nat,N = (1 + s1.tmod 12).toNat := ⟨_,rfl⟩
 have wI : IntKind.wrap .i64 ((2 : Int) + Int.tmod (IntKind.wrap .i64 s0) 5) = I := by rw [wi h0,w64 (by omega) (by omega),hI]
 have wN : IntKind.wrap .i64 ((1 : Int) + Int.tmod (IntKind.wrap .i64 s1) 12) = (N : Int) := by rw [wi h1,w64 (by omega) (by omega),hN]; omega
 intro b7 h7
 have s7 := PH.sub_set (o := .cells #[.int .u8 s0,.int .u8 s1,.int .u8 s2,.slice a n c] 25) h7
 have B7 : Blk (σ.set b7 (.cells #[.int .u8 s0,.int .u8 s1,.int .u8 s2,.slice a n c] 25)) b7 25 [.int .u8 s0,.int .u8 s1,.int .u8 s2,.slice a n c] := set_self
 generalize σ.set b7 (.cells #[.int .u8 s0,.int .u8 s1,.int .u8 s2,.slice a n c] 25) = φ at *
 intro b8 h8
 have s8 := PH.sub_set (o := .cells #[.int .i64 0,.int .i64 0,.slice none 0 0,.slice none 0 0] 29) h8
 have B8 : Blk (φ.set b8 (.cells #[.int .i64 0,.int .i64 0,.slice none 0 0,.slice none 0 0] 29)) b8 29 [.int .i64 0,.int .i64 0,.slice none 0 0,.slice none 0 0] := set_self
 generalize φ.set b8 (.cells #[.int .i64 0,.int .i64 0,.slice none 0 0,.slice none 0 0] 29) = ω8 at *
 refine ⟨_,s8.cell (B7.get (i := 0) rfl),_,rfl,by omega,rfl,?_⟩
 intro b11 h11
 simp only [newSet,newSet0,newCell,newCell0,newFroz,newFroz0,List.setIfInBounds_toArray,List.set_cons_zero,List.set_cons_succ,List.getElem?_toArray,List.getElem?_cons_zero,List.getElem?_cons_succ,Option.some.injEq,exists_eq',true_and,exists_eq_left']
 rw [wI]
 have s11 := PH.sub_set (o := .cells #[.int .i64 I,.int .i64 0,.slice none 0 0,.slice none 0 0] 29) h11
 have B11 : Blk (ω8.set b11 (.cells #[.int .i64 I,.int .i64 0,.slice none 0 0,.slice none 0 0] 29)) b11 29 [.int .i64 I,.int .i64 0,.slice none 0 0,.slice none 0 0] := set_self
 generalize ω8.set b11 (.cells #[.int .i64 I,.int .i64 0,.slice none 0 0,.slice none 0 0] 29) = ω11 at *
 have B7' := s11 _ _ (s8 _ _ B7)
 refine ⟨_,Blk.get (i := 3) B7' rfl,_,_,_,rfl,_,Blk.get (i := 3) B7' rfl,_,_,_,rfl,by split <;> omega,by split <;> omega,?_⟩
 intro b24 h24
 have wmin : (if (300 : Int) < (n : Int) then (300 : Int) else (n : Int)).toNat = min 300 n := by split <;> omega
 rw [wmin]
 have s24 := PH.sub_set (o := .cells #[.slice a (min 300 n) c,.int .i64 0] 90) h24
 have B24 : Blk (ω11.set b24 (.cells #[.slice a (min 300 n) c,.int .i64 0] 90)) b24 90 [.slice a (min 300 n) c,.int .i64 0] := set_self
 generalize ω11.set b24 (.cells #[.slice a (min 300 n) c,.int .i64 0] 90) = ω24 at *
 have n8 : φ b8 = none := h8
 have n11 : φ b11 = none := new_of s8 h11
 have n24 : φ b24 = none := new_of (s8.trans s11) h24
 have d8 : b8 ≠ b11 := by rintro rfl; rw [B8] at h11; cases h11
 have hFB0 : FB φ ω24 b11 I 0 ⟨none,0,0⟩ ⟨none,0,0⟩ [] [] := ⟨⟨(s8.trans s11).trans s24,own_nil,by simp,⟨[],own_nil,rfl,by simp⟩,by simp⟩,s24 _ _ B11,n11⟩
 have hT0 : Tape φ ω24 b24 ⟨a,min 300 n,c⟩ l' 0 := ⟨B24,n24,hU'.sub s7,Nat.zero_le _⟩
 have hR0 : Blk ω24 b8 29 [.int .i64 0,.int .i64 0,.slice none 0 0,.slice none 0 0] := s24 _ _ (s11 _ _ B8)
 unfold S21_1
 refine iloopS_for (G := Sli) (fun k _ => (ptr b7,ptr b8,ptr b11,ptr b24,(k : Int))) (fun k A ω => FB φ ω b11 I 0 A ⟨none,0,0⟩ (atR l' I k).2 [] ∧ Tape φ ω b24 ⟨a,min 300 n,c⟩ l' (atR l' I k).1 ∧ Blk ω b8 29 [.int .i64 0,.int .i64 0,.slice none 0 0,.slice none 0 0]) N ?_ (g := ⟨none,0,0⟩) ⟨hFB0,hT0,hR0⟩
 rintro k A ω hk ⟨hF,hT,hR⟩ R hRR
 unfold S21_2
 dsimp only
 have hP : Blk ω b7 25 [.int .u8 s0,.int .u8 s1,.int .u8 s2,.slice a n c] := hF.sub _ _ B7
 refine ⟨_,hP.get (i := 1) rfl,_,rfl,by omega,rfl,?_⟩
 rw [wN]
 refine br_dec.2 ⟨fun hlt => ?_,fun hge => ?_⟩
 · refine c41 hT hF.sub (by omega) (by omega) fun τ st1 hs1 hT1 => ?_
   rw [nx256 hl]
   have hF1 := hF.step1 hT.blk (by decide) hT.new st1
   have hR1 := hR.keep st1 (by rintro rfl; exact absurd rfl (ne_ty hT.blk hR (by decide)))
   have g0 := hF1.blk.get (i := 0) rfl
   rw [e0] at g0
   refine ⟨τ,.refl _,_,rfl,_,g0,_,rfl,by omega,rfl,by omega,rfl,by omega,rfl,?_⟩
   intro b43 h43
   simp only [newSet,newSet0,newCell,newCell0,newFroz,newFroz0,List.setIfInBounds_toArray,List.set_cons_zero,List.set_cons_succ,List.getElem?_toArray,List.getElem?_cons_zero,List.getElem?_cons_succ,Option.some.injEq,exists_eq',true_and,exists_eq_left']
   obtain ⟨x1,x2⟩ := nxv_rng hl (atR l' I k).1
   obtain ⟨y1,y2⟩ := nxv_rng hl (nxk l' (atR l' I k).1)
   generalize hx : nxv l' (atR l' I k).1 = x at *
   generalize hy : nxv l' (nxk l' (atR l' I k).1) = y at *
   obtain ⟨q1,q2⟩ := td x1 (show (0 : Int) ≤ 16 by omega)
   obtain ⟨q3,q4⟩ := tm q1 (show (0 : Int) < 7 by omega)
   obtain ⟨q5,q6⟩ := tm x1 (show (0 : Int) < I by omega)
   obtain ⟨q7,q8⟩ := tm y1 (show (0 : Int) < I - 1 by omega)
   have wC : IntKind.wrap .i64 (Int.tmod (IntKind.wrap .i64 (Int.tdiv x 16)) 7 - 4) = (x.tdiv 16).tmod 7 - 4 := by
     rw [w64 (n := x.tdiv 16) (by omega) (by omega),w64 (by omega) (by omega)]
   rw [wC]
   have s43 := PH.sub_set (o := .cells #[.int .i64 (x.tmod I),.int .i64 0,.int .i64 ((x.tdiv 16).tmod 7 - 4)] 50) h43
   have B43 : Blk (τ.set b43 (.cells #[.int .i64 (x.tmod I),.int .i64 0,.int .i64 ((x.tdiv 16).tmod 7 - 4)] 50)) b43 50 [.int .i64 (x.tmod I),.int .i64 0,.int .i64 ((x.tdiv 16).tmod 7 - 4)] := set_self
   generalize τ.set b43 (.cells #[.int .i64 (x.tmod I),.int .i64 0,.int .i64 ((x.tdiv 16).tmod 7 - 4)] 50) = τ2 at *
   have hF2 := hF1.sub' s43
   have hT2 : Tape φ τ2 b24 ⟨a,min 300 n,c⟩ l' (nxk l' (atR l' I k).1) := hT1.keep (M := fun _ => False) s43.step (fun h => h)
   have hR2 := s43 _ _ hR1
   have n43 : φ b43 = none := new_of hF1.sub h43
   have g0b := hF2.blk.get (i := 0) rfl
   rw [e0] at g0b
   have g43 := B43.get (i := 0) rfl
   rw [e0] at g43
   refine ⟨_,rfl,_,g0b,_,rfl,_,g0b,_,rfl,?_⟩
   refine c41 hT2 hF2.sub (by omega) (by omega) fun τ3 st3 hs3 hT3 => ?_
   rw [nx256 hl,hy]
   have hF3 := hF2.step1 hT2.blk (by decide) hT2.new st3
   have hR3 : Blk τ3 b8 29 _ := Blk.keep st3 (by rintro rfl; exact absurd rfl (ne_ty hT2.blk hR2 (by decide))) hR2
   have B43c := B43.keep st3 (by rintro rfl; exact absurd rfl (ne_ty hT2.blk B43 (by decide)))
   have g0c := hF3.blk.get (i := 0) rfl
   rw [e0] at g0c
   have g43c := B43c.get (i := 0) rfl
   rw [e0] at g43c
   have wY : Int.tmod (IntKind.wrap .i64 (IntKind.wrap .i64 (x.tmod I + 1) + y.tmod (IntKind.wrap .i64 (I - 1)))) I = (x.tmod I + 1 + y.tmod (I - 1)).tmod I := by
     rw [w64 (n := x.tmod I + 1) (by omega) (by omega),w64 (n := I - 1) (by omega) (by omega),w64 (by omega) (by omega)]
   refine ⟨τ3,.refl _,g0c.trans g0b.symm,g0c.trans g0b.symm,g43c,_,rfl,by rw [w64 (by omega) (by omega)]; omega,by omega,⟨_,B43c.get (i := 1) rfl⟩,B43c.froz 1,?_⟩
   rw [wY]
   obtain ⟨w,hw⟩ : ∃ w,w = (x.tmod I + 1 + y.tmod (I - 1)).tmod I := ⟨_,rfl⟩
   rw [← hw]
   have st4 : Step (· = b43) τ3 (τ3.setCell ((ptr b43).add 1) (.int .i64 w)) := setCell_step.weaken fun b hb => hb.trans (add_block _ _)
   have B43d : Blk (τ3.setCell ((ptr b43).add 1) (.int .i64 w)) b43 50 [.int .i64 (x.tmod I),.int .i64 w,.int .i64 ((x.tdiv 16).tmod 7 - 4)] := B43c.set 1 (.int .i64 w)
   have nA : ∀ p,A.a = some p → b43 ≠ p.block := by
     rintro p hp rfl
     obtain ⟨arr,ha⟩ := hF1.oa.obj hp
     rw [ha] at h43; cases h43
   have hF4 := hF3.keep st4 (by rintro b rfl; exact ⟨n43,ne_ty B43c hF3.blk (by decide),nA,hF3.nK B43c (by decide)⟩)
   have hT4 := hT3.keep st4 (by rintro rfl; exact absurd rfl (ne_ty hT3.blk B43c (by decide)))
   have hR4 := hR3.keep st4 (by rintro rfl; exact absurd rfl (ne_ty hR3 B43c (by decide)))
   generalize τ3.setCell ((ptr b43).add 1) (.int .i64 w) = τ4 at *
   have g43d := B43d.get (i := 0) rfl
   rw [e0] at g43d
   refine ⟨_,hF4.blk.get (i := 2) rfl,_,_,_,rfl,_,g43d,_,B43d.get (i := 1) rfl,_,B43d.get (i := 2) rfl,_,_,_,rfl,?_⟩
   intro b68 h68
   refine hF4.atom (x.tmod I,w,(x.tdiv 16).tmod 7 - 4) (by rw [atR_len]; omega) h68 fun A' τ5 hF5 st5 => ?_
   rw [wnat (by omega)]
   refine hRR A' _ (by omega) ⟨?_,?_,?_⟩
   · rw [atR,hx,hy]; unfold difOf; rw [← hw]; exact hF5
   · rw [atR]
     exact hT4.keep st5 (by rintro (h | ⟨p,hp,h⟩); exact ne_ty hT4.blk hF4.blk (by decide) h; exact hF4.nA hT4.blk (by decide) p hp h)
   · exact hR4.keep st5 (by rintro (h | ⟨p,hp,h⟩); exact d8 h; exact hF4.nA hR4 (by decide) p hp h)
 · have hkN : k = N := by omega
   subst hkN
   have han := hF.an
   rw [atR_len] at han
   refine ⟨_,hF.blk.get (i := 2) rfl,_,_,_,rfl,_,hP.get (i := 2) rfl,_,rfl,by omega,rfl,⟨_,hF.blk.get (i := 1) rfl⟩,hF.blk.froz 1,?_⟩
   obtain ⟨B,hB⟩ : ∃ B : Int,B = ((atR l' I k).2.length : Int) + s2.tmod 7 := ⟨_,rfl⟩
   have wB : IntKind.wrap .i64 ((A.n : Int) + Int.tmod (IntKind.wrap .i64 s2) 7) = B := by rw [wi h2,w64 (by omega) (by omega),hB,atR_len,han]
   rw [wB]
   have hprob : probF s0 s1 s2 l' = ⟨I.toNat,B.toNat,(atR l' I k).2,clE l' B (atR l' I k).1 40 0⟩ := by
     unfold probF; rw [← hI,← hN,← hB]
   rw [hprob] at hQ hp
   have hB1 : 1 ≤ B ∧ B ≤ 18 := by rw [hB,atR_len]; omega
   have hF' := hF.setBools B
   have st : Step (· = b11) ω (ω.setCell ((ptr b11).add 1) (.int .i64 B)) := setCell_step.weaken fun b hb => hb.trans (add_block _ _)
   have hT' := hT.keep st (fun h => ne_ty hT.blk hF.blk (by decide) h)
   have hR' := hR.keep st (fun h => d8 h)
   generalize ω.setCell ((ptr b11).add 1) (.int .i64 B) = ω' at *
   have hk0 := atR_le (l := l') (I := I) k
   generalize (atR l' I k).1 = k0 at *
   generalize (atR l' I k).2 = at' at *
   clear hT hR hF st
   unfold S21_3
   refine iloopS_for (G := Sli) (fun _ _ => (ptr b8,ptr b11,ptr b24)) (fun i K υ => clE l' B k0 (40 - i) i = clE l' B k0 40 0 ∧ Blk υ b8 29 [.int .i64 0,.int .i64 0,.slice none 0 0,.slice none 0 0] ∧ ∃ φ',φ.sub φ' ∧ φ' b8 = none ∧ FB φ' υ b11 I B A K at' (clS l' B k0 i).2 ∧ Tape φ' υ b24 ⟨a,min 300 n,c⟩ l' (clS l' B k0 i).1) 40 ?_ (g := ⟨none,0,0⟩) ⟨rfl,hR',φ,.refl _,n8,hF',hT'⟩
   rintro i K υ hi ⟨hE,hRu,φ',hφ,hn8,hFu,hTu⟩ R hRR
   unfold S21_4
   dsimp only
   have hkn := hFu.kn
   rw [clS_len] at hkn
   have t0 := hTu.blk.get (i := 0) rfl
   rw [e0] at t0
   have fin : clE l' B k0 40 0 = (clS l' B k0 i).2 → ∃ v167,PH.cell? υ (ptr b11) = some v167 ∧ ∃ v168,PH.cell? υ ((ptr b11).add 1) = some v168 ∧ ∃ v169,PH.cell? υ ((ptr b11).add 2) = some v169 ∧ ∃ v170,PH.cell? υ ((ptr b11).add 3) = some v170 ∧ ∃ (i171 : Int) (i172 : Int) (a173 : Option Addr) (n174 : Nat) (c175 : Nat) (a176 : Option Addr) (n177 : Nat) (c178 : Nat),letI h903 : PH := PH.setCell υ (ptr b8) (.int .i64 i171); letI h904 : PH := PH.setCell h903 ((ptr b8).add 1) (.int .i64 i172); letI h906 : PH := PH.setCell h904 ((ptr b8).add 2) (.slice a173 n174 c175); letI h908 : PH := PH.setCell h906 ((ptr b8).add 3) (.slice a176 n177 c178); Value.agg #[v167,v168,v169,v170] = (.agg #[.int .i64 i171,.int .i64 i172,.slice a173 n174 c175,.slice a176 n177 c178]) ∧ (∃ u179,PH.cell? υ (ptr b8) = some u179) ∧ PH.froz υ (ptr b8) = some false ∧ (∃ u180,PH.cell? h903 ((ptr b8).add 1) = some u180) ∧ PH.froz h903 ((ptr b8).add 1) = some false ∧ (∃ u181,PH.cell? h904 ((ptr b8).add 2) = some u181) ∧ PH.froz h904 ((ptr b8).add 2) = some false ∧ (∃ u182,PH.cell? h906 ((ptr b8).add 3) = some u182) ∧ PH.froz h906 ((ptr b8).add 3) = some false ∧ ∃ v183,PH.cell? h908 (ptr b8) = some v183 ∧ ∃ v184,PH.cell? h908 ((ptr b8).add 1) = some v184 ∧ ∃ v185,PH.cell? h908 ((ptr b8).add 2) = some v185 ∧ ∃ v186,PH.cell? h908 ((ptr b8).add 3) = some v186 ∧ Q (.agg #[v183,v184,v185,v186]) h908 := by
     intro hfin
     rw [hfin] at hQ
     have f0 := hFu.blk.get (i := 0) rfl
     rw [e0] at f0
     refine ⟨_,f0,_,hFu.blk.get (i := 1) rfl,_,hFu.blk.get (i := 2) rfl,_,hFu.blk.get (i := 3) rfl,_,_,_,_,_,_,_,_,rfl,?_⟩
     have r0 := hRu.get (i := 0) rfl
     rw [e0] at r0
     have z0 := hRu.froz 0
     rw [e0] at z0
     have R1 : Blk (υ.setCell (ptr b8) (.int .i64 I)) b8 29 [.int .i64 I,.int .i64 0,.slice none 0 0,.slice none 0 0] := hRu.set 0 (.int .i64 I)
     have R2 : Blk ((υ.setCell (ptr b8) (.int .i64 I)).setCell ((ptr b8).add 1) (.int .i64 B)) b8 29 [.int .i64 I,.int .i64 B,.slice none 0 0,.slice none 0 0] := R1.set 1 (.int .i64 B)
     have R3 : Blk (((υ.setCell (ptr b8) (.int .i64 I)).setCell ((ptr b8).add 1) (.int .i64 B)).setCell ((ptr b8).add 2) A.v) b8 29 [.int .i64 I,.int .i64 B,A.v,.slice none 0 0] := R2.set 2 A.v
     have R4 : Blk ((((υ.setCell (ptr b8) (.int .i64 I)).setCell ((ptr b8).add 1) (.int .i64 B)).setCell ((ptr b8).add 2) A.v).setCell ((ptr b8).add 3) K.v) b8 29 [.int .i64 I,.int .i64 B,A.v,K.v] := R3.set 3 K.v
     refine ⟨⟨_,r0⟩,z0,⟨_,R1.get (i := 1) rfl⟩,R1.froz 1,⟨_,R2.get (i := 2) rfl⟩,R2.froz 2,⟨_,R3.get (i := 3) rfl⟩,R3.froz 3,?_⟩
     have q0 := R4.get (i := 0) rfl
     rw [e0] at q0
     refine ⟨_,q0,_,R4.get (i := 1) rfl,_,R4.get (i := 2) rfl,_,R4.get (i := 3) rfl,?_⟩
     have w1 : ∀ {x : PH} {j : Nat} {v : Value},Step (· = b8) x (x.setCell ((ptr b8).add j) v) := fun {x j v} => setCell_step.weaken fun b hb => hb.trans (add_block _ _)
     have sR : Step (· = b8) υ ((((υ.setCell (ptr b8) (.int .i64 I)).setCell ((ptr b8).add 1) (.int .i64 B)).setCell ((ptr b8).add 2) A.v).setCell ((ptr b8).add 3) K.v) := (((w1 (j := 0)).trans w1).trans w1).trans w1
     have hFR := hFu.toFR.keep sR (by rintro b rfl; exact ⟨hn8,hFu.nA hRu (by decide),hFu.nK hRu (by decide)⟩)
     have := hQ φ' _ A K (s7.trans hφ) hFR hFu.oa.le (by obtain ⟨vs,o,_⟩ := hFu.ok; exact o.le)
     rw [show ((I.toNat : Nat) : Int) = I by omega,show ((B.toNat : Nat) : Int) = B by omega] at this
     exact this
   have hTlen := hTu.u8.len
   have hTle := hTu.le
   refine ⟨_,rfl,_,hTu.blk.get (i := 1) rfl,_,rfl,_,rfl,_,t0,_,_,_,rfl,br_dec.2 ⟨fun hlt => ⟨_,hFu.blk.get (i := 3) rfl,_,_,_,rfl,br_dec.2 ⟨fun h40 => ?_,fun h40 => ?_⟩⟩,fun hge => ?_⟩⟩
   · have hi40 : i < 40 := by omega
     have hcont : clE l' B k0 (40 - (i + 1)) (i + 1) = clE l' B k0 40 0 := by
       rw [← hE,show 40 - i = (40 - (i + 1)) + 1 by omega,clE,if_pos (by omega)]
     refine c41 hTu hFu.sub (by omega) (by omega) fun τ st1 hs1 hT1 => ?_
     rw [nx256 hl]
     have hF1 := hFu.step1 hTu.blk (by decide) hTu.new st1
     have hR1 := hRu.keep st1 (by rintro rfl; exact absurd rfl (ne_ty hTu.blk hRu (by decide)))
     refine ⟨τ,.refl _,_,rfl,by omega,rfl,?_⟩
     obtain ⟨x1,x2⟩ := nxv_rng hl (clS l' B k0 i).1
     obtain ⟨y1,y2⟩ := tm x1 (show (0 : Int) < 4 by omega)
     obtain ⟨m,hm⟩ : ∃ m : Nat,m = ((nxv l' (clS l' B k0 i).1).tmod 4).toNat + 1 := ⟨_,rfl⟩
     rw [show (nxv l' (clS l' B k0 i).1).tmod 4 = (m : Int) - 1 by omega]
     obtain ⟨k1,hk1⟩ : ∃ k1,k1 = nxk l' (clS l' B k0 i).1 := ⟨_,rfl⟩
     rw [← hk1] at hT1
     have hm4 : 1 ≤ m ∧ m ≤ 4 := by omega
     clear st1 hs1
     unfold S21_5
     have hst0 : ((ptr b8,ptr b11,ptr b24,(none : Option Addr),0,0,(m : Int) - 1) : T21_5) = (fun (j : Nat) (s : Sli) => ((ptr b8,ptr b11,ptr b24,s.a,s.n,s.c,(m : Int) - 1 - (j : Int)) : T21_5)) 0 ⟨none,0,0⟩ := by simp
     rw [hst0]
     refine iloopS_for (G := Sli) (fun (j : Nat) (s : Sli) => ((ptr b8,ptr b11,ptr b24,s.a,s.n,s.c,(m : Int) - 1 - (j : Int)) : T21_5)) (fun j s ξ => FB φ' ξ b11 I B A K at' (clS l' B k0 i).2 ∧ Tape φ' ξ b24 ⟨a,min 300 n,c⟩ l' (litS l' B k1 j).1 ∧ Blk ξ b8 29 [.int .i64 0,.int .i64 0,.slice none 0 0,.slice none 0 0] ∧ Own ξ 3 1 s.a s.n s.c (ints (litS l' B k1 j).2) ∧ ∀ p,s.a = some p → φ' p.block = none) m ?_ (g := ⟨none,0,0⟩) ⟨hF1,hT1,hR1,own_nil,by simp⟩
     rintro j s ξ hj ⟨hFx,hTx,hRx,hO,hOn⟩ R5 hR5
     unfold S21_6
     dsimp only
     have hOl := own_len hO
     rw [litS_len] at hOl
     refine br_dec.2 ⟨fun hge => ?_,fun hlt2 => ?_⟩
     · have hjm : j < m := by omega
       refine c41 hTx hFx.sub (by omega) (by omega) fun τ2 st2 hs2 hT2 => ?_
       rw [nx256 hl]
       have hF2 := hFx.step1 hTx.blk (by decide) hTx.new st2
       have hR2 := hRx.keep st2 (by rintro rfl; exact absurd rfl (ne_ty hTx.blk hRx (by decide)))
       have hO2 : Own τ2 3 1 s.a s.n s.c (ints (litS l' B k1 j).2) := hO.keep st2 (by
         intro p hp e
         obtain ⟨arr,ha⟩ := hO.obj hp
         exact ne_ty ha hTx.blk (by decide) e)
       obtain ⟨xx1,xx2⟩ := nxv_rng hl (litS l' B k1 j).1
       have hnext : (litS l' B k1 (j + 1)) = (nxk l' (litS l' B k1 j).1,(litS l' B k1 j).2 ++ [litOf B (nxv l' (litS l' B k1 j).1)]) := rfl
       generalize nxv l' (litS l' B k1 j).1 = x at *
       obtain ⟨q1,q2⟩ := td xx1 (show (0 : Int) ≤ 2 by omega)
       obtain ⟨q3,q4⟩ := tm q1 (show (0 : Int) < B by omega)
       have wx : IntKind.wrap .i64 (Int.tdiv x 2) = x.tdiv 2 := w64 (by omega) (by omega)
       have wl : IntKind.wrap .i64 (1 + (x.tdiv 2).tmod B) = 1 + (x.tdiv 2).tmod B := w64 (by omega) (by omega)
       have wn : IntKind.wrap .i64 (0 - (1 + (x.tdiv 2).tmod B)) = -(1 + (x.tdiv 2).tmod B) := by rw [w64 (by omega) (by omega)]; omega
       have wj : IntKind.wrap .i64 ((m : Int) - 1 - (j : Int) - 1) = (m : Int) - 1 - ((j + 1 : Nat) : Int) := by rw [w64 (by omega) (by omega)]; omega
       refine ⟨τ2,.refl _,_,rfl,by omega,rfl,_,hF2.blk.get (i := 1) rfl,_,rfl,by omega,rfl,by omega,rfl,?_⟩
       rw [wx,wl,wn,wj]
       have key : ∀ (y : Int),y = litOf B x → ∀ b : Nat,τ2 b = none → iappend prog 3 (.slice s.a s.n s.c) (.slice (some ⟨b,0,none⟩) 1 1) (fun v τ => ∃ (a : Option Addr) (n c : Nat),v = .slice a n c ∧ R5 (ptr b8,ptr b11,ptr b24,a,n,c,(m : Int) - 1 - ((j + 1 : Nat) : Int)) τ) (PH.set τ2 b (.cells #[.int .i64 y] 3)) := by
         intro y hy b hb
         refine pushRow t3.1 t3.2.1 t3.2.2 rfl (by decide) hO2 hb (news := [.int .i64 y]) rfl (by intro v hv; simp at hv; subst hv; trivial) (by omega) ?_
         intro a' c' τ3 hO3 hst hnew
         have hM : ∀ b,(∃ p,s.a = some p ∧ b = p.block) → φ' b = none ∧ b ≠ b11 ∧ (∀ p,A.a = some p → b ≠ p.block) ∧ (∀ p,K.a = some p → b ≠ p.block) := by
           rintro b ⟨p,hp,rfl⟩
           obtain ⟨arr,ha⟩ := hO2.obj hp
           exact ⟨hOn p hp,ne_ty ha hF2.blk (by decide),hF2.nA ha (by decide),hF2.nK ha (by decide)⟩
         refine ⟨_,_,_,rfl,hR5 ⟨a',s.n + 1,c'⟩ τ3 hjm ⟨hF2.keep hst hM,?_,?_,?_,?_⟩⟩
         · rw [hnext]
           refine hT2.keep hst ?_
           rintro ⟨p,hp,e⟩
           obtain ⟨arr,ha⟩ := hO2.obj hp
           exact ne_ty hT2.blk ha (by decide) e
         · refine hR2.keep hst ?_
           rintro ⟨p,hp,e⟩
           obtain ⟨arr,ha⟩ := hO2.obj hp
           exact ne_ty hR2 ha (by decide) e
         · rw [hnext,← hy]
           have : ints ((litS l' B k1 j).2 ++ [y]) = ints (litS l' B k1 j).2 ++ [.int .i64 y] := by unfold ints; simp
           rw [this]; exact hO3
         · intro p hp
           rcases hnew p hp with ⟨p',g1,g2⟩ | g1
           · rw [g2]; exact hOn p' g1
           · exact new_of hF2.sub g1
       refine br_iff.2 ⟨fun h => key _ ?_,fun h => key _ ?_⟩
       · unfold litOf; rw [if_pos (eq_of_beq h)]
       · unfold litOf; rw [if_neg (by simpa using h)]
     · have hjm : j = m := by omega
       subst hjm
       refine ⟨_,hFx.blk.get (i := 3) rfl,_,_,_,rfl,?_⟩
       intro b140 h140
       obtain ⟨φ2,f1,f2,f3,f4⟩ := hFx.freeze (fun b => b = b8 ∨ b = b24) (by rintro b (rfl | rfl); exact hn8; exact hTx.new)
       have hI2 : Own φ2 3 1 s.a s.n s.c (ints (litS l' B k1 j).2) := own_frozen hO fun p hp => by
         obtain ⟨arr,ha⟩ := hO.obj hp
         refine f4 _ (ne_ty ha hFx.blk (by decide)) (hFx.nA ha (by decide)) (hFx.nK ha (by decide)) ?_
         rintro (e | e)
         · exact ne_ty ha hRx (by decide) e
         · exact ne_ty ha hTx.blk (by decide) e
       refine f2.clause hI2 (by rw [clS_len]; omega) h140 fun K' τ5 hF5 st5 => ?_
       have hnext : clS l' B k0 (i + 1) = ((litS l' B k1 j).1,(clS l' B k0 i).2 ++ [(litS l' B k1 j).2]) := by rw [clS,← hm,← hk1]
       have hTf : Tape φ2 ξ b24 ⟨a,min 300 n,c⟩ l' (litS l' B k1 j).1 := hTx.grow f1 (f3 _ (.inr rfl))
       refine hRR K' τ5 hi40 ⟨hcont,?_,φ2,hφ.trans f1,f3 _ (.inl rfl),?_,?_⟩
       · exact hRx.keep st5 (by rintro (h | ⟨p,hp,h⟩); exact d8 h; exact hFx.nK hRx (by decide) p hp h)
       · rw [hnext]; exact hF5
       · rw [hnext]
         exact hTf.keep st5 (by rintro (h | ⟨p,hp,h⟩); exact ne_ty hTf.blk hFx.blk (by decide) h; exact hFx.nK hTf.blk (by decide) p hp h)
   · refine fin ?_
     have : i = 40 := by omega
     subst this
     exact hE.symm
   · refine fin ?_
     rw [← hE]
     cases hd : 40 - i with
     | zero => rfl
     | succ f => rw [clE,if_neg (by omega)]
end Go.Proofs.Ythfnjogadngfiaa
