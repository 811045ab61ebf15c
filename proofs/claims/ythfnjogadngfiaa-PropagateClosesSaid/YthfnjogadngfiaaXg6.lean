/- A part of the proof: see the last text, YthfnjogadngfiaaXg14. -/
import Derived.Test.YthfnjogadngfiaaXg5
set_option maxRecDepth 100000
set_option linter.unusedVariables false
set_option linter.unusedSimpArgs false
namespace Go.Proofs.Ythfnjogadngfiaa
open Go.Sl
noncomputable def code88 : Code := (Try.f88.body).getD .skip
noncomputable def i88 (p : Nat) (call : CallR) (K : IX → Env → PH → Prop) (e : Env) : PH → Prop := icode prog call (nav (pp p) code88) (anav (pp p) an88) K e
def k88 (p : Nat) : Env → Env := Ann.cut (anav (pp p) an88)
noncomputable def K88_0 (_ : CallR) (Q : QT) : KT := finK prog Try.f88 Q
noncomputable def K88_1 (call : CallR) (Q : QT) : KT := seqK (i88 7 call (K88_0 call Q)) (k88 3) (K88_0 call Q)
noncomputable def K88_2 (call : CallR) (Q : QT) : KT := blockK 0 (K88_1 call Q)
abbrev T88_1 := Option Addr × Nat × Nat × Int × Int × Int
def S88_2 (call : CallR) (Q : QT) (R1 : T88_1 → PH → Prop) (l5 : Option Addr) (len6 cap7 : Nat) (x8 x9 x10 : Int) (σ : PH) : Prop :=
 br (decide (x10 < x9)) (∃ p17,l5 = some p17 ∧ 0 ≤ x10 ∧ x10 < (len6 : Int) ∧ ∃ v18,PH.cell? σ (p17.add (x10.toNat * 1)) = some v18 ∧ ∃ i19,v18 = .int .i64 i19 ∧ br (x8 == i19) (Q (.int .i64 x10) σ) (R1 (l5,len6,cap7,x8,x9,(IntKind.wrap .i64 (x10 + 1))) σ)) (Q (.int .i64 ((-1) : Int)) σ)
def S88_1 (call : CallR) (Q : QT) (l5 : Option Addr) (len6 cap7 : Nat) (x8 x9 x10 : Int) (σ : PH) : Prop := iloopS (fun (R1 : T88_1 → PH → Prop) (x : T88_1) σ => S88_2 call Q R1 x.1 x.2.1 x.2.2.1 x.2.2.2.1 x.2.2.2.2.1 x.2.2.2.2.2 σ) (l5,len6,cap7,x8,x9,x10) σ
def S88_0 (call : CallR) (Q : QT) (a1 : Option Addr) (n2 c3 : Nat) (i4 : Int) (σ : PH) : Prop :=
 S88_1 call Q a1 n2 c3 i4 (n2 : Int) (0 : Int) σ
noncomputable def M88_1 (x : T88_1) : Env := ([some (.slice x.1 x.2.1 x.2.2.1),some (.int .i64 x.2.2.2.1),oo,oo,oo,oo,oo,some (.int .i64 x.2.2.2.2.1),some (.int .i64 x.2.2.2.2.2)] ++ rp 10)
noncomputable def L88_1 (call : CallR) (Q : QT) (l5 : Option Addr) (len6 cap7 : Nat) (x8 x9 x10 : Int) : PH → Prop := iloop (i88 37 call) (k88 21) (K88_2 call Q) (M88_1 (l5,len6,cap7,x8,x9,x10))
theorem E88_1 (call : CallR) (Q : QT) : L88_1 call Q = S88_1 call Q := by
 repeat funext _
 refine iloop_inv M88_1 (fun e => (sa (gv e 0),sl (gv e 0),sc (gv e 0),vi (gv e 1),vi (gv e 7),vi (gv e 8))) (fun _ => rfl) _ _ _ _ (fun D1 x σ => ?_) _ _
 kernel_rfl
theorem E88_0 (call : CallR) (Q : QT) (a1 : Option Addr) (n2 c3 : Nat) (i4 : Int) (σ : PH) : ibody prog anns call 88 #[(.slice a1 n2 c3),(.int .i64 i4)] Q σ = S88_0 call Q a1 n2 c3 i4 σ := by
 rw [S88_0,← E88_1 call Q]
 kernel_rfl
noncomputable def code91 : Code := (Try.f91.body).getD .skip
noncomputable def i91 (p : Nat) (call : CallR) (K : IX → Env → PH → Prop) (e : Env) : PH → Prop := icode prog call (nav (pp p) code91) (anav (pp p) an91) K e
def k91 (p : Nat) : Env → Env := Ann.cut (anav (pp p) an91)
noncomputable def K91_0 (_ : CallR) (Q : QT) : KT := finK prog Try.f91 Q
noncomputable def K91_1 (call : CallR) (Q : QT) : KT := seqK (i91 7 call (K91_0 call Q)) (k91 3) (K91_0 call Q)
noncomputable def K91_2 (call : CallR) (Q : QT) : KT := blockK 0 (K91_1 call Q)
abbrev T91_1 := Option Addr × Int × Option Addr × Nat × Nat × Int × Int
def S91_2 (call : CallR) (Q : QT) (R1 : T91_1 → PH → Prop) (r21 : Option Addr) (x22 : Int) (l23 : Option Addr) (len24 cap25 : Nat) (x26 x27 : Int) (σ : PH) : Prop :=
 br (decide (x27 < x26)) (∃ p35,l23 = some p35 ∧ 0 ≤ x27 ∧ x27 < (len24 : Int) ∧ ∃ v36,PH.cell? σ (p35.add (x27.toNat * 1)) = some v36 ∧ ∃ i37,v36 = .int .i64 i37 ∧ ∃ (i38 : Int),∃ bs39 : List Nat,∃ (i40 : Int),∃ bs41 : List Nat,∃ p42,r21 = some p42 ∧ ∃ v43,PH.cell? σ (p42.add 8) = some v43 ∧ ∃ a44 n45 c46,v43 = .slice a44 n45 c46 ∧ quiet call 74 #[.int .i64 i37] (.int .i64 i38) bs39 σ ∧ ∃ p47,r21 = some p47 ∧ ∃ v48,PH.cell? σ (p47.add 10) = some v48 ∧ ∃ a49 n50 c51,v48 = .slice a49 n50 c51 ∧ quiet call 74 #[.int .i64 i37] (.int .i64 i40) bs41 σ ∧ ∃ p52,letI h903 : PH := PH.setCell σ (p52.add (i38.toNat * 1)) (.int .i64 (0 : Int)); a44 = some p52 ∧ 0 ≤ i38 ∧ i38 < (n45 : Int) ∧ (∃ u53,PH.cell? σ (p52.add (i38.toNat * 1)) = some u53) ∧ PH.froz σ (p52.add (i38.toNat * 1)) = some false ∧ ∃ p54,a49 = some p54 ∧ 0 ≤ i40 ∧ i40 < (n50 : Int) ∧ (∃ u55,PH.cell? h903 (p54.add (i40.toNat * 1)) = some u55) ∧ PH.froz h903 (p54.add (i40.toNat * 1)) = some false ∧ R1 (r21,x22,l23,len24,cap25,x26,(IntKind.wrap .i64 (x27 + 1))) (PH.setCell h903 (p54.add (i40.toNat * 1)) (.pointer none))) (∃ p56,r21 = some p56 ∧ ∃ v57,PH.cell? σ (p56.add 11) = some v57 ∧ ∃ a58 n59 c60,v57 = .slice a58 n59 c60 ∧ ∃ p61,r21 = some p61 ∧ ∃ v62,PH.cell? σ (p61.add 12) = some v62 ∧ ∃ a63 n64 c65,v62 = .slice a63 n64 c65 ∧ ∃ p66,a63 = some p66 ∧ 0 ≤ x22 ∧ x22 < (n64 : Int) ∧ ∃ v67,PH.cell? σ (p66.add (x22.toNat * 1)) = some v67 ∧ ∃ i68,v67 = .int .i64 i68 ∧ 0 ≤ i68 ∧ i68 ≤ (c60 : Int) ∧ ∃ p69,letI h901 : PH := PH.setCell σ (p69.add 11) (.slice a58 (Int.toNat i68) c60); r21 = some p69 ∧ (∃ u70,PH.cell? σ (p69.add 11) = some u70) ∧ PH.froz σ (p69.add 11) = some false ∧ ∃ p71,r21 = some p71 ∧ ∃ v72,PH.cell? h901 (p71.add 12) = some v72 ∧ ∃ a73 n74 c75,v72 = .slice a73 n74 c75 ∧ 0 ≤ x22 ∧ x22 ≤ (c75 : Int) ∧ ∃ p76,letI h902 : PH := PH.setCell h901 (p76.add 12) (.slice a73 (Int.toNat x22) c75); r21 = some p76 ∧ (∃ u77,PH.cell? h901 (p76.add 12) = some u77) ∧ PH.froz h901 (p76.add 12) = some false ∧ ∃ p78,r21 = some p78 ∧ ∃ v79,PH.cell? h902 (p78.add 11) = some v79 ∧ ∃ a80 n81 c82,v79 = .slice a80 n81 c82 ∧ ∃ p83,r21 = some p83 ∧ (∃ u84,PH.cell? h902 (p83.add 13) = some u84) ∧ PH.froz h902 (p83.add 13) = some false ∧ Q (.tuple #[]) (PH.setCell h902 (p83.add 13) (.int .i64 (n81 : Int))))
def S91_1 (call : CallR) (Q : QT) (r21 : Option Addr) (x22 : Int) (l23 : Option Addr) (len24 cap25 : Nat) (x26 x27 : Int) (σ : PH) : Prop := iloopS (fun (R1 : T91_1 → PH → Prop) (x : T91_1) σ => S91_2 call Q R1 x.1 x.2.1 x.2.2.1 x.2.2.2.1 x.2.2.2.2.1 x.2.2.2.2.2.1 x.2.2.2.2.2.2 σ) (r21,x22,l23,len24,cap25,x26,x27) σ
def S91_0 (call : CallR) (Q : QT) (p1 : Option Addr) (i2 : Int) (σ : PH) : Prop :=
 ∃ p3,p1 = some p3 ∧ ∃ v4,PH.cell? σ (p3.add 12) = some v4 ∧ ∃ a5 n6 c7,v4 = .slice a5 n6 c7 ∧ br (decide ((n6 : Int) ≤ i2)) (Q (.tuple #[]) σ) (∃ p8,p1 = some p8 ∧ ∃ v9,PH.cell? σ (p8.add 11) = some v9 ∧ ∃ a10 n11 c12,v9 = .slice a10 n11 c12 ∧ ∃ p13,p1 = some p13 ∧ ∃ v14,PH.cell? σ (p13.add 12) = some v14 ∧ ∃ a15 n16 c17,v14 = .slice a15 n16 c17 ∧ ∃ p18,a15 = some p18 ∧ 0 ≤ i2 ∧ i2 < (n16 : Int) ∧ ∃ v19,PH.cell? σ (p18.add (i2.toNat * 1)) = some v19 ∧ ∃ i20,v19 = .int .i64 i20 ∧ 0 ≤ i20 ∧ i20 ≤ (n11 : Int) ∧ S91_1 call Q p1 i2 (cutAt a10 c12 (Int.toNat i20) 1) (n11 - Int.toNat i20) (c12 - Int.toNat i20) (((n11 - Int.toNat i20) : Nat) : Int) (0 : Int) σ)
noncomputable def M91_1 (x : T91_1) : Env := ([some (.pointer x.1),some (.int .i64 x.2.1),oo,oo,oo,oo,oo,oo,oo,oo,oo,oo,oo,oo,oo,oo,oo,oo,oo,oo,oo,oo,oo,oo,some (.slice x.2.2.1 x.2.2.2.1 x.2.2.2.2.1),some (.int .i64 x.2.2.2.2.2.1),some (.int .i64 x.2.2.2.2.2.2)] ++ rp 50)
noncomputable def L91_1 (call : CallR) (Q : QT) (r21 : Option Addr) (x22 : Int) (l23 : Option Addr) (len24 cap25 : Nat) (x26 x27 : Int) : PH → Prop := iloop (i91 37 call) (k91 21) (K91_2 call Q) (M91_1 (r21,x22,l23,len24,cap25,x26,x27))
theorem E91_1 (call : CallR) (Q : QT) : L91_1 call Q = S91_1 call Q := by
 repeat funext _
 refine iloop_inv M91_1 (fun e => (vp (gv e 0),vi (gv e 1),sa (gv e 24),sl (gv e 24),sc (gv e 24),vi (gv e 25),vi (gv e 26))) (fun _ => rfl) _ _ _ _ (fun D1 x σ => ?_) _ _
 kernel_rfl
theorem E91_0 (call : CallR) (Q : QT) (p1 : Option Addr) (i2 : Int) (σ : PH) : ibody prog anns call 91 #[(.pointer p1),(.int .i64 i2)] Q σ = S91_0 call Q p1 i2 σ := by
 rw [S91_0,← E91_1 call Q]
 kernel_rfl
noncomputable def code92 : Code := (Try.f92.body).getD .skip
noncomputable def i92 (p : Nat) (call : CallR) (K : IX → Env → PH → Prop) (e : Env) : PH → Prop := icode prog call (nav (pp p) code92) (anav (pp p) an92) K e
def k92 (p : Nat) : Env → Env := Ann.cut (anav (pp p) an92)
noncomputable def K92_0 (_ : CallR) (Q : QT) : KT := finK prog Try.f92 Q
noncomputable def K92_1 (call : CallR) (Q : QT) : KT := seqK (i92 15 call (K92_0 call Q)) (k92 7) (K92_0 call Q)
noncomputable def K92_2 (call : CallR) (Q : QT) : KT := blockK 0 (K92_1 call Q)
abbrev T92_1 := Option Addr × Int × Int × Addr
def S92_2 (call : CallR) (Q : QT) (R1 : T92_1 → PH → Prop) (r8 : Option Addr) (x9 x10 : Int) (r11 : Addr) (σ : PH) : Prop :=
 Addr.off r11 = 0 ∧ ∃ (m16 w17 : Nat) (seen18 : Array Nat) (last19 : Nat) (es20 : Array MapEntry) (ck21 : Nat),σ (Addr.block r11) = some (.mapIter (some m16) w17 seen18 last19) ∧ σ m16 = some (.map es20 ck21) ∧ (∀ e ∈ es20.toList,e.born < w17) ∧ (seen18.isEmpty = true ∨ es20.isEmpty = true ∨ ∃ e ∈ es20.toList,e.born < last19) ∧ ((∀ e ∈ es20.toList,seen18.contains e.born = true) → Q (.int .i64 x10) σ) ∧ (∀ e22 ∈ es20.toList,letI h901 : PH := PH.set σ (Addr.block r11) (.mapIter (some m16) w17 (seen18.push e22.born) ck21); seen18.contains e22.born = false → Addr.off r11 = 0 ∧ ∃ (m23 w24 : Nat) (seen25 : Array Nat) (last26 : Nat) (es27 : Array MapEntry) (ck28 st29 : Nat) (e30 : MapEntry),h901 (Addr.block r11) = some (.mapIter (some m23) w24 seen25 last26) ∧ h901 m23 = some (.map es27 ck28) ∧ ck28 = last26 ∧ seen25.back? = some st29 ∧ es27.find? (fun x => x.born == st29) = some e30 ∧ ∃ n31 : Int,e30.key = .int .i64 n31 ∧ ∃ (i32 : Int),∃ bs33 : List Nat,∃ p34,r8 = some p34 ∧ ∃ v35,PH.cell? h901 (p34.add 9) = some v35 ∧ ∃ a36 n37 c38,v35 = .slice a36 n37 c38 ∧ quiet call 74 #[.int .i64 n31] (.int .i64 i32) bs33 h901 ∧ ∃ p39,a36 = some p39 ∧ 0 ≤ i32 ∧ i32 < (n37 : Int) ∧ ∃ v40,PH.cell? h901 (p39.add (i32.toNat * 1)) = some v40 ∧ ∃ i41,v40 = .int .i64 i41 ∧ br (i41 == x9) (R1 (r8,x9,(IntKind.wrap .i64 (x10 + 1)),r11) h901) (R1 (r8,x9,x10,r11) h901))
def S92_1 (call : CallR) (Q : QT) (r8 : Option Addr) (x9 x10 : Int) (r11 : Addr) (σ : PH) : Prop := iloopS (fun (R1 : T92_1 → PH → Prop) (x : T92_1) σ => S92_2 call Q R1 x.1 x.2.1 x.2.2.1 x.2.2.2 σ) (r8,x9,x10,r11) σ
def S92_0 (call : CallR) (Q : QT) (p1 : Option Addr) (m2 : Option Nat) (i3 : Int) (σ : PH) : Prop :=
 ∃ q4 : Nat,m2 = some q4 ∧ ∃ (es5 : Array MapEntry) (ck6 : Nat),σ q4 = some (.map es5 ck6) ∧ ∀ b7 : Nat,σ b7 = none → S92_1 call Q p1 i3 (0 : Int) (⟨b7,0,none⟩ : Addr) (PH.set σ b7 (.mapIter (some q4) ck6 #[] ck6))
noncomputable def M92_1 (x : T92_1) : Env := ([some (.pointer x.1),oo,some (.int .i64 x.2.1),oo,oo,oo,oo,some (.int .i64 x.2.2.1),oo,oo,some (.pointer (some x.2.2.2))] ++ rp 17)
noncomputable def L92_1 (call : CallR) (Q : QT) (r8 : Option Addr) (x9 x10 : Int) (r11 : Addr) : PH → Prop := iloop (i92 75 call) (k92 43) (K92_2 call Q) (M92_1 (r8,x9,x10,r11))
theorem E92_1 (call : CallR) (Q : QT) : L92_1 call Q = S92_1 call Q := by
 repeat funext _
 refine iloop_inv M92_1 (fun e => (vp (gv e 0),vi (gv e 2),vi (gv e 7),va (gv e 10))) (fun _ => rfl) _ _ _ _ (fun D1 x σ => ?_) _ _
 kernel_rfl
theorem E92_0 (call : CallR) (Q : QT) (p1 : Option Addr) (m2 : Option Nat) (i3 : Int) (σ : PH) : ibody prog anns call 92 #[(.pointer p1),(.map m2),(.int .i64 i3)] Q σ = S92_0 call Q p1 m2 i3 σ := by
 rw [S92_0,← E92_1 call Q]
 kernel_rfl
noncomputable def code93 : Code := (Try.f93.body).getD .skip
noncomputable def i93 (p : Nat) (call : CallR) (K : IX → Env → PH → Prop) (e : Env) : PH → Prop := icode prog call (nav (pp p) code93) (anav (pp p) an93) K e
def k93 (p : Nat) : Env → Env := Ann.cut (anav (pp p) an93)
noncomputable def K93_0 (_ : CallR) (Q : QT) : KT := finK prog Try.f93 Q
noncomputable def K93_1 (call : CallR) (Q : QT) : KT := seqK (i93 55 call (K93_0 call Q)) (k93 23) (K93_0 call Q)
noncomputable def K93_2 (call : CallR) (Q : QT) : KT := blockK 0 (K93_1 call Q)
abbrev T93_1 := Option Addr × Int × Int
def S93_2 (call : CallR) (Q : QT) (R1 : T93_1 → PH → Prop) (r34 : Option Addr) (x35 x36 : Int) (σ : PH) : Prop :=
 br (decide (x36 < x35)) (∃ p40,r34 = some p40 ∧ ∃ v41,PH.cell? σ (p40.add 14) = some v41 ∧ ∃ a42 n43 c44,v41 = .slice a42 n43 c44 ∧ ∃ p45,a42 = some p45 ∧ 0 ≤ x36 ∧ x36 < (n43 : Int) ∧ ∃ v46,PH.cell? σ (p45.add (x36.toNat * 1)) = some v46 ∧ ∃ (f47 : Nat),v46 = (.float .f64 f47) ∧ ∀ f48 : Nat,∃ p49,a42 = some p49 ∧ 0 ≤ x36 ∧ x36 < (n43 : Int) ∧ (∃ u50,PH.cell? σ (p49.add (x36.toNat * 1)) = some u50) ∧ PH.froz σ (p49.add (x36.toNat * 1)) = some false ∧ R1 (r34,x35,(IntKind.wrap .i64 (x36 + 1))) (PH.setCell σ (p49.add (x36.toNat * 1)) (.float .f64 f48))) (∃ p51,r34 = some p51 ∧ ∃ v52,PH.cell? σ (p51.add 15) = some v52 ∧ ∃ (f53 : Nat),v52 = (.float .f64 f53) ∧ ∀ f54 : Nat,∃ p55,r34 = some p55 ∧ (∃ u56,PH.cell? σ (p55.add 15) = some u56) ∧ PH.froz σ (p55.add 15) = some false ∧ Q (.tuple #[]) (PH.setCell σ (p55.add 15) (.float .f64 f54)))
def S93_1 (call : CallR) (Q : QT) (r34 : Option Addr) (x35 x36 : Int) (σ : PH) : Prop := iloopS (fun (R1 : T93_1 → PH → Prop) (x : T93_1) σ => S93_2 call Q R1 x.1 x.2.1 x.2.2 σ) (r34,x35,x36) σ
def S93_0 (call : CallR) (Q : QT) (p1 : Option Addr) (i2 : Int) (σ : PH) : Prop :=
 ∃ (i3 : Int),∃ bs4 : List Nat,∃ p5,p1 = some p5 ∧ ∃ v6,PH.cell? σ (p5.add 14) = some v6 ∧ ∃ a7 n8 c9,v6 = .slice a7 n8 c9 ∧ quiet call 74 #[.int .i64 i2] (.int .i64 i3) bs4 σ ∧ ∃ p10,a7 = some p10 ∧ 0 ≤ i3 ∧ i3 < (n8 : Int) ∧ ∃ v11,PH.cell? σ (p10.add (i3.toNat * 1)) = some v11 ∧ ∃ (f12 : Nat),v11 = (.float .f64 f12) ∧ ∃ p13,p1 = some p13 ∧ ∃ v14,PH.cell? σ (p13.add 15) = some v14 ∧ ∃ (f15 : Nat),v14 = (.float .f64 f15) ∧ ∀ f16 : Nat,∃ p17,letI h901 : PH := PH.setCell σ (p17.add (i3.toNat * 1)) (.float .f64 f16); a7 = some p17 ∧ 0 ≤ i3 ∧ i3 < (n8 : Int) ∧ (∃ u18,PH.cell? σ (p17.add (i3.toNat * 1)) = some u18) ∧ PH.froz σ (p17.add (i3.toNat * 1)) = some false ∧ ∃ p19,p1 = some p19 ∧ ∃ v20,PH.cell? h901 (p19.add 15) = some v20 ∧ ∃ (f21 : Nat),v20 = (.float .f64 f21) ∧ ∀ f22 : Nat,∃ p23,letI h902 : PH := PH.setCell h901 (p23.add 15) (.float .f64 f22); p1 = some p23 ∧ (∃ u24,PH.cell? h901 (p23.add 15) = some u24) ∧ PH.froz h901 (p23.add 15) = some false ∧ ∃ p25,p1 = some p25 ∧ ∃ v26,PH.cell? h902 (p25.add 15) = some v26 ∧ ∃ (f27 : Nat),v26 = (.float .f64 f27) ∧ ∀ f28 : Bool,br f28 (∃ p29,p1 = some p29 ∧ ∃ v30,PH.cell? h902 (p29.add 14) = some v30 ∧ ∃ a31 n32 c33,v30 = .slice a31 n32 c33 ∧ S93_1 call Q p1 (n32 : Int) (0 : Int) h902) (Q (.tuple #[]) h902)
noncomputable def M93_1 (x : T93_1) : Env := ([some (.pointer x.1),oo,oo,oo,oo,oo,oo,oo,oo,oo,oo,oo,oo,oo,oo,oo,oo,oo,oo,oo,oo,oo,oo,oo,oo,oo,oo,oo,oo,oo,oo,oo,oo,oo,oo,some (.int .i64 x.2.1),some (.int .i64 x.2.2)] ++ rp 19)
noncomputable def L93_1 (call : CallR) (Q : QT) (r34 : Option Addr) (x35 x36 : Int) : PH → Prop := iloop (i93 295 call) (k93 167) (K93_2 call Q) (M93_1 (r34,x35,x36))
theorem E93_1 (call : CallR) (Q : QT) : L93_1 call Q = S93_1 call Q := by
 repeat funext _
 refine iloop_inv M93_1 (fun e => (vp (gv e 0),vi (gv e 35),vi (gv e 36))) (fun _ => rfl) _ _ _ _ (fun D1 x σ => ?_) _ _
 kernel_rfl
theorem E93_0 (call : CallR) (Q : QT) (p1 : Option Addr) (i2 : Int) (σ : PH) : ibody prog anns call 93 #[(.pointer p1),(.int .i64 i2)] Q σ = S93_0 call Q p1 i2 σ := by
 rw [S93_0,← E93_1 call Q]
 kernel_rfl
noncomputable def code94 : Code := (Try.f94.body).getD .skip
noncomputable def i94 (p : Nat) (call : CallR) (K : IX → Env → PH → Prop) (e : Env) : PH → Prop := icode prog call (nav (pp p) code94) (anav (pp p) an94) K e
def k94 (p : Nat) : Env → Env := Ann.cut (anav (pp p) an94)
noncomputable def K94_0 (_ : CallR) (Q : QT) : KT := finK prog Try.f94 Q
noncomputable def K94_1 (call : CallR) (Q : QT) : KT := seqK (i94 127 call (K94_0 call Q)) (k94 63) (K94_0 call Q)
noncomputable def K94_2 (call : CallR) (Q : QT) : KT := blockK 4 (K94_1 call Q)
noncomputable def K94_3 (call : CallR) (Q : QT) : KT := seqK (i94 63 call (K94_0 call Q)) (k94 31) (K94_0 call Q)
noncomputable def K94_4 (call : CallR) (Q : QT) : KT := blockK 2 (K94_3 call Q)
noncomputable def K94_5 (call : CallR) (Q : QT) : KT := seqK (i94 15 call (K94_0 call Q)) (k94 7) (K94_0 call Q)
noncomputable def K94_6 (call : CallR) (Q : QT) : KT := blockK 0 (K94_5 call Q)
abbrev T94_5 := Option Addr × Addr × Int × Option Addr × Nat × Nat × Int × Int
abbrev T94_3 := Option Addr × Int × Addr × Int × Option Addr × Nat × Nat × Int × Int
abbrev T94_1 := Option Addr × Int × Addr × Int × Addr
def S94_7 (call : CallR) (Q : QT) (r181 : Option Addr) (r182 : Addr) (σ : PH) : Prop :=
 ∃ p183,some r182 = some p183 ∧ ∃ v184,PH.cell? σ p183 = some v184 ∧ ∃ a185 n186 c187,v184 = .slice a185 n186 c187 ∧ ∃ p188,a185 = some p188 ∧ 0 ≤ (0 : Int) ∧ (0 : Int) < (n186 : Int) ∧ ∃ v189,PH.cell? σ (p188.add (Int.toNat (0 : Int) * 1)) = some v189 ∧ ∃ i190,v189 = .int .i64 i190 ∧ call 93 #[.pointer r181,.int .i64 i190] (fun v191 τ192 => ∃ υ193 : PH,PH.sub υ193 τ192 ∧ v191 = (.tuple #[]) ∧ ∃ p194,some r182 = some p194 ∧ ∃ v195,PH.cell? υ193 p194 = some v195 ∧ ∃ a196 n197 c198,v195 = .slice a196 n197 c198 ∧ ∃ p199,a196 = some p199 ∧ 0 ≤ (0 : Int) ∧ (0 : Int) < (n197 : Int) ∧ ∃ v200,PH.cell? υ193 (p199.add (Int.toNat (0 : Int) * 1)) = some v200 ∧ ∃ i201,v200 = .int .i64 i201 ∧ call 54 #[.pointer r181,.int .i64 i201,(.pointer (some r182))] (fun v202 τ203 => ∃ υ204 : PH,PH.sub υ204 τ203 ∧ v202 = (.tuple #[]) ∧ Q (.tuple #[]) υ204) υ193) σ
def S94_6 (call : CallR) (Q : QT) (R5 : T94_5 → PH → Prop) (r111 : Option Addr) (r112 : Addr) (x113 : Int) (l114 : Option Addr) (len115 cap116 : Nat) (x117 x118 : Int) (σ : PH) : Prop :=
 br (decide (x118 < x117)) (∃ p127,l114 = some p127 ∧ 0 ≤ x118 ∧ x118 < (len115 : Int) ∧ ∃ v128,PH.cell? σ (p127.add (x118.toNat * 1)) = some v128 ∧ ∃ i129,v128 = .int .i64 i129 ∧ ∃ (i130 : Int),∃ bs131 : List Nat,br (decide (x118 > (0 : Int))) (∃ p132,r111 = some p132 ∧ ∃ v133,PH.cell? σ (p132.add 9) = some v133 ∧ ∃ a134 n135 c136,v133 = .slice a134 n135 c136 ∧ quiet call 74 #[.int .i64 i129] (.int .i64 i130) bs131 σ ∧ ∃ p137,a134 = some p137 ∧ 0 ≤ i130 ∧ i130 < (n135 : Int) ∧ ∃ v138,PH.cell? σ (p137.add (i130.toNat * 1)) = some v138 ∧ ∃ i139,v138 = .int .i64 i139 ∧ br (i139 == x113) (∃ p140,some r112 = some p140 ∧ ∃ v141,PH.cell? σ p140 = some v141 ∧ ∃ a142 n143 c144,v141 = .slice a142 n143 c144 ∧ ∃ p145,some r112 = some p145 ∧ ∃ v146,PH.cell? σ p145 = some v146 ∧ ∃ a147 n148 c149,v146 = .slice a147 n148 c149 ∧ ∃ p150,some r112 = some p150 ∧ ∃ v151,PH.cell? σ p150 = some v151 ∧ ∃ a152 n153 c154,v151 = .slice a152 n153 c154 ∧ ∃ p155,a152 = some p155 ∧ 0 ≤ x118 ∧ x118 < (n153 : Int) ∧ ∃ v156,PH.cell? σ (p155.add (x118.toNat * 1)) = some v156 ∧ ∃ i157,v156 = .int .i64 i157 ∧ ∃ p158,some r112 = some p158 ∧ ∃ v159,PH.cell? σ p158 = some v159 ∧ ∃ a160 n161 c162,v159 = .slice a160 n161 c162 ∧ ∃ p163,a160 = some p163 ∧ 0 ≤ (1 : Int) ∧ (1 : Int) < (n161 : Int) ∧ ∃ v164,PH.cell? σ (p163.add (Int.toNat (1 : Int) * 1)) = some v164 ∧ ∃ i165,v164 = .int .i64 i165 ∧ ∃ p166,letI h901 : PH := PH.setCell σ (p166.add (Int.toNat (1 : Int) * 1)) (.int .i64 i157); a142 = some p166 ∧ 0 ≤ (1 : Int) ∧ (1 : Int) < (n143 : Int) ∧ (∃ u167,PH.cell? σ (p166.add (Int.toNat (1 : Int) * 1)) = some u167) ∧ PH.froz σ (p166.add (Int.toNat (1 : Int) * 1)) = some false ∧ ∃ p168,a147 = some p168 ∧ 0 ≤ x118 ∧ x118 < (n148 : Int) ∧ (∃ u169,PH.cell? h901 (p168.add (x118.toNat * 1)) = some u169) ∧ PH.froz h901 (p168.add (x118.toNat * 1)) = some false ∧ R5 (r111,r112,x113,l114,len115,cap116,x117,(IntKind.wrap .i64 (x118 + 1))) (PH.setCell h901 (p168.add (x118.toNat * 1)) (.int .i64 i165))) (R5 (r111,r112,x113,l114,len115,cap116,x117,(IntKind.wrap .i64 (x118 + 1))) σ)) (R5 (r111,r112,x113,l114,len115,cap116,x117,(IntKind.wrap .i64 (x118 + 1))) σ)) (call 91 #[.pointer r111,.int .i64 x113] (fun v170 τ171 => ∃ υ172 : PH,PH.sub υ172 τ171 ∧ v170 = (.tuple #[]) ∧ ∃ p173,some r112 = some p173 ∧ ∃ v174,PH.cell? υ172 p173 = some v174 ∧ ∃ a175 n176 c177,v174 = .slice a175 n176 c177 ∧ br (decide ((n176 : Int) > (1 : Int))) (call 52 #[.pointer r111,(.pointer (some r112))] (fun v178 τ179 => ∃ υ180 : PH,PH.sub υ180 τ179 ∧ v178 = (.tuple #[]) ∧ S94_7 call Q r111 r112 υ180) υ172) (S94_7 call Q r111 r112 υ172)) σ)
def S94_5 (call : CallR) (Q : QT) (r111 : Option Addr) (r112 : Addr) (x113 : Int) (l114 : Option Addr) (len115 cap116 : Nat) (x117 x118 : Int) (σ : PH) : Prop := iloopS (fun (R5 : T94_5 → PH → Prop) (x : T94_5) σ => S94_6 call Q R5 x.1 x.2.1 x.2.2.1 x.2.2.2.1 x.2.2.2.2.1 x.2.2.2.2.2.1 x.2.2.2.2.2.2.1 x.2.2.2.2.2.2.2 σ) (r111,r112,x113,l114,len115,cap116,x117,x118) σ
def S94_4 (call : CallR) (Q : QT) (R3 : T94_3 → PH → Prop) (r45 : Option Addr) (x46 : Int) (r47 : Addr) (x48 : Int) (l49 : Option Addr) (len50 cap51 : Nat) (x52 x53 : Int) (σ : PH) : Prop :=
 br (decide (x53 < x52)) (∃ p63,l49 = some p63 ∧ 0 ≤ x53 ∧ x53 < (len50 : Int) ∧ ∃ v64,PH.cell? σ (p63.add (x53.toNat * 1)) = some v64 ∧ ∃ i65,v64 = .int .i64 i65 ∧ ∃ (i66 : Int),∃ bs67 : List Nat,∃ p68,r45 = some p68 ∧ ∃ v69,PH.cell? σ (p68.add 9) = some v69 ∧ ∃ a70 n71 c72,v69 = .slice a70 n71 c72 ∧ quiet call 74 #[.int .i64 i65] (.int .i64 i66) bs67 σ ∧ ∃ p73,a70 = some p73 ∧ 0 ≤ i66 ∧ i66 < (n71 : Int) ∧ ∃ v74,PH.cell? σ (p73.add (i66.toNat * 1)) = some v74 ∧ ∃ i75,v74 = .int .i64 i75 ∧ br (i75 == x46) (∃ p76,some r47 = some p76 ∧ ∃ v77,PH.cell? σ p76 = some v77 ∧ ∃ a78 n79 c80,v77 = .slice a78 n79 c80 ∧ ∃ p81,some r47 = some p81 ∧ ∃ v82,PH.cell? σ p81 = some v82 ∧ ∃ a83 n84 c85,v82 = .slice a83 n84 c85 ∧ ∃ p86,some r47 = some p86 ∧ ∃ v87,PH.cell? σ p86 = some v87 ∧ ∃ a88 n89 c90,v87 = .slice a88 n89 c90 ∧ ∃ p91,a88 = some p91 ∧ 0 ≤ x53 ∧ x53 < (n89 : Int) ∧ ∃ v92,PH.cell? σ (p91.add (x53.toNat * 1)) = some v92 ∧ ∃ i93,v92 = .int .i64 i93 ∧ ∃ p94,some r47 = some p94 ∧ ∃ v95,PH.cell? σ p94 = some v95 ∧ ∃ a96 n97 c98,v95 = .slice a96 n97 c98 ∧ ∃ p99,a96 = some p99 ∧ 0 ≤ (0 : Int) ∧ (0 : Int) < (n97 : Int) ∧ ∃ v100,PH.cell? σ (p99.add (Int.toNat (0 : Int) * 1)) = some v100 ∧ ∃ i101,v100 = .int .i64 i101 ∧ ∃ p102,letI h901 : PH := PH.setCell σ (p102.add (Int.toNat (0 : Int) * 1)) (.int .i64 i93); a78 = some p102 ∧ 0 ≤ (0 : Int) ∧ (0 : Int) < (n79 : Int) ∧ (∃ u103,PH.cell? σ (p102.add (Int.toNat (0 : Int) * 1)) = some u103) ∧ PH.froz σ (p102.add (Int.toNat (0 : Int) * 1)) = some false ∧ ∃ p104,a83 = some p104 ∧ 0 ≤ x53 ∧ x53 < (n84 : Int) ∧ (∃ u105,PH.cell? h901 (p104.add (x53.toNat * 1)) = some u105) ∧ PH.froz h901 (p104.add (x53.toNat * 1)) = some false ∧ R3 (r45,x46,r47,x48,l49,len50,cap51,x52,(IntKind.wrap .i64 (x53 + 1))) (PH.setCell h901 (p104.add (x53.toNat * 1)) (.int .i64 i101))) (R3 (r45,x46,r47,x48,l49,len50,cap51,x52,(IntKind.wrap .i64 (x53 + 1))) σ)) (∃ p106,some r47 = some p106 ∧ ∃ v107,PH.cell? σ p106 = some v107 ∧ ∃ a108 n109 c110,v107 = .slice a108 n109 c110 ∧ S94_5 call Q r45 r47 x48 a108 n109 c110 (n109 : Int) (0 : Int) σ)
def S94_3 (call : CallR) (Q : QT) (r45 : Option Addr) (x46 : Int) (r47 : Addr) (x48 : Int) (l49 : Option Addr) (len50 cap51 : Nat) (x52 x53 : Int) (σ : PH) : Prop := iloopS (fun (R3 : T94_3 → PH → Prop) (x : T94_3) σ => S94_4 call Q R3 x.1 x.2.1 x.2.2.1 x.2.2.2.1 x.2.2.2.2.1 x.2.2.2.2.2.1 x.2.2.2.2.2.2.1 x.2.2.2.2.2.2.2.1 x.2.2.2.2.2.2.2.2 σ) (r45,x46,r47,x48,l49,len50,cap51,x52,x53) σ
def S94_2 (call : CallR) (Q : QT) (R1 : T94_1 → PH → Prop) (r10 : Option Addr) (x11 : Int) (r12 : Addr) (x13 : Int) (r14 : Addr) (σ : PH) : Prop :=
 Addr.off r14 = 0 ∧ ∃ (m20 w21 : Nat) (seen22 : Array Nat) (last23 : Nat) (es24 : Array MapEntry) (ck25 : Nat),σ (Addr.block r14) = some (.mapIter (some m20) w21 seen22 last23) ∧ σ m20 = some (.map es24 ck25) ∧ (∀ e ∈ es24.toList,e.born < w21) ∧ (seen22.isEmpty = true ∨ es24.isEmpty = true ∨ ∃ e ∈ es24.toList,e.born < last23) ∧ ((∀ e ∈ es24.toList,seen22.contains e.born = true) → ∃ p27,some r12 = some p27 ∧ ∃ v28,PH.cell? σ p27 = some v28 ∧ ∃ a29 n30 c31,v28 = .slice a29 n30 c31 ∧ call 111 #[.slice a29 n30 c31] (fun v32 τ33 => ∃ υ34 : PH,PH.sub υ34 τ33 ∧ ∃ a35 n36 c37,v32 = .slice a35 n36 c37 ∧ ∃ p38,letI h903 : PH := PH.setCell υ34 p38 (.slice a35 n36 c37); some r12 = some p38 ∧ (∃ u39,PH.cell? υ34 p38 = some u39) ∧ PH.froz υ34 p38 = some false ∧ ∃ p40,some r12 = some p40 ∧ ∃ v41,PH.cell? h903 p40 = some v41 ∧ ∃ a42 n43 c44,v41 = .slice a42 n43 c44 ∧ S94_3 call Q r10 x11 r12 x13 a42 n43 c44 (n43 : Int) (0 : Int) h903) σ) ∧ (∀ e26 ∈ es24.toList,letI h901 : PH := PH.set σ (Addr.block r14) (.mapIter (some m20) w21 (seen22.push e26.born) ck25); seen22.contains e26.born = false → Addr.off r14 = 0 ∧ ∃ (m205 w206 : Nat) (seen207 : Array Nat) (last208 : Nat) (es209 : Array MapEntry) (ck210 st211 : Nat) (e212 : MapEntry),h901 (Addr.block r14) = some (.mapIter (some m205) w206 seen207 last208) ∧ h901 m205 = some (.map es209 ck210) ∧ ck210 = last208 ∧ seen207.back? = some st211 ∧ es209.find? (fun x => x.born == st211) = some e212 ∧ ∃ n213 : Int,e212.key = .int .i64 n213 ∧ ∃ p214,some r12 = some p214 ∧ ∃ v215,PH.cell? h901 p214 = some v215 ∧ ∃ a216 n217 c218,v215 = .slice a216 n217 c218 ∧ ∀ b219 : Nat,h901 b219 = none → iappend prog 3 (.slice a216 n217 c218) (.slice (some ⟨b219,0,none⟩) 1 1) (fun v220 τ221 => ∃ a222 n223 c224,v220 = .slice a222 n223 c224 ∧ ∃ p225,letI h902 : PH := PH.setCell τ221 p225 (.slice a222 n223 c224); some r12 = some p225 ∧ (∃ u226,PH.cell? τ221 p225 = some u226) ∧ PH.froz τ221 p225 = some false ∧ ∃ (i227 : Int),∃ bs228 : List Nat,∃ p229,r10 = some p229 ∧ ∃ v230,PH.cell? h902 (p229.add 9) = some v230 ∧ ∃ a231 n232 c233,v230 = .slice a231 n232 c233 ∧ quiet call 74 #[.int .i64 n213] (.int .i64 i227) bs228 h902 ∧ ∃ p234,a231 = some p234 ∧ 0 ≤ i227 ∧ i227 < (n232 : Int) ∧ ∃ v235,PH.cell? h902 (p234.add (i227.toNat * 1)) = some v235 ∧ ∃ i236,v235 = .int .i64 i236 ∧ br (decide (i236 < x11)) (R1 (r10,x11,r12,(if x13 < i236 then i236 else x13),r14) h902) (R1 (r10,x11,r12,x13,r14) h902)) (PH.set h901 b219 (.cells #[.int .i64 n213] 3)))
def S94_1 (call : CallR) (Q : QT) (r10 : Option Addr) (x11 : Int) (r12 : Addr) (x13 : Int) (r14 : Addr) (σ : PH) : Prop := iloopS (fun (R1 : T94_1 → PH → Prop) (x : T94_1) σ => S94_2 call Q R1 x.1 x.2.1 x.2.2.1 x.2.2.2.1 x.2.2.2.2 σ) (r10,x11,r12,x13,r14) σ
def S94_0 (call : CallR) (Q : QT) (p1 : Option Addr) (m2 : Option Nat) (i3 i4 : Int) (σ : PH) : Prop :=
 ∀ b5 : Nat,letI h901 : PH := PH.set σ b5 (.cells #[.slice none 0 0,.int .i64 i3,.slice none 0 0] 102); σ b5 = none → ∃ q6 : Nat,m2 = some q6 ∧ ∃ (es7 : Array MapEntry) (ck8 : Nat),h901 q6 = some (.map es7 ck8) ∧ ∀ b9 : Nat,h901 b9 = none → S94_1 call Q p1 i4 (⟨b5,0,none⟩ : Addr) (0 : Int) (⟨b9,0,none⟩ : Addr) (PH.set h901 b9 (.mapIter (some q6) ck8 #[] ck8))
noncomputable def M94_5 (x : T94_5) : Env := ([some (.pointer x.1),oo,oo,oo,oo,oo,oo,oo,some (.pointer (some x.2.1)),some (.int .i64 x.2.2.1),oo,oo,oo,oo,oo,oo,oo,oo,oo,oo,oo,oo,oo,oo,oo,oo,oo,oo,oo,oo,oo,oo,oo,oo,oo,oo,oo,oo,oo,oo,oo,oo,oo,oo,oo,oo,oo,oo,oo,oo,oo,oo,oo,oo,oo,oo,oo,oo,oo,oo,oo,oo,oo,oo,oo,oo,oo,oo,oo,oo,oo,oo,oo,oo,oo,oo,oo,oo,oo,oo,oo,oo,oo,oo,oo,oo,oo,oo,oo,oo,oo,oo,oo,oo,oo,oo,oo,oo,oo,oo,oo,oo,oo,oo,oo,some (.slice x.2.2.2.1 x.2.2.2.2.1 x.2.2.2.2.2.1),some (.int .i64 x.2.2.2.2.2.2.1),some (.int .i64 x.2.2.2.2.2.2.2)] ++ rp 72)
noncomputable def M94_3 (x : T94_3) : Env := ([some (.pointer x.1),oo,oo,some (.int .i64 x.2.1),oo,oo,oo,oo,some (.pointer (some x.2.2.1)),some (.int .i64 x.2.2.2.1),oo,oo,oo,oo,oo,oo,oo,oo,oo,oo,oo,oo,oo,oo,oo,oo,oo,oo,oo,oo,oo,oo,oo,oo,oo,oo,oo,oo,oo,oo,oo,oo,oo,oo,oo,oo,oo,oo,oo,oo,oo,oo,oo,oo,oo,oo,oo,oo,oo,oo,some (.slice x.2.2.2.2.1 x.2.2.2.2.2.1 x.2.2.2.2.2.2.1),some (.int .i64 x.2.2.2.2.2.2.2.1),some (.int .i64 x.2.2.2.2.2.2.2.2)] ++ rp 117)
noncomputable def M94_1 (x : T94_1) : Env := ([some (.pointer x.1),oo,oo,some (.int .i64 x.2.1),oo,oo,oo,oo,some (.pointer (some x.2.2.1)),some (.int .i64 x.2.2.2.1),oo,oo,oo,oo,oo,oo,oo,oo,oo,oo,some (.pointer (some x.2.2.2.2))] ++ rp 159)
noncomputable def L94_7 (call : CallR) (Q : QT) (r181 : Option Addr) (r182 : Addr) : PH → Prop := i94 511 call (K94_0 call Q) ([some (.pointer r181),oo,oo,oo,oo,oo,oo,oo,some (.pointer (some r182))] ++ rp 171)
noncomputable def L94_5 (call : CallR) (Q : QT) (r111 : Option Addr) (r112 : Addr) (x113 : Int) (l114 : Option Addr) (len115 cap116 : Nat) (x117 x118 : Int) : PH → Prop := iloop (i94 607 call) (k94 351) (K94_2 call Q) (M94_5 (r111,r112,x113,l114,len115,cap116,x117,x118))
noncomputable def L94_3 (call : CallR) (Q : QT) (r45 : Option Addr) (x46 : Int) (r47 : Addr) (x48 : Int) (l49 : Option Addr) (len50 cap51 : Nat) (x52 x53 : Int) : PH → Prop := iloop (i94 303 call) (k94 175) (K94_4 call Q) (M94_3 (r45,x46,r47,x48,l49,len50,cap51,x52,x53))
noncomputable def L94_1 (call : CallR) (Q : QT) (r10 : Option Addr) (x11 : Int) (r12 : Addr) (x13 : Int) (r14 : Addr) : PH → Prop := iloop (i94 75 call) (k94 43) (K94_6 call Q) (M94_1 (r10,x11,r12,x13,r14))
theorem E94_7 (call : CallR) (Q : QT) : L94_7 call Q = S94_7 call Q := by
 repeat funext _
 kernel_rfl
theorem E94_5 (call : CallR) (Q : QT) : L94_5 call Q = S94_5 call Q := by
 repeat funext _
 refine iloop_inv M94_5 (fun e => (vp (gv e 0),va (gv e 8),vi (gv e 9),sa (gv e 105),sl (gv e 105),sc (gv e 105),vi (gv e 106),vi (gv e 107))) (fun _ => rfl) _ _ _ _ (fun D5 x σ => ?_) _ _
 rw [S94_6,← E94_7 call Q]
 kernel_rfl
theorem E94_3 (call : CallR) (Q : QT) : L94_3 call Q = S94_3 call Q := by
 repeat funext _
 refine iloop_inv M94_3 (fun e => (vp (gv e 0),vi (gv e 3),va (gv e 8),vi (gv e 9),sa (gv e 60),sl (gv e 60),sc (gv e 60),vi (gv e 61),vi (gv e 62))) (fun _ => rfl) _ _ _ _ (fun D3 x σ => ?_) _ _
 rw [S94_4,← E94_5 call Q]
 kernel_rfl
theorem E94_1 (call : CallR) (Q : QT) : L94_1 call Q = S94_1 call Q := by
 repeat funext _
 refine iloop_inv M94_1 (fun e => (vp (gv e 0),vi (gv e 3),va (gv e 8),vi (gv e 9),va (gv e 20))) (fun _ => rfl) _ _ _ _ (fun D1 x σ => ?_) _ _
 rw [S94_2,← E94_3 call Q]
 kernel_rfl
theorem E94_0 (call : CallR) (Q : QT) (p1 : Option Addr) (m2 : Option Nat) (i3 i4 : Int) (σ : PH) : ibody prog anns call 94 #[(.pointer p1),(.map m2),(.int .i64 i3),(.int .i64 i4)] Q σ = S94_0 call Q p1 m2 i3 i4 σ := by
 rw [S94_0,← E94_1 call Q]
 kernel_rfl
noncomputable def code95 : Code := (Try.f95.body).getD .skip
noncomputable def i95 (p : Nat) (call : CallR) (K : IX → Env → PH → Prop) (e : Env) : PH → Prop := icode prog call (nav (pp p) code95) (anav (pp p) an95) K e
def k95 (p : Nat) : Env → Env := Ann.cut (anav (pp p) an95)
noncomputable def K95_0 (_ : CallR) (Q : QT) : KT := finK prog Try.f95 Q
noncomputable def K95_1 (call : CallR) (Q : QT) : KT := seqK (i95 7 call (K95_0 call Q)) (k95 3) (K95_0 call Q)
noncomputable def K95_2 (call : CallR) (Q : QT) : KT := blockK 0 (K95_1 call Q)
abbrev T95_1 := Option Addr × Int × Option Addr × Nat × Nat × Int
def S95_2 (call : CallR) (Q : QT) (R1 : T95_1 → PH → Prop) (r6 : Option Addr) (x7 : Int) (l8 : Option Addr) (len9 cap10 : Nat) (x11 : Int) (σ : PH) : Prop :=
 br (decide (x11 < (len9 : Int))) (∃ p18,l8 = some p18 ∧ 0 ≤ x11 ∧ x11 < (len9 : Int) ∧ ∃ v19,PH.cell? σ (p18.add (x11.toNat * 1)) = some v19 ∧ ∃ i20,v19 = .int .i64 i20 ∧ call 53 #[.pointer r6,.int .i64 i20] (fun v21 τ22 => ∃ υ23 : PH,PH.sub υ23 τ22 ∧ ∃ i24,v21 = .int .i64 i24 ∧ br (decide (i24 ≥ (0 : Int))) (∃ p25,l8 = some p25 ∧ 0 ≤ x11 ∧ x11 < (len9 : Int) ∧ ∃ v26,PH.cell? υ23 (p25.add (x11.toNat * 1)) = some v26 ∧ ∃ i27,v26 = .int .i64 i27 ∧ ∃ p28,l8 = some p28 ∧ 0 ≤ (1 : Int) ∧ (1 : Int) < (len9 : Int) ∧ ∃ v29,PH.cell? υ23 (p28.add (Int.toNat (1 : Int) * 1)) = some v29 ∧ ∃ i30,v29 = .int .i64 i30 ∧ ∃ p31,letI h901 : PH := PH.setCell υ23 (p31.add (Int.toNat (1 : Int) * 1)) (.int .i64 i27); l8 = some p31 ∧ 0 ≤ (1 : Int) ∧ (1 : Int) < (len9 : Int) ∧ (∃ u32,PH.cell? υ23 (p31.add (Int.toNat (1 : Int) * 1)) = some u32) ∧ PH.froz υ23 (p31.add (Int.toNat (1 : Int) * 1)) = some false ∧ ∃ p33,letI h902 : PH := PH.setCell h901 (p33.add (x11.toNat * 1)) (.int .i64 i30); l8 = some p33 ∧ 0 ≤ x11 ∧ x11 < (len9 : Int) ∧ (∃ u34,PH.cell? h901 (p33.add (x11.toNat * 1)) = some u34) ∧ PH.froz h901 (p33.add (x11.toNat * 1)) = some false ∧ ∃ (i35 : Int),∃ bs36 : List Nat,∃ (i37 : Int),∃ bs38 : List Nat,∃ p39,r6 = some p39 ∧ ∃ v40,PH.cell? h902 (p39.add 7) = some v40 ∧ ∃ a41 n42 c43,v40 = .slice a41 n42 c43 ∧ ∃ p44,l8 = some p44 ∧ 0 ≤ (1 : Int) ∧ (1 : Int) < (len9 : Int) ∧ ∃ v45,PH.cell? h902 (p44.add (Int.toNat (1 : Int) * 1)) = some v45 ∧ ∃ i46,v45 = .int .i64 i46 ∧ quiet call 73 #[.int .i64 i46] (.int .i64 i35) bs36 h902 ∧ ∃ p47,r6 = some p47 ∧ ∃ v48,PH.cell? h902 (p47.add 7) = some v48 ∧ ∃ a49 n50 c51,v48 = .slice a49 n50 c51 ∧ ∃ p52,l8 = some p52 ∧ 0 ≤ (1 : Int) ∧ (1 : Int) < (len9 : Int) ∧ ∃ v53,PH.cell? h902 (p52.add (Int.toNat (1 : Int) * 1)) = some v53 ∧ ∃ i54,v53 = .int .i64 i54 ∧ quiet call 73 #[.int .i64 i54] (.int .i64 i37) bs38 h902 ∧ ∃ p55,a49 = some p55 ∧ 0 ≤ i37 ∧ i37 < (n50 : Int) ∧ ∃ v56,PH.cell? h902 (p55.add (i37.toNat * 1)) = some v56 ∧ ∃ a57 n58 c59,v56 = .slice a57 n58 c59 ∧ ∀ b60 : Nat,h902 b60 = none → (∀ p : Addr,a57 = some p → ¬ p.block = Addr.block (p39.add 7)) ∧ iappend prog 3 (.slice a57 n58 c59) (.slice (some ⟨b60,0,none⟩) 1 1) (fun v61 τ62 => ∃ a63 n64 c65,v61 = .slice a63 n64 c65 ∧ ∃ p66,a41 = some p66 ∧ 0 ≤ i35 ∧ i35 < (n42 : Int) ∧ (∃ u67,PH.cell? τ62 (p66.add (i35.toNat * 1)) = some u67) ∧ PH.froz τ62 (p66.add (i35.toNat * 1)) = some false ∧ Q (.bool true) (PH.setCell τ62 (p66.add (i35.toNat * 1)) (.slice a63 n64 c65))) (PH.set h902 b60 (.cells #[.int .i64 x7] 3))) (R1 (r6,x7,l8,len9,cap10,(IntKind.wrap .i64 (x11 + 1))) υ23)) σ) (Q (.bool false) σ)
def S95_1 (call : CallR) (Q : QT) (r6 : Option Addr) (x7 : Int) (l8 : Option Addr) (len9 cap10 : Nat) (x11 : Int) (σ : PH) : Prop := iloopS (fun (R1 : T95_1 → PH → Prop) (x : T95_1) σ => S95_2 call Q R1 x.1 x.2.1 x.2.2.1 x.2.2.2.1 x.2.2.2.2.1 x.2.2.2.2.2 σ) (r6,x7,l8,len9,cap10,x11) σ
def S95_0 (call : CallR) (Q : QT) (p1 : Option Addr) (i2 : Int) (a3 : Option Addr) (n4 c5 : Nat) (σ : PH) : Prop :=
 S95_1 call Q p1 i2 a3 n4 c5 (2 : Int) σ
noncomputable def M95_1 (x : T95_1) : Env := ([some (.pointer x.1),some (.int .i64 x.2.1),some (.slice x.2.2.1 x.2.2.2.1 x.2.2.2.2.1),oo,oo,oo,oo,some (.int .i64 x.2.2.2.2.2)] ++ rp 47)
noncomputable def L95_1 (call : CallR) (Q : QT) (r6 : Option Addr) (x7 : Int) (l8 : Option Addr) (len9 cap10 : Nat) (x11 : Int) : PH → Prop := iloop (i95 37 call) (k95 21) (K95_2 call Q) (M95_1 (r6,x7,l8,len9,cap10,x11))
theorem E95_1 (call : CallR) (Q : QT) : L95_1 call Q = S95_1 call Q := by
 repeat funext _
 refine iloop_inv M95_1 (fun e => (vp (gv e 0),vi (gv e 1),sa (gv e 2),sl (gv e 2),sc (gv e 2),vi (gv e 7))) (fun _ => rfl) _ _ _ _ (fun D1 x σ => ?_) _ _
 kernel_rfl
theorem E95_0 (call : CallR) (Q : QT) (p1 : Option Addr) (i2 : Int) (a3 : Option Addr) (n4 c5 : Nat) (σ : PH) : ibody prog anns call 95 #[(.pointer p1),(.int .i64 i2),(.slice a3 n4 c5)] Q σ = S95_0 call Q p1 i2 a3 n4 c5 σ := by
 rw [S95_0,← E95_1 call Q]
 kernel_rfl
noncomputable def code96 : Code := (Try.f96.body).getD .skip
noncomputable def i96 (p : Nat) (call : CallR) (K : IX → Env → PH → Prop) (e : Env) : PH → Prop := icode prog call (nav (pp p) code96) (anav (pp p) an96) K e
def k96 (p : Nat) : Env → Env := Ann.cut (anav (pp p) an96)
noncomputable def K96_0 (_ : CallR) (Q : QT) : KT := finK prog Try.f96 Q
noncomputable def K96_1 (call : CallR) (Q : QT) : KT := seqK (i96 31 call (K96_0 call Q)) (k96 15) (K96_0 call Q)
noncomputable def K96_2 (call : CallR) (Q : QT) : KT := blockK 0 (K96_1 call Q)
abbrev T96_2 := Option Addr × Nat × Nat × Addr × Option Addr × Nat × Nat × Int × Int
def S96_3 (call : CallR) (Q : QT) (R2 : T96_2 → PH → Prop) (l42 : Option Addr) (len43 cap44 : Nat) (r45 : Addr) (l46 : Option Addr) (len47 cap48 : Nat) (x49 x50 : Int) (σ : PH) : Prop :=
 br (decide (x50 < x49)) (∃ p60,l46 = some p60 ∧ 0 ≤ x50 ∧ x50 < (len47 : Int) ∧ ∃ v61,PH.cell? σ (p60.add (x50.toNat * 1)) = some v61 ∧ ∃ i62,v61 = .int .i64 i62 ∧ ∃ p63,some r45 = some p63 ∧ ∃ v64,PH.cell? σ p63 = some v64 ∧ ∃ a65 n66 c67,v64 = .slice a65 n66 c67 ∧ ∃ p68,l42 = some p68 ∧ 0 ≤ i62 ∧ i62 < (len43 : Int) ∧ ∃ v69,PH.cell? σ (p68.add (i62.toNat * 1)) = some v69 ∧ ∃ i70,v69 = .int .i64 i70 ∧ ∀ b71 : Nat,σ b71 = none → iappend prog 3 (.slice a65 n66 c67) (.slice (some ⟨b71,0,none⟩) 1 1) (fun v72 τ73 => ∃ a74 n75 c76,v72 = .slice a74 n75 c76 ∧ ∃ p77,letI h901 : PH := PH.setCell τ73 p77 (.slice a74 n75 c76); some r45 = some p77 ∧ (∃ u78,PH.cell? τ73 p77 = some u78) ∧ PH.froz τ73 p77 = some false ∧ ∃ p79,some r45 = some p79 ∧ ∃ v80,PH.cell? h901 (p79.add 2) = some v80 ∧ ∃ a81 n82 c83,v80 = .slice a81 n82 c83 ∧ ∃ p84,l42 = some p84 ∧ 0 ≤ i62 ∧ i62 < (len43 : Int) ∧ ∃ v85,PH.cell? h901 (p84.add (i62.toNat * 1)) = some v85 ∧ ∃ i86,v85 = .int .i64 i86 ∧ ∀ b87 : Nat,h901 b87 = none → iappend prog 3 (.slice a81 n82 c83) (.slice (some ⟨b87,0,none⟩) 1 1) (fun v88 τ89 => ∃ a90 n91 c92,v88 = .slice a90 n91 c92 ∧ ∃ p93,some r45 = some p93 ∧ (∃ u94,PH.cell? τ89 (p93.add 2) = some u94) ∧ PH.froz τ89 (p93.add 2) = some false ∧ R2 (l42,len43,cap44,r45,l46,len47,cap48,x49,(IntKind.wrap .i64 (x50 + 1))) (PH.setCell τ89 (p93.add 2) (.slice a90 n91 c92))) (PH.set h901 b87 (.cells #[.int .i64 i86] 3))) (PH.set σ b71 (.cells #[(.int .i64 (IntKind.wrap .i64 (0 - i70)))] 3))) (∃ p95,some r45 = some p95 ∧ ∃ v96,PH.cell? σ p95 = some v96 ∧ ∃ a97 n98 c99,v96 = .slice a97 n98 c99 ∧ call 111 #[.slice a97 n98 c99] (fun v100 τ101 => ∃ υ102 : PH,PH.sub υ102 τ101 ∧ ∃ a103 n104 c105,v100 = .slice a103 n104 c105 ∧ ∃ p106,some r45 = some p106 ∧ (∃ u107,PH.cell? υ102 p106 = some u107) ∧ PH.froz υ102 p106 = some false ∧ Q (.pointer (some r45)) (PH.setCell υ102 p106 (.slice a103 n104 c105))) σ)
def S96_2 (call : CallR) (Q : QT) (l42 : Option Addr) (len43 cap44 : Nat) (r45 : Addr) (l46 : Option Addr) (len47 cap48 : Nat) (x49 x50 : Int) (σ : PH) : Prop := iloopS (fun (R2 : T96_2 → PH → Prop) (x : T96_2) σ => S96_3 call Q R2 x.1 x.2.1 x.2.2.1 x.2.2.2.1 x.2.2.2.2.1 x.2.2.2.2.2.1 x.2.2.2.2.2.2.1 x.2.2.2.2.2.2.2.1 x.2.2.2.2.2.2.2.2 σ) (l42,len43,cap44,r45,l46,len47,cap48,x49,x50) σ
def S96_1 (call : CallR) (Q : QT) (l35 : Option Addr) (len36 cap37 : Nat) (l38 : Option Addr) (len39 cap40 : Nat) (r41 : Addr) (σ : PH) : Prop :=
 S96_2 call Q l35 len36 cap37 r41 l38 len39 cap40 (len39 : Int) (0 : Int) σ
def S96_0 (call : CallR) (Q : QT) (a1 : Option Addr) (n2 c3 : Nat) (a4 : Option Addr) (n5 c6 : Nat) (i7 : Int) (σ : PH) : Prop :=
 ∀ b8 : Nat,letI h901 : PH := PH.set σ b8 (.cells #[.slice none 0 0,(.int .i64 ((-1) : Int)),.slice none 0 0] 102); σ b8 = none → br (i7 != (0 : Int)) (∃ p9 : Addr,(some ⟨b8,0,none⟩) = some p9 ∧ ∃ v10,PH.cell? h901 p9 = some v10 ∧ ∃ a11 n12 c13,v10 = .slice a11 n12 c13 ∧ ∀ b14 : Nat,h901 b14 = none → iappend prog 3 (.slice a11 n12 c13) (.slice (some ⟨b14,0,none⟩) 1 1) (fun v15 τ16 => ∃ a17 n18 c19,v15 = .slice a17 n18 c19 ∧ ∃ p20 : Addr,letI h902 : PH := PH.setCell τ16 p20 (.slice a17 n18 c19); (some ⟨b8,0,none⟩) = some p20 ∧ (∃ u21,PH.cell? τ16 p20 = some u21) ∧ PH.froz τ16 p20 = some false ∧ ∃ p22 : Addr,(some ⟨b8,0,none⟩) = some p22 ∧ ∃ v23,PH.cell? h902 (p22.add 2) = some v23 ∧ ∃ a24 n25 c26,v23 = .slice a24 n25 c26 ∧ ∀ b27 : Nat,h902 b27 = none → iappend prog 3 (.slice a24 n25 c26) (.slice (some ⟨b27,0,none⟩) 1 1) (fun v28 τ29 => ∃ a30 n31 c32,v28 = .slice a30 n31 c32 ∧ ∃ p33 : Addr,(some ⟨b8,0,none⟩) = some p33 ∧ (∃ u34,PH.cell? τ29 (p33.add 2) = some u34) ∧ PH.froz τ29 (p33.add 2) = some false ∧ S96_1 call Q a1 n2 c3 a4 n5 c6 (⟨b8,0,none⟩ : Addr) (PH.setCell τ29 (p33.add 2) (.slice a30 n31 c32))) (PH.set h902 b27 (.cells #[(.int .i64 (IntKind.wrap .i64 (0 - i7)))] 3))) (PH.set h901 b14 (.cells #[.int .i64 i7] 3))) (S96_1 call Q a1 n2 c3 a4 n5 c6 (⟨b8,0,none⟩ : Addr) h901)
noncomputable def M96_2 (x : T96_2) : Env := ([some (.slice x.1 x.2.1 x.2.2.1),oo,oo,oo,oo,oo,oo,some (.pointer (some x.2.2.2.1)),oo,oo,oo,oo,oo,oo,oo,oo,oo,oo,oo,oo,oo,oo,oo,oo,oo,oo,oo,oo,oo,oo,oo,oo,oo,oo,oo,some (.slice x.2.2.2.2.1 x.2.2.2.2.2.1 x.2.2.2.2.2.2.1),some (.int .i64 x.2.2.2.2.2.2.2.1),some (.int .i64 x.2.2.2.2.2.2.2.2)] ++ rp 40)
noncomputable def L96_2 (call : CallR) (Q : QT) (l42 : Option Addr) (len43 cap44 : Nat) (r45 : Addr) (l46 : Option Addr) (len47 cap48 : Nat) (x49 x50 : Int) : PH → Prop := iloop (i96 151 call) (k96 87) (K96_2 call Q) (M96_2 (l42,len43,cap44,r45,l46,len47,cap48,x49,x50))
noncomputable def L96_1 (call : CallR) (Q : QT) (l35 : Option Addr) (len36 cap37 : Nat) (l38 : Option Addr) (len39 cap40 : Nat) (r41 : Addr) : PH → Prop := i96 15 call (K96_0 call Q) ([some (.slice l35 len36 cap37),some (.slice l38 len39 cap40),oo,oo,oo,oo,oo,some (.pointer (some r41))] ++ rp 70)
theorem E96_2 (call : CallR) (Q : QT) : L96_2 call Q = S96_2 call Q := by
 repeat funext _
 refine iloop_inv M96_2 (fun e => (sa (gv e 0),sl (gv e 0),sc (gv e 0),va (gv e 7),sa (gv e 35),sl (gv e 35),sc (gv e 35),vi (gv e 36),vi (gv e 37))) (fun _ => rfl) _ _ _ _ (fun D2 x σ => ?_) _ _
 kernel_rfl
theorem E96_1 (call : CallR) (Q : QT) : L96_1 call Q = S96_1 call Q := by
 repeat funext _
 rw [S96_1,← E96_2 call Q]
 kernel_rfl
theorem E96_0 (call : CallR) (Q : QT) (a1 : Option Addr) (n2 c3 : Nat) (a4 : Option Addr) (n5 c6 : Nat) (i7 : Int) (σ : PH) : ibody prog anns call 96 #[(.slice a1 n2 c3),(.slice a4 n5 c6),(.int .i64 i7)] Q σ = S96_0 call Q a1 n2 c3 a4 n5 c6 i7 σ := by
 rw [S96_0,← E96_1 call Q]
 kernel_rfl
noncomputable def code97 : Code := (Try.f97.body).getD .skip
noncomputable def i97 (p : Nat) (call : CallR) (K : IX → Env → PH → Prop) (e : Env) : PH → Prop := icode prog call (nav (pp p) code97) (anav (pp p) an97) K e
def k97 (p : Nat) : Env → Env := Ann.cut (anav (pp p) an97)
noncomputable def K97_0 (_ : CallR) (Q : QT) : KT := finK prog Try.f97 Q
noncomputable def K97_1 (call : CallR) (Q : QT) : KT := seqK (i97 15 call (K97_0 call Q)) (k97 7) (K97_0 call Q)
noncomputable def K97_2 (call : CallR) (Q : QT) : KT := blockK 0 (K97_1 call Q)
noncomputable def K97_3 (call : CallR) (Q : QT) (D1 : ET) : KT := loopK (k97 43) D1 (K97_2 call Q)
noncomputable def K97_4 (call : CallR) (Q : QT) (D1 : ET) : KT := seqK (i97 971 call (K97_3 call Q D1)) (k97 459) (K97_3 call Q D1)
noncomputable def K97_5 (call : CallR) (Q : QT) (D1 : ET) : KT := blockK 1 (K97_4 call Q D1)
noncomputable def K97_6 (call : CallR) (Q : QT) (D1 : ET) : KT := blockK 2 (K97_5 call Q D1)
noncomputable def K97_7 (call : CallR) (Q : QT) : KT := seqK (i97 63 call (K97_0 call Q)) (k97 31) (K97_0 call Q)
noncomputable def K97_8 (call : CallR) (Q : QT) : KT := blockK 6 (K97_7 call Q)
noncomputable def K97_9 (call : CallR) (Q : QT) (D7 : ET) : KT := loopK (k97 175) D7 (K97_8 call Q)
noncomputable def K97_10 (call : CallR) (Q : QT) (D7 : ET) : KT := seqK (i97 3887 call (K97_9 call Q D7)) (k97 1839) (K97_9 call Q D7)
noncomputable def K97_11 (call : CallR) (Q : QT) (D7 : ET) : KT := blockK 7 (K97_10 call Q D7)
noncomputable def K97_12 (call : CallR) (Q : QT) (D7 : ET) : KT := blockK 8 (K97_11 call Q D7)
noncomputable def K97_13 (call : CallR) (Q : QT) (D7 D9 : ET) : KT := loopK (k97 45871) D9 (K97_12 call Q D7)
noncomputable def K97_14 (call : CallR) (Q : QT) (D7 D9 : ET) : KT := seqK (i97 996143 call (K97_13 call Q D7 D9)) (k97 471855) (K97_13 call Q D7 D9)
noncomputable def K97_15 (call : CallR) (Q : QT) (D7 D9 : ET) : KT := blockK 9 (K97_14 call Q D7 D9)
noncomputable def K97_16 (call : CallR) (Q : QT) (D7 D9 : ET) : KT := blockK 10 (K97_15 call Q D7 D9)
noncomputable def K97_17 (call : CallR) (Q : QT) : KT := seqK (i97 31 call (K97_0 call Q)) (k97 15) (K97_0 call Q)
noncomputable def K97_18 (call : CallR) (Q : QT) : KT := blockK 4 (K97_17 call Q)
abbrev T97_3 := Int × Option Addr × Nat × Nat × Addr × Int × Int × Int × Int × Int
abbrev T97_11 := Int × Addr × Int × Int × Int × Int × Int × Int × Int × Int
abbrev T97_9 := Int × Addr × Int × Int × Int × Int × Int
abbrev T97_7 := Int × Addr × Int × Int
abbrev T97_5 := Int × Addr × Option Addr × Nat × Nat × Int × Int
abbrev T97_1 := Int × Option Addr × Nat × Nat × Addr × Int × Int
def S97_4 (call : CallR) (Q : QT) (R1 : T97_1 → PH → Prop) (R3 : T97_3 → PH → Prop) (x48 : Int) (l49 : Option Addr) (len50 cap51 : Nat) (r52 : Addr) (x53 x54 x55 x56 x57 : Int) (σ : PH) : Prop :=
 br (decide (x57 < x56)) (br (x53 != x57) (∃ p68,some r52 = some p68 ∧ ∃ v69,PH.cell? σ (p68.add 1) = some v69 ∧ ∃ a70 n71 c72,v69 = .slice a70 n71 c72 ∧ ∃ p73,a70 = some p73 ∧ 0 ≤ x53 ∧ x53 < (n71 : Int) ∧ ∃ v74,PH.cell? σ (p73.add (x53.toNat * 1)) = some v74 ∧ ∃ a75 n76 c77,v74 = .slice a75 n76 c77 ∧ ∃ p78,a75 = some p78 ∧ 0 ≤ x57 ∧ x57 < (n76 : Int) ∧ (∃ u79,PH.cell? σ (p78.add (x57.toNat * 1)) = some u79) ∧ PH.froz σ (p78.add (x57.toNat * 1)) = some false ∧ R3 (x48,l49,len50,cap51,r52,x53,x54,x55,x56,(IntKind.wrap .i64 (x57 + 1))) (PH.setCell σ (p78.add (x57.toNat * 1)) (.int .i64 (1152921504606846976 : Int)))) (R3 (x48,l49,len50,cap51,r52,x53,x54,x55,x56,(IntKind.wrap .i64 (x57 + 1))) σ)) (R1 (x48,l49,len50,cap51,r52,x54,(IntKind.wrap .i64 (x55 + 1))) σ)
def S97_3 (call : CallR) (Q : QT) (R1 : T97_1 → PH → Prop) (x48 : Int) (l49 : Option Addr) (len50 cap51 : Nat) (r52 : Addr) (x53 x54 x55 x56 x57 : Int) (σ : PH) : Prop := iloopS (fun (R3 : T97_3 → PH → Prop) (x : T97_3) σ => S97_4 call Q R1 R3 x.1 x.2.1 x.2.2.1 x.2.2.2.1 x.2.2.2.2.1 x.2.2.2.2.2.1 x.2.2.2.2.2.2.1 x.2.2.2.2.2.2.2.1 x.2.2.2.2.2.2.2.2.1 x.2.2.2.2.2.2.2.2.2 σ) (x48,l49,len50,cap51,r52,x53,x54,x55,x56,x57) σ
def S97_12 (call : CallR) (Q : QT) (R7 : T97_7 → PH → Prop) (R9 : T97_9 → PH → Prop) (R11 : T97_11 → PH → Prop) (x180 : Int) (r181 : Addr) (x182 x183 x184 x185 x186 x187 x188 x189 : Int) (σ : PH) : Prop :=
 br (decide (x189 < x188)) (∃ p200,some r181 = some p200 ∧ ∃ v201,PH.cell? σ (p200.add 1) = some v201 ∧ ∃ a202 n203 c204,v201 = .slice a202 n203 c204 ∧ ∃ p205,a202 = some p205 ∧ 0 ≤ x183 ∧ x183 < (n203 : Int) ∧ ∃ v206,PH.cell? σ (p205.add (x183.toNat * 1)) = some v206 ∧ ∃ a207 n208 c209,v206 = .slice a207 n208 c209 ∧ ∃ p210,a207 = some p210 ∧ 0 ≤ x182 ∧ x182 < (n208 : Int) ∧ ∃ v211,PH.cell? σ (p210.add (x182.toNat * 1)) = some v211 ∧ ∃ i212,v211 = .int .i64 i212 ∧ br (i212 == (1152921504606846976 : Int)) (R11 (x180,r181,x182,x183,x184,x185,x186,x187,x188,(IntKind.wrap .i64 (x189 + 1))) σ) (∃ p213,some r181 = some p213 ∧ ∃ v214,PH.cell? σ (p213.add 1) = some v214 ∧ ∃ a215 n216 c217,v214 = .slice a215 n216 c217 ∧ ∃ p218,a215 = some p218 ∧ 0 ≤ x182 ∧ x182 < (n216 : Int) ∧ ∃ v219,PH.cell? σ (p218.add (x182.toNat * 1)) = some v219 ∧ ∃ a220 n221 c222,v219 = .slice a220 n221 c222 ∧ ∃ p223,a220 = some p223 ∧ 0 ≤ x189 ∧ x189 < (n221 : Int) ∧ ∃ v224,PH.cell? σ (p223.add (x189.toNat * 1)) = some v224 ∧ ∃ i225,v224 = .int .i64 i225 ∧ br (i225 == (1152921504606846976 : Int)) (R11 (x180,r181,x182,x183,x184,x185,x186,x187,x188,(IntKind.wrap .i64 (x189 + 1))) σ) (∃ p226,some r181 = some p226 ∧ ∃ v227,PH.cell? σ (p226.add 1) = some v227 ∧ ∃ a228 n229 c230,v227 = .slice a228 n229 c230 ∧ ∃ p231,a228 = some p231 ∧ 0 ≤ x183 ∧ x183 < (n229 : Int) ∧ ∃ v232,PH.cell? σ (p231.add (x183.toNat * 1)) = some v232 ∧ ∃ a233 n234 c235,v232 = .slice a233 n234 c235 ∧ ∃ p236,a233 = some p236 ∧ 0 ≤ x182 ∧ x182 < (n234 : Int) ∧ ∃ v237,PH.cell? σ (p236.add (x182.toNat * 1)) = some v237 ∧ ∃ i238,v237 = .int .i64 i238 ∧ ∃ p239,some r181 = some p239 ∧ ∃ v240,PH.cell? σ (p239.add 1) = some v240 ∧ ∃ a241 n242 c243,v240 = .slice a241 n242 c243 ∧ ∃ p244,a241 = some p244 ∧ 0 ≤ x182 ∧ x182 < (n242 : Int) ∧ ∃ v245,PH.cell? σ (p244.add (x182.toNat * 1)) = some v245 ∧ ∃ a246 n247 c248,v245 = .slice a246 n247 c248 ∧ ∃ p249,a246 = some p249 ∧ 0 ≤ x189 ∧ x189 < (n247 : Int) ∧ ∃ v250,PH.cell? σ (p249.add (x189.toNat * 1)) = some v250 ∧ ∃ i251,v250 = .int .i64 i251 ∧ ∃ p252,some r181 = some p252 ∧ ∃ v253,PH.cell? σ (p252.add 1) = some v253 ∧ ∃ a254 n255 c256,v253 = .slice a254 n255 c256 ∧ ∃ p257,a254 = some p257 ∧ 0 ≤ x183 ∧ x183 < (n255 : Int) ∧ ∃ v258,PH.cell? σ (p257.add (x183.toNat * 1)) = some v258 ∧ ∃ a259 n260 c261,v258 = .slice a259 n260 c261 ∧ ∃ p262,a259 = some p262 ∧ 0 ≤ x189 ∧ x189 < (n260 : Int) ∧ ∃ v263,PH.cell? σ (p262.add (x189.toNat * 1)) = some v263 ∧ ∃ i264,v263 = .int .i64 i264 ∧ br (decide ((IntKind.wrap .i64 (i238 + i251)) < i264)) (∃ p265,some r181 = some p265 ∧ ∃ v266,PH.cell? σ (p265.add 1) = some v266 ∧ ∃ a267 n268 c269,v266 = .slice a267 n268 c269 ∧ ∃ p270,a267 = some p270 ∧ 0 ≤ x183 ∧ x183 < (n268 : Int) ∧ ∃ v271,PH.cell? σ (p270.add (x183.toNat * 1)) = some v271 ∧ ∃ a272 n273 c274,v271 = .slice a272 n273 c274 ∧ ∃ p275,some r181 = some p275 ∧ ∃ v276,PH.cell? σ (p275.add 2) = some v276 ∧ ∃ a277 n278 c279,v276 = .slice a277 n278 c279 ∧ ∃ p280,a277 = some p280 ∧ 0 ≤ x183 ∧ x183 < (n278 : Int) ∧ ∃ v281,PH.cell? σ (p280.add (x183.toNat * 1)) = some v281 ∧ ∃ a282 n283 c284,v281 = .slice a282 n283 c284 ∧ ∃ p285,some r181 = some p285 ∧ ∃ v286,PH.cell? σ (p285.add 2) = some v286 ∧ ∃ a287 n288 c289,v286 = .slice a287 n288 c289 ∧ ∃ p290,a287 = some p290 ∧ 0 ≤ x183 ∧ x183 < (n288 : Int) ∧ ∃ v291,PH.cell? σ (p290.add (x183.toNat * 1)) = some v291 ∧ ∃ a292 n293 c294,v291 = .slice a292 n293 c294 ∧ ∃ p295,a292 = some p295 ∧ 0 ≤ x182 ∧ x182 < (n293 : Int) ∧ ∃ v296,PH.cell? σ (p295.add (x182.toNat * 1)) = some v296 ∧ ∃ i297,v296 = .int .i64 i297 ∧ ∃ p298,letI h901 : PH := PH.setCell σ (p298.add (x189.toNat * 1)) (.int .i64 (IntKind.wrap .i64 (i238 + i251))); a272 = some p298 ∧ 0 ≤ x189 ∧ x189 < (n273 : Int) ∧ (∃ u299,PH.cell? σ (p298.add (x189.toNat * 1)) = some u299) ∧ PH.froz σ (p298.add (x189.toNat * 1)) = some false ∧ ∃ p300,a282 = some p300 ∧ 0 ≤ x189 ∧ x189 < (n283 : Int) ∧ (∃ u301,PH.cell? h901 (p300.add (x189.toNat * 1)) = some u301) ∧ PH.froz h901 (p300.add (x189.toNat * 1)) = some false ∧ R11 (x180,r181,x182,x183,x184,x185,x186,x187,x188,(IntKind.wrap .i64 (x189 + 1))) (PH.setCell h901 (p300.add (x189.toNat * 1)) (.int .i64 i297))) (R11 (x180,r181,x182,x183,x184,x185,x186,x187,x188,(IntKind.wrap .i64 (x189 + 1))) σ)))) (R9 (x180,r181,x182,x184,x185,x186,(IntKind.wrap .i64 (x187 + 1))) σ)
def S97_11 (call : CallR) (Q : QT) (R7 : T97_7 → PH → Prop) (R9 : T97_9 → PH → Prop) (x180 : Int) (r181 : Addr) (x182 x183 x184 x185 x186 x187 x188 x189 : Int) (σ : PH) : Prop := iloopS (fun (R11 : T97_11 → PH → Prop) (x : T97_11) σ => S97_12 call Q R7 R9 R11 x.1 x.2.1 x.2.2.1 x.2.2.2.1 x.2.2.2.2.1 x.2.2.2.2.2.1 x.2.2.2.2.2.2.1 x.2.2.2.2.2.2.2.1 x.2.2.2.2.2.2.2.2.1 x.2.2.2.2.2.2.2.2.2 σ) (x180,r181,x182,x183,x184,x185,x186,x187,x188,x189) σ
def S97_10 (call : CallR) (Q : QT) (R7 : T97_7 → PH → Prop) (R9 : T97_9 → PH → Prop) (x166 : Int) (r167 : Addr) (x168 x169 x170 x171 x172 : Int) (σ : PH) : Prop :=
 br (decide (x172 < x171)) (S97_11 call Q R7 R9 x166 r167 x168 x172 x169 x170 x171 x172 x166 (0 : Int) σ) (R7 (x166,r167,x169,(IntKind.wrap .i64 (x170 + 1))) σ)
def S97_9 (call : CallR) (Q : QT) (R7 : T97_7 → PH → Prop) (x166 : Int) (r167 : Addr) (x168 x169 x170 x171 x172 : Int) (σ : PH) : Prop := iloopS (fun (R9 : T97_9 → PH → Prop) (x : T97_9) σ => S97_10 call Q R7 R9 x.1 x.2.1 x.2.2.1 x.2.2.2.1 x.2.2.2.2.1 x.2.2.2.2.2.1 x.2.2.2.2.2.2 σ) (x166,r167,x168,x169,x170,x171,x172) σ
def S97_8 (call : CallR) (Q : QT) (R7 : T97_7 → PH → Prop) (x158 : Int) (r159 : Addr) (x160 x161 : Int) (σ : PH) : Prop :=
 br (decide (x161 < x160)) (S97_9 call Q R7 x158 r159 x161 x160 x161 x158 (0 : Int) σ) (Q (.pointer (some r159)) σ)
def S97_7 (call : CallR) (Q : QT) (x158 : Int) (r159 : Addr) (x160 x161 : Int) (σ : PH) : Prop := iloopS (fun (R7 : T97_7 → PH → Prop) (x : T97_7) σ => S97_8 call Q R7 x.1 x.2.1 x.2.2.1 x.2.2.2 σ) (x158,r159,x160,x161) σ
def S97_6 (call : CallR) (Q : QT) (R5 : T97_5 → PH → Prop) (x80 : Int) (r81 : Addr) (l82 : Option Addr) (len83 cap84 : Nat) (x85 x86 : Int) (σ : PH) : Prop :=
 br (decide (x86 < x85)) (∃ p94,l82 = some p94 ∧ 0 ≤ x86 ∧ x86 < (len83 : Int) ∧ ∃ v95,PH.cell? σ (p94.add (Int.toNat x86 * 3)) = some v95 ∧ ∃ v96,PH.cell? σ ((p94.add (Int.toNat x86 * 3)).add 1) = some v96 ∧ ∃ v97,PH.cell? σ ((p94.add (Int.toNat x86 * 3)).add 2) = some v97 ∧ ∃ (i98 : Int) (i99 : Int) (i100 : Int),Value.agg #[v95,v96,v97] = (.agg #[.int .i64 i98,.int .i64 i99,.int .i64 i100]) ∧ ∀ b101 : Nat,letI h901 : PH := PH.set σ b101 (.cells #[.int .i64 0,.int .i64 0,.int .i64 0] 50); letI p9b101 : Addr := ⟨b101,0,none⟩; letI h902 : PH := PH.setCell h901 p9b101 (.int .i64 i98); letI h903 : PH := PH.setCell h902 (p9b101.add 1) (.int .i64 i99); letI h904 : PH := PH.setCell h903 (p9b101.add 2) (.int .i64 i100); σ b101 = none → (∃ u102,PH.cell? h901 p9b101 = some u102) ∧ PH.froz h901 p9b101 = some false ∧ (∃ u103,PH.cell? h902 (p9b101.add 1) = some u103) ∧ PH.froz h902 (p9b101.add 1) = some false ∧ (∃ u104,PH.cell? h903 (p9b101.add 2) = some u104) ∧ PH.froz h903 (p9b101.add 2) = some false ∧ ∃ v105,PH.cell? h904 (p9b101.add 2) = some v105 ∧ ∃ i106,v105 = .int .i64 i106 ∧ ∃ p107,some r81 = some p107 ∧ ∃ v108,PH.cell? h904 (p107.add 1) = some v108 ∧ ∃ a109 n110 c111,v108 = .slice a109 n110 c111 ∧ ∃ v112,PH.cell? h904 p9b101 = some v112 ∧ ∃ i113,v112 = .int .i64 i113 ∧ ∃ p114,a109 = some p114 ∧ 0 ≤ i113 ∧ i113 < (n110 : Int) ∧ ∃ v115,PH.cell? h904 (p114.add (i113.toNat * 1)) = some v115 ∧ ∃ a116 n117 c118,v115 = .slice a116 n117 c118 ∧ ∃ v119,PH.cell? h904 (p9b101.add 1) = some v119 ∧ ∃ i120,v119 = .int .i64 i120 ∧ ∃ p121,a116 = some p121 ∧ 0 ≤ i120 ∧ i120 < (n117 : Int) ∧ ∃ v122,PH.cell? h904 (p121.add (i120.toNat * 1)) = some v122 ∧ ∃ i123,v122 = .int .i64 i123 ∧ br (decide (i106 < i123)) (∃ p124,some r81 = some p124 ∧ ∃ v125,PH.cell? h904 (p124.add 1) = some v125 ∧ ∃ a126 n127 c128,v125 = .slice a126 n127 c128 ∧ ∃ v129,PH.cell? h904 p9b101 = some v129 ∧ ∃ i130,v129 = .int .i64 i130 ∧ ∃ p131,a126 = some p131 ∧ 0 ≤ i130 ∧ i130 < (n127 : Int) ∧ ∃ v132,PH.cell? h904 (p131.add (i130.toNat * 1)) = some v132 ∧ ∃ a133 n134 c135,v132 = .slice a133 n134 c135 ∧ ∃ v136,PH.cell? h904 (p9b101.add 1) = some v136 ∧ ∃ i137,v136 = .int .i64 i137 ∧ ∃ p138,some r81 = some p138 ∧ ∃ v139,PH.cell? h904 (p138.add 2) = some v139 ∧ ∃ a140 n141 c142,v139 = .slice a140 n141 c142 ∧ ∃ v143,PH.cell? h904 p9b101 = some v143 ∧ ∃ i144,v143 = .int .i64 i144 ∧ ∃ p145,a140 = some p145 ∧ 0 ≤ i144 ∧ i144 < (n141 : Int) ∧ ∃ v146,PH.cell? h904 (p145.add (i144.toNat * 1)) = some v146 ∧ ∃ a147 n148 c149,v146 = .slice a147 n148 c149 ∧ ∃ v150,PH.cell? h904 (p9b101.add 1) = some v150 ∧ ∃ i151,v150 = .int .i64 i151 ∧ ∃ v152,PH.cell? h904 (p9b101.add 2) = some v152 ∧ ∃ i153,v152 = .int .i64 i153 ∧ ∃ p154,letI h905 : PH := PH.setCell h904 (p154.add (i137.toNat * 1)) (.int .i64 i153); a133 = some p154 ∧ 0 ≤ i137 ∧ i137 < (n134 : Int) ∧ (¬ (Addr.block (p154.add (i137.toNat * 1)) = Addr.block (p9b101.add 1) ∧ Addr.off (p154.add (i137.toNat * 1)) = Addr.off (p9b101.add 1))) ∧ (∃ u155,PH.cell? h904 (p154.add (i137.toNat * 1)) = some u155) ∧ PH.froz h904 (p154.add (i137.toNat * 1)) = some false ∧ ∃ p156,a147 = some p156 ∧ 0 ≤ i151 ∧ i151 < (n148 : Int) ∧ (∃ u157,PH.cell? h905 (p156.add (i151.toNat * 1)) = some u157) ∧ PH.froz h905 (p156.add (i151.toNat * 1)) = some false ∧ R5 (x80,r81,l82,len83,cap84,x85,(IntKind.wrap .i64 (x86 + 1))) (PH.setCell h905 (p156.add (i151.toNat * 1)) (.int .i64 x86))) (R5 (x80,r81,l82,len83,cap84,x85,(IntKind.wrap .i64 (x86 + 1))) h904)) (S97_7 call Q x80 r81 x80 (0 : Int) σ)
def S97_5 (call : CallR) (Q : QT) (x80 : Int) (r81 : Addr) (l82 : Option Addr) (len83 cap84 : Nat) (x85 x86 : Int) (σ : PH) : Prop := iloopS (fun (R5 : T97_5 → PH → Prop) (x : T97_5) σ => S97_6 call Q R5 x.1 x.2.1 x.2.2.1 x.2.2.2.1 x.2.2.2.2.1 x.2.2.2.2.2.1 x.2.2.2.2.2.2 σ) (x80,r81,l82,len83,cap84,x85,x86) σ
def S97_2 (call : CallR) (Q : QT) (R1 : T97_1 → PH → Prop) (x6 : Int) (l7 : Option Addr) (len8 cap9 : Nat) (r10 : Addr) (x11 x12 : Int) (σ : PH) : Prop :=
 br (decide (x12 < x11)) (∃ p20,some r10 = some p20 ∧ ∃ v21,PH.cell? σ (p20.add 1) = some v21 ∧ ∃ a22 n23 c24,v21 = .slice a22 n23 c24 ∧ 0 ≤ x6 ∧ x6 ≤ x6 ∧ (8 : Int) * x6 ≤ 2 ^ 47 ∧ x6 < 2 ^ 62 ∧ ∀ b25 : Nat,letI h903 : PH := PH.set σ b25 (.cells (zeros (.int .i64 (0 : Int)) (Int.toNat x6)) 3); σ b25 = none → ∀ b26 : Nat,h903 b26 = none → iappend prog 33 (.slice a22 n23 c24) (.slice (some ⟨b26,0,none⟩) 1 1) (fun v27 τ28 => ∃ a29 n30 c31,v27 = .slice a29 n30 c31 ∧ ∃ p32,some r10 = some p32 ∧ (∀ p : Addr,a22 = some p → ¬ Addr.block (p32.add 2) = p.block) ∧ ∃ v33,PH.cell? τ28 (p32.add 2) = some v33 ∧ ∃ a34 n35 c36,v33 = .slice a34 n35 c36 ∧ 0 ≤ x6 ∧ x6 ≤ x6 ∧ (8 : Int) * x6 ≤ 2 ^ 47 ∧ x6 < 2 ^ 62 ∧ ∀ b37 : Nat,letI h902 : PH := PH.set τ28 b37 (.cells (zeros (.int .i64 (0 : Int)) (Int.toNat x6)) 3); τ28 b37 = none → ∀ b38 : Nat,h902 b38 = none → iappend prog 33 (.slice a34 n35 c36) (.slice (some ⟨b38,0,none⟩) 1 1) (fun v39 τ40 => ∃ a41 n42 c43,v39 = .slice a41 n42 c43 ∧ ∃ p44,letI h901 : PH := PH.setCell τ40 (p44.add 1) (.slice a29 n30 c31); some r10 = some p44 ∧ (∃ u45,PH.cell? τ40 (p44.add 1) = some u45) ∧ PH.froz τ40 (p44.add 1) = some false ∧ ∃ p46,some r10 = some p46 ∧ (∃ u47,PH.cell? h901 (p46.add 2) = some u47) ∧ PH.froz h901 (p46.add 2) = some false ∧ S97_3 call Q R1 x6 l7 len8 cap9 r10 x12 x11 x12 x6 (0 : Int) (PH.setCell h901 (p46.add 2) (.slice a41 n42 c43))) (PH.set h902 b38 (.cells #[(.slice (some ⟨b37,0,none⟩) (Int.toNat x6) (Int.toNat x6))] 33))) (PH.set h903 b26 (.cells #[(.slice (some ⟨b25,0,none⟩) (Int.toNat x6) (Int.toNat x6))] 33))) (S97_5 call Q x6 r10 l7 len8 cap9 (len8 : Int) (0 : Int) σ)
def S97_1 (call : CallR) (Q : QT) (x6 : Int) (l7 : Option Addr) (len8 cap9 : Nat) (r10 : Addr) (x11 x12 : Int) (σ : PH) : Prop := iloopS (fun (R1 : T97_1 → PH → Prop) (x : T97_1) σ => S97_2 call Q R1 x.1 x.2.1 x.2.2.1 x.2.2.2.1 x.2.2.2.2.1 x.2.2.2.2.2.1 x.2.2.2.2.2.2 σ) (x6,l7,len8,cap9,r10,x11,x12) σ
def S97_0 (call : CallR) (Q : QT) (i1 : Int) (a2 : Option Addr) (n3 c4 : Nat) (σ : PH) : Prop :=
 ∀ b5 : Nat,σ b5 = none → S97_1 call Q i1 a2 n3 c4 (⟨b5,0,none⟩ : Addr) i1 (0 : Int) (PH.set σ b5 (.cells #[.slice a2 n3 c4,.slice none 0 0,.slice none 0 0] 152))
noncomputable def M97_3 (x : T97_3) : Env := ([some (.int .i64 x.1),some (.slice x.2.1 x.2.2.1 x.2.2.2.1),oo,oo,oo,some (.pointer (some x.2.2.2.2.1)),some (.int .i64 x.2.2.2.2.2.1),oo,oo,oo,oo,oo,oo,oo,oo,oo,oo,some (.int .i64 x.2.2.2.2.2.2.1),some (.int .i64 x.2.2.2.2.2.2.2.1),oo,oo,oo,oo,oo,oo,oo,oo,oo,oo,oo,oo,oo,oo,oo,oo,oo,oo,oo,oo,oo,oo,oo,oo,some (.int .i64 x.2.2.2.2.2.2.2.2.1),some (.int .i64 x.2.2.2.2.2.2.2.2.2)] ++ rp 166)
noncomputable def M97_11 (x : T97_11) : Env := ([some (.int .i64 x.1),oo,oo,oo,oo,some (.pointer (some x.2.1)),oo,oo,oo,oo,some (.int .i64 x.2.2.1),some (.int .i64 x.2.2.2.1),oo,oo,oo,oo,oo,oo,oo,oo,oo,oo,oo,oo,oo,oo,oo,oo,oo,oo,oo,oo,oo,oo,oo,oo,oo,oo,oo,oo,oo,oo,oo,oo,oo,oo,oo,oo,oo,oo,oo,oo,oo,oo,oo,oo,oo,oo,oo,oo,oo,oo,oo,oo,oo,oo,oo,oo,oo,oo,oo,oo,oo,oo,oo,oo,oo,oo,oo,oo,oo,oo,oo,oo,oo,oo,oo,oo,oo,oo,oo,oo,oo,oo,oo,oo,oo,oo,oo,oo,oo,oo,oo,oo,oo,oo,oo,oo,oo,some (.int .i64 x.2.2.2.2.1),some (.int .i64 x.2.2.2.2.2.1),oo,oo,some (.int .i64 x.2.2.2.2.2.2.1),some (.int .i64 x.2.2.2.2.2.2.2.1),oo,oo,some (.int .i64 x.2.2.2.2.2.2.2.2.1),some (.int .i64 x.2.2.2.2.2.2.2.2.2)] ++ rp 92)
noncomputable def M97_9 (x : T97_9) : Env := ([some (.int .i64 x.1),oo,oo,oo,oo,some (.pointer (some x.2.1)),oo,oo,oo,oo,some (.int .i64 x.2.2.1),oo,oo,oo,oo,oo,oo,oo,oo,oo,oo,oo,oo,oo,oo,oo,oo,oo,oo,oo,oo,oo,oo,oo,oo,oo,oo,oo,oo,oo,oo,oo,oo,oo,oo,oo,oo,oo,oo,oo,oo,oo,oo,oo,oo,oo,oo,oo,oo,oo,oo,oo,oo,oo,oo,oo,oo,oo,oo,oo,oo,oo,oo,oo,oo,oo,oo,oo,oo,oo,oo,oo,oo,oo,oo,oo,oo,oo,oo,oo,oo,oo,oo,oo,oo,oo,oo,oo,oo,oo,oo,oo,oo,oo,oo,oo,oo,oo,oo,some (.int .i64 x.2.2.2.1),some (.int .i64 x.2.2.2.2.1),oo,oo,some (.int .i64 x.2.2.2.2.2.1),some (.int .i64 x.2.2.2.2.2.2)] ++ rp 96)
noncomputable def M97_7 (x : T97_7) : Env := ([some (.int .i64 x.1),oo,oo,oo,oo,some (.pointer (some x.2.1)),oo,oo,oo,oo,oo,oo,oo,oo,oo,oo,oo,oo,oo,oo,oo,oo,oo,oo,oo,oo,oo,oo,oo,oo,oo,oo,oo,oo,oo,oo,oo,oo,oo,oo,oo,oo,oo,oo,oo,oo,oo,oo,oo,oo,oo,oo,oo,oo,oo,oo,oo,oo,oo,oo,oo,oo,oo,oo,oo,oo,oo,oo,oo,oo,oo,oo,oo,oo,oo,oo,oo,oo,oo,oo,oo,oo,oo,oo,oo,oo,oo,oo,oo,oo,oo,oo,oo,oo,oo,oo,oo,oo,oo,oo,oo,oo,oo,oo,oo,oo,oo,oo,oo,some (.int .i64 x.2.2.1),some (.int .i64 x.2.2.2)] ++ rp 100)
noncomputable def M97_5 (x : T97_5) : Env := ([some (.int .i64 x.1),oo,oo,oo,oo,some (.pointer (some x.2.1)),oo,oo,oo,oo,oo,oo,oo,oo,oo,oo,oo,oo,oo,oo,oo,oo,oo,oo,oo,oo,oo,oo,oo,oo,oo,oo,oo,oo,oo,oo,oo,oo,oo,oo,oo,oo,oo,oo,oo,oo,oo,oo,oo,oo,oo,oo,oo,oo,oo,oo,oo,oo,oo,oo,oo,some (.slice x.2.2.1 x.2.2.2.1 x.2.2.2.2.1),some (.int .i64 x.2.2.2.2.2.1),some (.int .i64 x.2.2.2.2.2.2)] ++ rp 147)
noncomputable def M97_1 (x : T97_1) : Env := ([some (.int .i64 x.1),some (.slice x.2.1 x.2.2.1 x.2.2.2.1),oo,oo,oo,some (.pointer (some x.2.2.2.2.1)),oo,oo,oo,oo,oo,oo,oo,oo,oo,oo,oo,some (.int .i64 x.2.2.2.2.2.1),some (.int .i64 x.2.2.2.2.2.2)] ++ rp 192)
noncomputable def L97_3 (call : CallR) (Q : QT) (D1 : ET) (x48 : Int) (l49 : Option Addr) (len50 cap51 : Nat) (r52 : Addr) (x53 x54 x55 x56 x57 : Int) : PH → Prop := iloop (i97 40139 call) (k97 23755) (K97_6 call Q D1) (M97_3 (x48,l49,len50,cap51,r52,x53,x54,x55,x56,x57))
noncomputable def L97_11 (call : CallR) (Q : QT) (D7 D9 : ET) (x180 : Int) (r181 : Addr) (x182 x183 x184 x185 x186 x187 x188 x189 : Int) : PH → Prop := iloop (i97 20132655 call) (k97 11744047) (K97_16 call Q D7 D9) (M97_11 (x180,r181,x182,x183,x184,x185,x186,x187,x188,x189))
noncomputable def L97_9 (call : CallR) (Q : QT) (D7 : ET) (x166 : Int) (r167 : Addr) (x168 x169 x170 x171 x172 : Int) : PH → Prop := iloop (i97 78639 call) (k97 45871) (K97_12 call Q D7) (M97_9 (x166,r167,x168,x169,x170,x171,x172))
noncomputable def L97_7 (call : CallR) (Q : QT) (x158 : Int) (r159 : Addr) (x160 x161 : Int) : PH → Prop := iloop (i97 303 call) (k97 175) (K97_8 call Q) (M97_7 (x158,r159,x160,x161))
noncomputable def L97_5 (call : CallR) (Q : QT) (x80 : Int) (r81 : Addr) (l82 : Option Addr) (len83 cap84 : Nat) (x85 x86 : Int) : PH → Prop := iloop (i97 151 call) (k97 87) (K97_18 call Q) (M97_5 (x80,r81,l82,len83,cap84,x85,x86))
noncomputable def L97_1 (call : CallR) (Q : QT) (x6 : Int) (l7 : Option Addr) (len8 cap9 : Nat) (r10 : Addr) (x11 x12 : Int) : PH → Prop := iloop (i97 75 call) (k97 43) (K97_2 call Q) (M97_1 (x6,l7,len8,cap9,r10,x11,x12))
theorem E97_3 (call : CallR) (Q : QT) (D1 : ET) : L97_3 call Q D1 = S97_3 call Q (fun y => D1 (M97_1 y)) := by
 repeat funext _
 refine iloop_inv M97_3 (fun e => (vi (gv e 0),sa (gv e 1),sl (gv e 1),sc (gv e 1),va (gv e 5),vi (gv e 6),vi (gv e 17),vi (gv e 18),vi (gv e 43),vi (gv e 44))) (fun _ => rfl) _ _ _ _ (fun D3 x σ => ?_) _ _
 kernel_rfl
theorem E97_11 (call : CallR) (Q : QT) (D7 D9 : ET) : L97_11 call Q D7 D9 = S97_11 call Q (fun y => D7 (M97_7 y)) (fun y => D9 (M97_9 y)) := by
 repeat funext _
 refine iloop_inv M97_11 (fun e => (vi (gv e 0),va (gv e 5),vi (gv e 10),vi (gv e 11),vi (gv e 109),vi (gv e 110),vi (gv e 113),vi (gv e 114),vi (gv e 117),vi (gv e 118))) (fun _ => rfl) _ _ _ _ (fun D11 x σ => ?_) _ _
 kernel_rfl
theorem E97_9 (call : CallR) (Q : QT) (D7 : ET) : L97_9 call Q D7 = S97_9 call Q (fun y => D7 (M97_7 y)) := by
 repeat funext _
 refine iloop_inv M97_9 (fun e => (vi (gv e 0),va (gv e 5),vi (gv e 10),vi (gv e 109),vi (gv e 110),vi (gv e 113),vi (gv e 114))) (fun _ => rfl) _ _ _ _ (fun D9 x σ => ?_) _ _
 rw [S97_10,← E97_11 call Q D7 D9]
 kernel_rfl
theorem E97_7 (call : CallR) (Q : QT) : L97_7 call Q = S97_7 call Q := by
 repeat funext _
 refine iloop_inv M97_7 (fun e => (vi (gv e 0),va (gv e 5),vi (gv e 109),vi (gv e 110))) (fun _ => rfl) _ _ _ _ (fun D7 x σ => ?_) _ _
 rw [S97_8,← E97_9 call Q D7]
 kernel_rfl
theorem E97_5 (call : CallR) (Q : QT) : L97_5 call Q = S97_5 call Q := by
 repeat funext _
 refine iloop_inv M97_5 (fun e => (vi (gv e 0),va (gv e 5),sa (gv e 61),sl (gv e 61),sc (gv e 61),vi (gv e 62),vi (gv e 63))) (fun _ => rfl) _ _ _ _ (fun D5 x σ => ?_) _ _
 rw [S97_6,← E97_7 call Q]
 kernel_rfl
theorem E97_1 (call : CallR) (Q : QT) : L97_1 call Q = S97_1 call Q := by
 repeat funext _
 refine iloop_inv M97_1 (fun e => (vi (gv e 0),sa (gv e 1),sl (gv e 1),sc (gv e 1),va (gv e 5),vi (gv e 17),vi (gv e 18))) (fun _ => rfl) _ _ _ _ (fun D1 x σ => ?_) _ _
 rw [S97_2,← E97_3 call Q D1,← E97_5 call Q]
 kernel_rfl
theorem E97_0 (call : CallR) (Q : QT) (i1 : Int) (a2 : Option Addr) (n3 c4 : Nat) (σ : PH) : ibody prog anns call 97 #[(.int .i64 i1),(.slice a2 n3 c4)] Q σ = S97_0 call Q i1 a2 n3 c4 σ := by
 rw [S97_0,← E97_1 call Q]
 kernel_rfl
def S98_0 (call : CallR) (Q : QT) (p1 : Option Addr) (i2 i3 : Int) (σ : PH) : Prop :=
 ∃ p4,p1 = some p4 ∧ ∃ v5,PH.cell? σ (p4.add 1) = some v5 ∧ ∃ a6 n7 c8,v5 = .slice a6 n7 c8 ∧ ∃ p9,a6 = some p9 ∧ 0 ≤ i2 ∧ i2 < (n7 : Int) ∧ ∃ v10,PH.cell? σ (p9.add (i2.toNat * 1)) = some v10 ∧ ∃ a11 n12 c13,v10 = .slice a11 n12 c13 ∧ ∃ p14,a11 = some p14 ∧ 0 ≤ i3 ∧ i3 < (n12 : Int) ∧ ∃ v15,PH.cell? σ (p14.add (i3.toNat * 1)) = some v15 ∧ ∃ i16,v15 = .int .i64 i16 ∧ Q (.int .i64 i16) σ
theorem E98_0 (call : CallR) (Q : QT) (p1 : Option Addr) (i2 i3 : Int) (σ : PH) : ibody prog anns call 98 #[(.pointer p1),(.int .i64 i2),(.int .i64 i3)] Q σ = S98_0 call Q p1 i2 i3 σ := by
 kernel_rfl
noncomputable def code99 : Code := (Try.f99.body).getD .skip
noncomputable def i99 (p : Nat) (call : CallR) (K : IX → Env → PH → Prop) (e : Env) : PH → Prop := icode prog call (nav (pp p) code99) (anav (pp p) an99) K e
def k99 (p : Nat) : Env → Env := Ann.cut (anav (pp p) an99)
noncomputable def K99_0 (_ : CallR) (Q : QT) : KT := finK prog Try.f99 Q
noncomputable def K99_1 (call : CallR) (Q : QT) : KT := seqK (i99 15 call (K99_0 call Q)) (k99 7) (K99_0 call Q)
noncomputable def K99_2 (call : CallR) (Q : QT) : KT := blockK 0 (K99_1 call Q)
abbrev T99_1 := Option Addr × Int × Int × Option Addr × Nat × Nat
def S99_2 (call : CallR) (Q : QT) (R1 : T99_1 → PH → Prop) (r4 : Option Addr) (x5 x6 : Int) (l7 : Option Addr) (len8 cap9 : Nat) (σ : PH) : Prop :=
 br (x5 != x6) (∃ p16,r4 = some p16 ∧ ∃ v17,PH.cell? σ (p16.add 2) = some v17 ∧ ∃ a18 n19 c20,v17 = .slice a18 n19 c20 ∧ ∃ p21,a18 = some p21 ∧ 0 ≤ x5 ∧ x5 < (n19 : Int) ∧ ∃ v22,PH.cell? σ (p21.add (x5.toNat * 1)) = some v22 ∧ ∃ a23 n24 c25,v22 = .slice a23 n24 c25 ∧ ∃ p26,a23 = some p26 ∧ 0 ≤ x6 ∧ x6 < (n24 : Int) ∧ ∃ v27,PH.cell? σ (p26.add (x6.toNat * 1)) = some v27 ∧ ∃ i28,v27 = .int .i64 i28 ∧ ∀ b29 : Nat,σ b29 = none → iappend prog 3 (.slice l7 len8 cap9) (.slice (some ⟨b29,0,none⟩) 1 1) (fun v30 τ31 => ∃ a32 n33 c34,v30 = .slice a32 n33 c34 ∧ ∃ p35,r4 = some p35 ∧ ∃ v36,PH.cell? τ31 p35 = some v36 ∧ ∃ a37 n38 c39,v36 = .slice a37 n38 c39 ∧ ∃ p40,a37 = some p40 ∧ 0 ≤ i28 ∧ i28 < (n38 : Int) ∧ ∃ v41,PH.cell? τ31 ((p40.add (Int.toNat i28 * 3)).add 1) = some v41 ∧ ∃ i42,v41 = .int .i64 i42 ∧ R1 (r4,i42,x6,a32,n33,c34) τ31) (PH.set σ b29 (.cells #[.int .i64 i28] 3))) (Q (.slice l7 len8 cap9) σ)
def S99_1 (call : CallR) (Q : QT) (r4 : Option Addr) (x5 x6 : Int) (l7 : Option Addr) (len8 cap9 : Nat) (σ : PH) : Prop := iloopS (fun (R1 : T99_1 → PH → Prop) (x : T99_1) σ => S99_2 call Q R1 x.1 x.2.1 x.2.2.1 x.2.2.2.1 x.2.2.2.2.1 x.2.2.2.2.2 σ) (r4,x5,x6,l7,len8,cap9) σ
def S99_0 (call : CallR) (Q : QT) (p1 : Option Addr) (i2 i3 : Int) (σ : PH) : Prop :=
 S99_1 call Q p1 i2 i3 none 0 0 σ
noncomputable def M99_1 (x : T99_1) : Env := ([some (.pointer x.1),some (.int .i64 x.2.1),some (.int .i64 x.2.2.1),oo,oo,oo,oo,some (.slice x.2.2.2.1 x.2.2.2.2.1 x.2.2.2.2.2)] ++ rp 27)
noncomputable def L99_1 (call : CallR) (Q : QT) (r4 : Option Addr) (x5 x6 : Int) (l7 : Option Addr) (len8 cap9 : Nat) : PH → Prop := iloop (i99 35 call) (k99 19) (K99_2 call Q) (M99_1 (r4,x5,x6,l7,len8,cap9))
theorem E99_1 (call : CallR) (Q : QT) : L99_1 call Q = S99_1 call Q := by
 repeat funext _
 refine iloop_inv M99_1 (fun e => (vp (gv e 0),vi (gv e 1),vi (gv e 2),sa (gv e 7),sl (gv e 7),sc (gv e 7))) (fun _ => rfl) _ _ _ _ (fun D1 x σ => ?_) _ _
 kernel_rfl
theorem E99_0 (call : CallR) (Q : QT) (p1 : Option Addr) (i2 i3 : Int) (σ : PH) : ibody prog anns call 99 #[(.pointer p1),(.int .i64 i2),(.int .i64 i3)] Q σ = S99_0 call Q p1 i2 i3 σ := by
 rw [S99_0,← E99_1 call Q]
 kernel_rfl
def S111_0 (call : CallR) (Q : QT) (a1 : Option Addr) (n2 c3 : Nat) (σ : PH) : Prop :=
 call 50 #[.slice a1 n2 c3] (fun v4 τ5 => ∃ υ6 : PH,PH.sub υ6 τ5 ∧ ∃ (a7 : Option Addr) (n8 : Nat) (c9 : Nat) (q10 : Bool),v4 = (.tuple #[.slice a7 n8 c9,(.bool q10)]) ∧ call 117 #[.slice a7 n8 c9] (fun v11 τ12 => ∃ υ13 : PH,PH.sub υ13 τ12 ∧ ∃ a14 n15 c16,v11 = .slice a14 n15 c16 ∧ Q (.slice a14 n15 c16) υ13) υ6) σ
theorem E111_0 (call : CallR) (Q : QT) (a1 : Option Addr) (n2 c3 : Nat) (σ : PH) : ibody prog anns call 111 #[(.slice a1 n2 c3)] Q σ = S111_0 call Q a1 n2 c3 σ := by
 kernel_rfl
def S117_0 (call : CallR) (Q : QT) (a1 : Option Addr) (n2 c3 : Nat) (σ : PH) : Prop :=
 br (a1).isNone (Q (.slice none 0 0) σ) (∀ b4 : Nat,σ b4 = none → iappend prog 3 (.slice (some ⟨b4,0,none⟩) 0 0) (.slice a1 n2 c3) (fun v5 τ6 => ∃ a7 n8 c9,v5 = .slice a7 n8 c9 ∧ Q (.slice a7 n8 c9) τ6) (PH.set σ b4 (.cells #[] 3)))
theorem E117_0 (call : CallR) (Q : QT) (a1 : Option Addr) (n2 c3 : Nat) (σ : PH) : ibody prog anns call 117 #[(.slice a1 n2 c3)] Q σ = S117_0 call Q a1 n2 c3 σ := by
 kernel_rfl
abbrev T6_5 := Addr × Addr × Option Addr × Nat × Nat × Int × Int
abbrev T6_3 := Option Addr × Nat × Nat × Addr × Addr × Int × Int
abbrev T6_1 := Option Addr × Nat × Nat × Option Addr × Nat × Nat × Addr × Addr × Int × Int
abbrev T7_1 := Int × Int × Addr × Int
end Go.Proofs.Ythfnjogadngfiaa
namespace Go.Proofs.Ythfnjogadngfiaa
open Go.Sl Go.Sv
noncomputable abbrev C : CallR := ICall prog anns (SemCall prog)
theorem hb : CMono (SemCall prog) (SemCall prog) := SemCall.of SemCall.hc
theorem go {f : FuncId} {args : Array Value} {Q : Value → PH → Prop} {σ : PH} {A : Prop} (e : ibody prog anns C f args Q σ = A) (h : A) : C f args Q σ := by
 refine ICall.intro (P := prog) (anns := anns) (base := SemCall prog) hb ?_
 rw [e]
 exact h
def Lit (i : Int) : Prop := -1152921504606846976 ≤ i ∧ i ≤ 1152921504606846976
theorem c73 {i : Int} (h : Lit i) (σ : PH) : C 73 #[.int .i64 i] (fun v τ => v = .int .i64 (idx i) ∧ τ = σ) σ := by
 refine go (E73_0 _ _ _ _) ?_
 unfold S73_0
 obtain ⟨h1,h2⟩ := h
 refine br_dec.2 ⟨fun hl => ⟨?_,rfl⟩,fun hl => ⟨?_,rfl⟩⟩
 · unfold idx
   rw [if_pos hl,w64 (n := 0 - i) (by omega) (by omega),w64 (n := 0 - i - 1) (by omega) (by omega),w64 (n := 2 * (0 - i - 1)) (by omega) (by omega),w64 (by omega) (by omega)]
   congr 1; omega
 · unfold idx
   rw [if_neg hl,w64 (n := i - 1) (by omega) (by omega),w64 (by omega) (by omega)]
theorem c74 {i : Int} (h : Lit i) (h0 : i ≠ 0) (σ : PH) : C 74 #[.int .i64 i] (fun v τ => v = .int .i64 (idx i / 2) ∧ τ = σ) σ := by
 refine go (E74_0 _ _ _ _) ?_
 unfold S74_0
 refine (c73 h σ).mono hb ?_
 rintro _ _ ⟨rfl,rfl⟩
 refine ⟨_,PH.sub.refl _,_,rfl,by decide,rfl,?_,rfl⟩
 have : 0 ≤ idx i ∧ idx i ≤ 4611686018427387904 := by unfold Lit at h; unfold idx; split <;> omega
 rw [Int.tdiv_eq_ediv_of_nonneg this.1,w64 (by omega) (by omega)]
theorem c43 {σ : PH} {a : Option Addr} {n c : Nat} {l : List Int} {i : Int} (h : Lit i) (hl : Ints σ a n l) (hv : ∀ x ∈ l,Lit x) : C 43 #[.slice a n c,.int .i64 i] (fun v τ => v = .int .i64 (valS l i) ∧ τ = σ) σ := by
 refine go (E43_0 _ _ _ _ _ _ _) ?_
 unfold S43_0
 have hn := hl.1
 have hget : ∀ k : Nat,Lit (l.getD k 0) := by
   intro k
   rw [List.getD_eq_getElem?_getD]
   cases hk : l[k]? with
   | none => exact ⟨by decide,by decide⟩
   | some x => exact hv x (List.mem_of_getElem? hk)
 have neg : i < 0 → -i ≤ n → ∃ p5 : Addr,a = some p5 ∧ (0 : Int) ≤ (IntKind.wrap .i64 ((IntKind.wrap .i64 (0 - i)) - (1 : Int))) ∧ (IntKind.wrap .i64 ((IntKind.wrap .i64 (0 - i)) - (1 : Int))) < ((n : Nat) : Int) ∧
     ∃ v9,PH.cell? σ (p5.add (Int.toNat (IntKind.wrap .i64 ((IntKind.wrap .i64 (0 - i)) - (1 : Int))) * 1)) = some v9 ∧ ∃ (i10 : Int),v9 = (.int .i64 i10) ∧ (Value.int .i64 (IntKind.wrap .i64 (0 - i10)) = .int .i64 (valS l i) ∧ σ = σ) := by
   intro h0 h1
   have := h.1
   rw [w64 (n := 0 - i) (by omega) (by omega),w64 (n := 0 - i - 1) (by omega) (by omega)]
   obtain ⟨p,hp,hc⟩ := hl.at (i := 0 - i - 1) (by omega) (by omega)
   refine ⟨p,hp,by omega,by omega,_,hc,_,rfl,?_,rfl⟩
   have hg := hget (0 - i - 1).toNat
   have := hg.1; have := hg.2
   rw [w64 (by omega) (by omega)]
   unfold valS
   rw [if_neg (by omega),if_pos (by omega)]
   rw [show 0 - i - 1 = -i - 1 from by omega,Int.zero_sub]
 refine br_dec.2 ⟨fun h0 => br_dec.2 ⟨fun h1 => ?_,fun h1 => br_dec.2 ⟨fun h2 => by omega,fun h2 => ⟨?_,rfl⟩⟩⟩,fun h0 => br_dec.2 ⟨fun h1 => br_dec.2 ⟨fun h2 => ?_,fun h2 => ⟨?_,rfl⟩⟩,fun h1 => ⟨?_,rfl⟩⟩⟩
 · have := h.2
   rw [w64 (n := i - 1) (by omega) (by omega)]
   obtain ⟨p,hp,hc⟩ := hl.at (i := i - 1) (by omega) (by omega)
   refine ⟨p,hp,by omega,by omega,_,hc,_,rfl,?_,rfl⟩
   unfold valS
   rw [if_pos (by omega)]
 · unfold valS; rw [if_neg (by omega),if_neg (by omega)]
 · have := h.1
   rw [w64 (n := 0 - i) (by omega) (by omega)] at h2
   exact neg h1 (by omega)
 · have := h.1
   rw [w64 (n := 0 - i) (by omega) (by omega)] at h2
   unfold valS; rw [if_neg (by omega),if_neg (by omega)]
 · unfold valS; rw [if_neg (by omega),if_neg (by omega)]
def Len (n : Nat) : Prop := n ≤ 1152921504606846976
theorem c27 {σ : PH} {a : Option Addr} {n c : Nat} {l : List Int} {a' : Option Addr} {n' c' : Nat} {l' : List Int} (hn : Len n) (hl : Ints σ a n l) (hl' : Ints σ a' n' l') :
   C 27 #[.slice a n c,.slice a' n' c'] (fun v τ => v = .bool (l == l') ∧ τ = σ) σ := by
 refine go (E27_0 _ _ _ _ _ _ _ _ _) ?_
 unfold S27_0
 have e1 := hl.1
 have e2 := hl'.1
 refine br_iff.2 ⟨fun h => ⟨?_,rfl⟩,fun h => ?_⟩
 · congr 1
   symm
   rw [beq_eq_false_iff_ne]
   rintro rfl
   simp at h
   omega
 · have hnn : n = n' := by simp at h; omega
   subst hnn
   unfold S27_1
   refine iloopS_for (fun k (_ : Unit) => (a,n,c,a',n,c',(n : Int),(k : Int))) (fun k _ τ => τ = σ ∧ l.take k = l'.take k) n ?_ (g := ()) ⟨rfl,rfl⟩
   rintro k _ τ hk ⟨rfl,hI⟩ R hR
   unfold S27_2
   dsimp only
   refine br_dec.2 ⟨fun h => ?_,fun h => ?_⟩
   · obtain ⟨p,hp,hc⟩ := hl.at (i := (k : Int)) (by omega) (by omega)
     obtain ⟨p',hp',hc'⟩ := hl'.at (i := (k : Int)) (by omega) (by omega)
     refine ⟨p,hp,by omega,by omega,_,hc,_,rfl,p',hp',by omega,by omega,_,hc',_,rfl,?_⟩
     have h1 : k < l.length := by omega
     have h2 : k < l'.length := by omega
     have hg : l.getD (k : Int).toNat 0 = l[k] := by simp [h1]
     have hg' : l'.getD (k : Int).toNat 0 = l'[k] := by simp [h2]
     rw [hg,hg']
     refine br_iff.2 ⟨fun h3 => ⟨?_,rfl⟩,fun h3 => ?_⟩
     · congr 1
       symm
       rw [beq_eq_false_iff_ne]
       rintro rfl
       simp at h3
     · have h4 := hR () τ (by omega) ⟨rfl,by rw [List.take_succ_eq_append_getElem h1,List.take_succ_eq_append_getElem h2,hI]; simp at h3; rw [h3]⟩
       unfold Len at hn
       rw [wnat (by omega)]
       exact h4
   · have : k = n := by omega
     subst this
     refine ⟨?_,rfl⟩
     rw [List.take_of_length_le (by omega),List.take_of_length_le (by omega)] at hI
     rw [hI]; simp
end Go.Proofs.Ythfnjogadngfiaa
namespace Go.Sl
structure Step (M : Nat → Prop) (σ τ : PH) : Prop where
 same : ∀ b o,σ b = some o → ¬ M b → τ b = some o
 dom : ∀ b,σ b ≠ none → τ b ≠ none
theorem Step.refl {M : Nat → Prop} (σ : PH) : Step M σ σ := ⟨fun _ _ h _ => h,fun _ h => h⟩
theorem Step.trans {M : Nat → Prop} {σ τ υ : PH} (h : Step M σ τ) (h' : Step M τ υ) : Step M σ υ :=
 ⟨fun b o hb hm => h'.same b o (h.same b o hb hm) hm,fun b hb => h'.dom b (h.dom b hb)⟩
theorem Step.weaken {M N : Nat → Prop} {σ τ : PH} (h : Step M σ τ) (hm : ∀ b,M b → N b) : Step N σ τ := ⟨fun b o hb hn => h.same b o hb fun h => hn (hm b h),h.dom⟩
theorem PH.sub.step {M : Nat → Prop} {σ τ : PH} (h : σ.sub τ) : Step M σ τ :=
 ⟨fun b o hb _ => h b o hb,fun b hb => by
   cases hc : σ b with
   | none => exact absurd hc hb
   | some o => rw [h b o hc]; simp⟩
structure Own (σ : PH) (e : TypeId) (size : Nat) (a : Option Addr) (n c : Nat) (vs : List Value) : Prop where
 len : vs.length = n * size
 le : n ≤ c
 row : (a = none ∧ c = 0) ∨ ∃ b arr,a = some ⟨b,0,none⟩ ∧ σ b = some (.cells arr e (0,0)) ∧ arr.size = c * size ∧ arr.toList.take (n * size) = vs
theorem add_off (b o i : Nat) : (Addr.mk b o none).add i = ⟨b,o + i,none⟩ := by
 unfold Addr.add
 split
 · rename_i h; subst h; rfl
 · rfl
theorem rowAt_of {σ : PH} {b : Nat} {arr : Array Value} {e : TypeId} {f : Nat × Nat} (h : σ b = some (.cells arr e f)) : ∀ (vs : List Value) (o i : Nat),(∀ j v,vs[j]? = some v → arr[o + i + j]? = some v) → rowAt σ ⟨b,o,none⟩ i vs
 | [],_,_,_ => trivial
 | v :: vs,o,i,hv => by
   refine ⟨?_,rowAt_of h vs o (i + 1) fun j u hu => ?_⟩
   · rw [add_off]
     unfold PH.cell?
     rw [h]
     exact hv 0 v rfl
   · have := hv (j + 1) u hu
     rw [← this]; congr 1; omega
theorem Own.reads {σ : PH} {e : TypeId} {size : Nat} {a : Option Addr} {n c : Nat} {vs : List Value} (h : Own σ e size a n c vs) : readsRow σ a vs := by
 rcases h.row with ⟨rfl,hc⟩ | ⟨b,arr,rfl,hb,hs,ht⟩
 · have h1 := h.len
   have h2 := h.le
   have : n = 0 := by omega
   subst this
   rw [Nat.zero_mul] at h1
   exact List.length_eq_zero_iff.1 h1
 · refine rowAt_of hb vs 0 0 fun j v hv => ?_
   rw [← ht] at hv
   rw [List.getElem?_take] at hv
   split at hv
   · simpa using hv
   · cases hv
theorem putRow_cells {b : Nat} {e : TypeId} {f : Nat × Nat} : ∀ (vs : List Value) (σ : PH) (arr : Array Value) (o i : Nat),σ b = some (.cells arr e f) → o + i + vs.length ≤ arr.size →
   ∃ arr',putRow σ ⟨b,o,none⟩ i vs b = some (.cells arr' e f) ∧ arr'.size = arr.size ∧ arr'.toList.take (o + i + vs.length) = arr.toList.take (o + i) ++ vs ∧ (∀ x,x ≠ b → putRow σ ⟨b,o,none⟩ i vs x = σ x)
 | [],σ,arr,o,i,h,hl => ⟨arr,h,rfl,by simp,fun _ _ => rfl⟩
 | v :: vs,σ,arr,o,i,h,hl => by
   have h1 : (σ.setCell ((Addr.mk b o none).add i) v) b = some (.cells (arr.setIfInBounds (o + i) v) e f) := by
     rw [add_off]
     unfold PH.setCell
     simp only [if_true,h,Option.map_some]
     rfl
   simp only [List.length_cons] at hl
   obtain ⟨arr',q1,q2,q3,q4⟩ := putRow_cells vs _ _ o (i + 1) h1 (by simp; omega)
   refine ⟨arr',q1,by rw [q2]; simp,?_,?_⟩
   · rw [List.length_cons,show o + i + (vs.length + 1) = o + (i + 1) + vs.length from by omega,q3]
     rw [Array.toList_setIfInBounds,show o + (i + 1) = (o + i) + 1 from rfl]
     have hlt : o + i < arr.toList.length := by simp; omega
     rw [List.take_succ_eq_append_getElem (by simp; omega)]
     simp [List.take_set_of_le]
   · intro x hx
     show putRow _ _ (i + 1) vs x = _
     rw [q4 x hx,add_off]
     unfold PH.setCell
     rw [if_neg hx]
theorem notFrozen_of {σ : PH} {b : Nat} {arr : Array Value} {e : TypeId} (h : σ b = some (.cells arr e (0,0))) : ∀ (m o i : Nat),o + i + m ≤ arr.size → notFrozen σ ⟨b,o,none⟩ i m
 | 0,_,_,_ => trivial
 | m + 1,o,i,hl => by
   refine ⟨?_,?_,notFrozen_of h m o (i + 1) (by omega)⟩
   · rw [add_off]; unfold PH.froz; rw [h]; simp
   · rw [add_off]; unfold PH.cell?; rw [h]
     exact ⟨arr[o + i]'(by omega),by simp⟩
theorem growBy_le {n : Nat} : ∀ (r c : Nat),c ≤ n + n / 4 + 256 → Builtin.growBy n r c ≤ n + n / 4 + 256
 | 0,_,h => h
 | r + 1,c,h => by
   unfold Builtin.growBy
   split
   · exact h
   · exact growBy_le r _ (by omega)
theorem nextcap_le {n c : Nat} (h : c < n) : Builtin.nextslicecap n c ≤ n + n / 4 + 256 := by
 unfold Builtin.nextslicecap
 split
 · omega
 · split
   · omega
   · exact growBy_le 4 c (by omega)
theorem Own.append {P : Program} {e : TypeId} {size bytes : Nat} {z : Value} (hs : sizeT P e = some size) (hb : bytesT P e = some bytes) (hz : zeroT P e = some z) (hzs : z.cells.size = size) (h0 : bytes ≠ 0)
   {σ : PH} {a : Option Addr} {n c m mc : Nat} {vs news : List Value} {xb : Option Addr} (o : Own σ e size a n c vs) (hr : readsRow σ xb news) (hl : news.length = m * size) (hp : ∀ v ∈ news,plainCell v)
   (hbig : ((n + m) + (n + m) / 4 + 256) * bytes ≤ 2 ^ 48) {Q : Value → PH → Prop}
   (hQ : ∀ a' c' τ,Own τ e size a' (n + m) c' (vs ++ news) → Step (fun b => ∃ p,a = some p ∧ b = p.block) σ τ → (a' = a ∨ ∃ b,σ b = none ∧ a' = some ⟨b,0,none⟩) → Q (.slice a' (n + m) c') τ) :
   iappend P e (.slice a n c) (.slice xb m mc) Q σ := by
 unfold iappend
 simp only [hs,hb,hz,hzs,beq_self_eq_true]
 refine ⟨vs,news,o.len,hl,o.reads,hr,fun hle => ?_,fun hlt => ⟨h0,?_,fun c' b hc' hbn => ?_⟩⟩
 · rcases o.row with ⟨rfl,hc⟩ | ⟨b,arr,rfl,hbk,hsz,ht⟩
   · have h1 := o.le
     have hn : n = 0 := by omega
     have hm : m = 0 := by omega
     subst hn; subst hm
     have hv : vs = [] := List.length_eq_zero_iff.1 (by rw [o.len]; simp)
     have hw : news = [] := List.length_eq_zero_iff.1 (by rw [hl]; simp)
     subst hv; subst hw
     exact hQ none c σ ⟨by simp,by omega,.inl ⟨rfl,hc⟩⟩ (.refl _) (.inl rfl)
   · have hroom : n * size + m * size ≤ arr.size := by rw [hsz,← Nat.add_mul]; exact Nat.mul_le_mul_right _ hle
     refine ⟨hp,?_,?_⟩
     · rw [add_off]
       exact notFrozen_of hbk _ _ _ (by simp; omega)
     · rw [add_off]
       obtain ⟨arr',q1,q2,q3,q4⟩ := putRow_cells (b := b) news σ arr (0 + n * size) 0 hbk (by rw [hl]; omega)
       refine hQ _ c _ ⟨by rw [List.length_append,o.len,hl,Nat.add_mul],hle,.inr ⟨b,arr',rfl,q1,by rw [q2,hsz],?_⟩⟩ ⟨?_,?_⟩ (.inl rfl)
       · rw [hl] at q3
         simp only [Nat.zero_add,Nat.add_zero] at q3
         rw [Nat.add_mul,q3,ht]
       · intro x ob hx hne
         rw [q4 x fun e => hne ⟨_,rfl,e⟩]; exact hx
       · intro x hx
         by_cases e : x = b
         · subst e; rw [q1]; simp
         · rw [q4 x e]; exact hx
 · exact Nat.le_trans (Nat.mul_le_mul_right _ (nextcap_le hlt)) hbig
 · refine hQ _ c' _ ⟨by rw [List.length_append,o.len,hl,Nat.add_mul],hc',.inr ⟨b,_,rfl,by unfold PH.set; rw [if_pos rfl],?_,?_⟩⟩ ?_ (.inr ⟨b,hbn,rfl⟩)
   · simp only [Array.size_append,List.size_toArray,o.len,hl,zeros,Builtin.zeroCells,Array.size_map,Array.size_range,hzs]
     rw [← Nat.add_mul,← Nat.add_mul]
     congr 1
     omega
   · simp only [Array.toList_append]
     rw [List.take_append_of_le_length (by simp [o.len,hl,Nat.add_mul]),List.take_of_length_le (by simp [o.len,hl,Nat.add_mul])]
   · exact (PH.sub_set hbn).step
inductive Tag where
 | other | fld (k : Nat) | watch (k : Nat) | rsn | lits (r : Nat) | cyc (r : Nat)
deriving DecidableEq
structure Sli where
 a : Option Addr
 n : Nat
 c : Nat
abbrev Sli.v (s : Sli) : Value := .slice s.a s.n s.c
theorem Own.keep {M : Nat → Prop} {σ τ : PH} (h : Step M σ τ) {e : TypeId} {size : Nat} {a : Option Addr} {n c : Nat} {vs : List Value} (hm : ∀ p,a = some p → ¬ M p.block) (o : Own σ e size a n c vs) : Own τ e size a n c vs := by
 refine ⟨o.len,o.le,?_⟩
 rcases o.row with h' | ⟨b,arr,rfl,hb,h1,h2⟩
 · exact .inl h'
 · exact .inr ⟨b,arr,rfl,h.same b _ hb (hm _ rfl),h1,h2⟩
theorem Own.known {σ : PH} {e : TypeId} {size : Nat} {a : Option Addr} {n c : Nat} {vs : List Value} (o : Own σ e size a n c vs) {p : Addr} (hp : a = some p) : σ p.block ≠ none := by
 rcases o.row with ⟨rfl,_⟩ | ⟨b,arr,rfl,hb,_⟩
 · cases hp
 · cases hp; rw [hb]; simp
theorem Own.get {σ : PH} {e : TypeId} {size : Nat} {a : Option Addr} {n c : Nat} {vs : List Value} (o : Own σ e size a n c vs) {i : Nat} {v : Value} (hv : vs[i]? = some v) : ∃ p,a = some p ∧ σ.cell? (p.add i) = some v := by
 rcases o.row with ⟨rfl,hc⟩ | ⟨b,arr,rfl,hb,h1,h2⟩
 · have h1 := o.len
   have h2 := o.le
   have : n = 0 := by omega
   subst this
   rw [Nat.zero_mul] at h1
   rw [List.length_eq_zero_iff.1 h1] at hv
   simp at hv
 · refine ⟨_,rfl,?_⟩
   rw [add_off,Nat.zero_add]
   unfold PH.cell?
   rw [hb]
   rw [← h2,List.getElem?_take] at hv
   split at hv
   · simpa using hv
   · cases hv
theorem setCell_at {σ : PH} {b o : Nat} {arr : Array Value} {e : TypeId} {f : Nat × Nat} {v : Value} (h : σ b = some (.cells arr e f)) : (σ.setCell ⟨b,o,none⟩ v) b = some (.cells (arr.setIfInBounds o v) e f) := by
 unfold PH.setCell
 simp only [if_true,h,Option.map_some]
 rfl
theorem setCell_step {σ : PH} {a : Addr} {v : Value} : Step (fun b => b = a.block) σ (σ.setCell a v) := by
 refine ⟨fun b o hb hm => ?_,fun b hb => ?_⟩
 · unfold PH.setCell; rw [if_neg hm]; exact hb
 · intro h; exact hb (setCell_none.1 h)
theorem Own.set {σ : PH} {e : TypeId} {size : Nat} {a : Option Addr} {n c : Nat} {vs : List Value} (o : Own σ e size a n c vs) {i : Nat} (hi : i < vs.length) :
   ∃ p,a = some p ∧ (∃ u,σ.cell? (p.add i) = some u) ∧ σ.froz (p.add i) = some false ∧ (p.add i).block = p.block ∧ ∀ v,Own (σ.setCell (p.add i) v) e size a n c (vs.set i v) := by
 obtain ⟨p,hp,hc⟩ := o.get (i := i) (v := vs[i]) (List.getElem?_eq_getElem hi)
 refine ⟨p,hp,⟨_,hc⟩,?_,add_block p i,fun v => ?_⟩
 · rcases o.row with ⟨rfl,_⟩ | ⟨b,arr,rfl,hb,h1,h2⟩
   · cases hp
   · cases hp
     rw [add_off]; unfold PH.froz; rw [hb]; simp
 · refine ⟨by rw [List.length_set]; exact o.len,o.le,?_⟩
   rcases o.row with ⟨rfl,_⟩ | ⟨b,arr,rfl,hb,h1,h2⟩
   · cases hp
   · cases hp
     refine .inr ⟨b,arr.setIfInBounds i v,rfl,?_,by rw [Array.size_setIfInBounds]; exact h1,?_⟩
     · rw [add_off,Nat.zero_add]; exact setCell_at hb
     · rw [← h2,Array.toList_setIfInBounds,List.take_set]
def OwnT (σ : PH) (T : Nat → Tag) (t : Tag) (e : TypeId) (size : Nat) (s : Sli) (vs : List Value) : Prop := Own σ e size s.a s.n s.c vs ∧ ∀ p,s.a = some p → T p.block = t
theorem OwnT.keep {M : Nat → Prop} {σ τ : PH} (h : Step M σ τ) {T : Nat → Tag} {t : Tag} {e : TypeId} {size : Nat} {s : Sli} {vs : List Value} (hm : ∀ b,T b = t → ¬ M b) (o : OwnT σ T t e size s vs) : OwnT τ T t e size s vs :=
 ⟨o.1.keep h fun p hp => hm _ (o.2 p hp),o.2⟩
theorem OwnT.tag {σ : PH} {T T' : Nat → Tag} (hT : ∀ b,σ b ≠ none → T' b = T b) {t : Tag} {e : TypeId} {size : Nat} {s : Sli} {vs : List Value} (o : OwnT σ T t e size s vs) : OwnT σ T' t e size s vs :=
 ⟨o.1,fun p hp => (hT _ (o.1.known hp)).trans (o.2 p hp)⟩
def Blk (σ : PH) (b : Nat) (e : TypeId) (vs : List Value) : Prop := σ b = some (.cells vs.toArray e (0,0))
theorem Blk.get {σ : PH} {b : Nat} {e : TypeId} {vs : List Value} (h : Blk σ b e vs) {i : Nat} {v : Value} (hv : vs[i]? = some v) : σ.cell? ((Addr.mk b 0 none).add i) = some v := by
 rw [add_off,Nat.zero_add]
 unfold PH.cell?
 rw [h]
 simpa using hv
theorem Blk.froz {σ : PH} {b : Nat} {e : TypeId} {vs : List Value} (h : Blk σ b e vs) (i : Nat) : σ.froz ((Addr.mk b 0 none).add i) = some false := by
 rw [add_off]; unfold PH.froz; rw [h]; simp
theorem Blk.set {σ : PH} {b : Nat} {e : TypeId} {vs : List Value} (h : Blk σ b e vs) (i : Nat) (v : Value) : Blk (σ.setCell ((Addr.mk b 0 none).add i) v) b e (vs.set i v) := by
 rw [add_off,Nat.zero_add]
 unfold Blk
 rw [setCell_at h]
 simp
theorem Blk.keep {M : Nat → Prop} {σ τ : PH} (h : Step M σ τ) {b : Nat} {e : TypeId} {vs : List Value} (hm : ¬ M b) (o : Blk σ b e vs) : Blk τ b e vs := h.same b _ o hm
theorem Blk.known {σ : PH} {b : Nat} {e : TypeId} {vs : List Value} (o : Blk σ b e vs) : σ b ≠ none := by rw [o]; simp
end Go.Sl
