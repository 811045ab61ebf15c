/- A part of the proof: see the last text, YthfnjogadngfiaaXa15. -/
import Derived.Test.YthfnjogadngfiaaXa6
set_option maxRecDepth 100000
set_option linter.unusedVariables false
set_option linter.unusedSimpArgs false
namespace Go.Proofs.Ythfnjogadngfiaa
open Go.Sl
noncomputable def code96 : Code := (Try.f96.body).getD .skip
noncomputable def i96 (p : Nat) (call : CallR) (K : IX → Env → PH → Prop) (e : Env) : PH → Prop := icode prog call (nav (pp p) code96) (anav (pp p) an96) K e
def k96 (p : Nat) : Env → Env := Ann.cut (anav (pp p) an96)
noncomputable def K96_0 (_ : CallR) (Q : QT) : KT := finK prog Try.f96 Q
noncomputable def K96_1 (call : CallR) (Q : QT) : KT := seqK (i96 31 call (K96_0 call Q)) (k96 15) (K96_0 call Q)
noncomputable def K96_2 (call : CallR) (Q : QT) : KT := blockK 0 (K96_1 call Q)
abbrev T96_2 := Option Addr × Nat × Nat × Addr × Option Addr × Nat × Nat × Int × Int
def S96_3 (call : CallR) (Q : QT) (R2 : T96_2 → PH → Prop) (l42 : Option Addr) (len43 cap44 : Nat) (r45 : Addr) (l46 : Option Addr) (len47 cap48 : Nat) (x49 x50 : Int) (σ : PH) : Prop :=
 br (decide (x50 < x49)) (∃ p60,l46 = some p60 ∧ 0 ≤ x50 ∧ x50 < (len47 : Int) ∧ ∃ v61,PH.cell? σ (p60.add (x50.toNat * 1)) = some v61 ∧ ∃ i62,v61 = .int .i64 i62 ∧ ∃ p63,some r45 = some p63 ∧ ∃ v64,PH.cell? σ p63 = some v64 ∧ ∃ a65 n66 c67,v64 = .slice a65 n66 c67 ∧ ∃ p68,l42 = some p68 ∧ 0 ≤ i62 ∧ i62 < (len43 : Int) ∧ ∃ v69,PH.cell? σ (p68.add (i62.toNat * 1)) = some v69 ∧ ∃ i70,v69 = .int .i64 i70 ∧ ∀ b71 : Nat,σ b71 = none → iappend prog 3 (.slice a65 n66 c67) (.slice (some ⟨b71,0,none⟩) 1 1) (fun v72 τ73 => ∃ a74 n75 c76,v72 = .slice a74 n75 c76 ∧ ∃ p77,letI h901 : PH := PH.setCell τ73 p77 (.slice a74 n75 c76); some r45 = some p77 ∧ (∃ u78,PH.cell? τ73 p77 = some u78) ∧ PH.froz τ73 p77 = some false ∧ ∃ p79,some r45 = some p79 ∧ ∃ v80,PH.cell? h901 (p79.add 2) = some v80 ∧ ∃ a81 n82 c83,v80 = .slice a81 n82 c83 ∧ ∃ p84,l42 = some p84 ∧ 0 ≤ i62 ∧ i62 < (len43 : Int) ∧ ∃ v85,PH.cell? h901 (p84.add (i62.toNat * 1)) = some v85 ∧ ∃ i86,v85 = .int .i64 i86 ∧ ∀ b87 : Nat,h901 b87 = none → iappend prog 3 (.slice a81 n82 c83) (.slice (some ⟨b87,0,none⟩) 1 1) (fun v88 τ89 => ∃ a90 n91 c92,v88 = .slice a90 n91 c92 ∧ ∃ p93,some r45 = some p93 ∧ (∃ u94,PH.cell? τ89 (p93.add 2) = some u94) ∧ PH.froz τ89 (p93.add 2) = some false ∧ R2 (l42,len43,cap44,r45,l46,len47,cap48,x49,(IntKind.wrap .i64 (x50 + 1))) (PH.setCell τ89 (p93.add 2) (.slice a90 n91 c92))) (PH.set h901 b87 (.cells #[.int .i64 i86] 3))) (PH.set σ b71 (.cells #[(.int .i64 (IntKind.wrap .i64 (0 - i70)))] 3))) (∃ p95,some r45 = some p95 ∧ ∃ v96,PH.cell? σ p95 = some v96 ∧ ∃ a97 n98 c99,v96 = .slice a97 n98 c99 ∧ call 111 #[.slice a97 n98 c99] (fun v100 τ101 => ∃ υ102 : PH,PH.sub υ102 τ101 ∧ ∃ a103 n104 c105,v100 = .slice a103 n104 c105 ∧ ∃ p106,some r45 = some p106 ∧ (∃ u107,PH.cell? υ102 p106 = some u107) ∧ PH.froz υ102 p106 = some false ∧ Q (.pointer (some r45)) (PH.setCell υ102 p106 (.slice a103 n104 c105))) σ)
def S96_2 (call : CallR) (Q : QT) (l42 : Option Addr) (len43 cap44 : Nat) (r45 : Addr) (l46 : Option Addr) (len47 cap48 : Nat) (x49 x50 : Int) (σ : PH) : Prop := iloopS (fun (R2 : T96_2 → PH → Prop) (x : T96_2) σ => S96_3 call Q R2 x.1 x.2.1 x.2.2.1 x.2.2.2.1 x.2.2.2.2.1 x.2.2.2.2.2.1 x.2.2.2.2.2.2.1 x.2.2.2.2.2.2.2.1 x.2.2.2.2.2.2.2.2 σ) (l42,len43,cap44,r45,l46,len47,cap48,x49,x50) σ
def S96_1 (call : CallR) (Q : QT) (l35 : Option Addr) (len36 cap37 : Nat) (l38 : Option Addr) (len39 cap40 : Nat) (r41 : Addr) (σ : PH) : Prop :=
 S96_2 call Q l35 len36 cap37 r41 l38 len39 cap40 (len39 : Int) (0 : Int) σ
def S96_0 (call : CallR) (Q : QT) (a1 : Option Addr) (n2 c3 : Nat) (a4 : Option Addr) (n5 c6 : Nat) (i7 : Int) (σ : PH) : Prop :=
 ∀ b8 : Nat,letI h901 : PH := PH.set σ b8 (.cells #[.slice none 0 0,(.int .i64 ((-1) : Int)),.slice none 0 0] 102); σ b8 = none → br (i7 != (0 : Int)) (∃ p9 : Addr,(some ⟨b8,0,none⟩) = some p9 ∧ ∃ v10,PH.cell? h901 p9 = some v10 ∧ ∃ a11 n12 c13,v10 = .slice a11 n12 c13 ∧ ∀ b14 : Nat,h901 b14 = none → iappend prog 3 (.slice a11 n12 c13) (.slice (some ⟨b14,0,none⟩) 1 1) (fun v15 τ16 => ∃ a17 n18 c19,v15 = .slice a17 n18 c19 ∧ ∃ p20 : Addr,letI h902 : PH := PH.setCell τ16 p20 (.slice a17 n18 c19); (some ⟨b8,0,none⟩) = some p20 ∧ (∃ u21,PH.cell? τ16 p20 = some u21) ∧ PH.froz τ16 p20 = some false ∧ ∃ p22 : Addr,(some ⟨b8,0,none⟩) = some p22 ∧ ∃ v23,PH.cell? h902 (p22.add 2) = some v23 ∧ ∃ a24 n25 c26,v23 = .slice a24 n25 c26 ∧ ∀ b27 : Nat,h902 b27 = none → iappend prog 3 (.slice a24 n25 c26) (.slice (some ⟨b27,0,none⟩) 1 1) (fun v28 τ29 => ∃ a30 n31 c32,v28 = .slice a30 n31 c32 ∧ ∃ p33 : Addr,(some ⟨b8,0,none⟩) = some p33 ∧ (∃ u34,PH.cell? τ29 (p33.add 2) = some u34) ∧ PH.froz τ29 (p33.add 2) = some false ∧ S96_1 call Q a1 n2 c3 a4 n5 c6 (⟨b8,0,none⟩ : Addr) (PH.setCell τ29 (p33.add 2) (.slice a30 n31 c32))) (PH.set h902 b27 (.cells #[(.int .i64 (IntKind.wrap .i64 (0 - i7)))] 3))) (PH.set h901 b14 (.cells #[.int .i64 i7] 3))) (S96_1 call Q a1 n2 c3 a4 n5 c6 (⟨b8,0,none⟩ : Addr) h901)
noncomputable def M96_2 (x : T96_2) : Env := ([some (.slice x.1 x.2.1 x.2.2.1),oo,oo,oo,oo,oo,oo,some (.pointer (some x.2.2.2.1)),oo,oo,oo,oo,oo,oo,oo,oo,oo,oo,oo,oo,oo,oo,oo,oo,oo,oo,oo,oo,oo,oo,oo,oo,oo,oo,oo,some (.slice x.2.2.2.2.1 x.2.2.2.2.2.1 x.2.2.2.2.2.2.1),some (.int .i64 x.2.2.2.2.2.2.2.1),some (.int .i64 x.2.2.2.2.2.2.2.2)] ++ rp 40)
noncomputable def L96_2 (call : CallR) (Q : QT) (l42 : Option Addr) (len43 cap44 : Nat) (r45 : Addr) (l46 : Option Addr) (len47 cap48 : Nat) (x49 x50 : Int) : PH → Prop := iloop (i96 151 call) (k96 87) (K96_2 call Q) (M96_2 (l42,len43,cap44,r45,l46,len47,cap48,x49,x50))
noncomputable def L96_1 (call : CallR) (Q : QT) (l35 : Option Addr) (len36 cap37 : Nat) (l38 : Option Addr) (len39 cap40 : Nat) (r41 : Addr) : PH → Prop := i96 15 call (K96_0 call Q) ([some (.slice l35 len36 cap37),some (.slice l38 len39 cap40),oo,oo,oo,oo,oo,some (.pointer (some r41))] ++ rp 70)
theorem E96_2 (call : CallR) (Q : QT) : L96_2 call Q = S96_2 call Q := by
 repeat funext _
 refine iloop_inv M96_2 (fun e => (sa (gv e 0),sl (gv e 0),sc (gv e 0),va (gv e 7),sa (gv e 35),sl (gv e 35),sc (gv e 35),vi (gv e 36),vi (gv e 37))) (fun _ => rfl) _ _ _ _ (fun D2 x σ => ?_) _ _
 kernel_rfl
theorem E96_1 (call : CallR) (Q : QT) : L96_1 call Q = S96_1 call Q := by
 repeat funext _
 rw [S96_1,← E96_2 call Q]
 kernel_rfl
theorem E96_0 (call : CallR) (Q : QT) (a1 : Option Addr) (n2 c3 : Nat) (a4 : Option Addr) (n5 c6 : Nat) (i7 : Int) (σ : PH) : ibody prog anns call 96 #[(.slice a1 n2 c3),(.slice a4 n5 c6),(.int .i64 i7)] Q σ = S96_0 call Q a1 n2 c3 a4 n5 c6 i7 σ := by
 rw [S96_0,← E96_1 call Q]
 kernel_rfl
noncomputable def code97 : Code := (Try.f97.body).getD .skip
noncomputable def i97 (p : Nat) (call : CallR) (K : IX → Env → PH → Prop) (e : Env) : PH → Prop := icode prog call (nav (pp p) code97) (anav (pp p) an97) K e
def k97 (p : Nat) : Env → Env := Ann.cut (anav (pp p) an97)
noncomputable def K97_0 (_ : CallR) (Q : QT) : KT := finK prog Try.f97 Q
noncomputable def K97_1 (call : CallR) (Q : QT) : KT := seqK (i97 15 call (K97_0 call Q)) (k97 7) (K97_0 call Q)
noncomputable def K97_2 (call : CallR) (Q : QT) : KT := blockK 0 (K97_1 call Q)
noncomputable def K97_3 (call : CallR) (Q : QT) (D1 : ET) : KT := loopK (k97 43) D1 (K97_2 call Q)
noncomputable def K97_4 (call : CallR) (Q : QT) (D1 : ET) : KT := seqK (i97 971 call (K97_3 call Q D1)) (k97 459) (K97_3 call Q D1)
noncomputable def K97_5 (call : CallR) (Q : QT) (D1 : ET) : KT := blockK 1 (K97_4 call Q D1)
noncomputable def K97_6 (call : CallR) (Q : QT) (D1 : ET) : KT := blockK 2 (K97_5 call Q D1)
noncomputable def K97_7 (call : CallR) (Q : QT) : KT := seqK (i97 63 call (K97_0 call Q)) (k97 31) (K97_0 call Q)
noncomputable def K97_8 (call : CallR) (Q : QT) : KT := blockK 6 (K97_7 call Q)
noncomputable def K97_9 (call : CallR) (Q : QT) (D7 : ET) : KT := loopK (k97 175) D7 (K97_8 call Q)
noncomputable def K97_10 (call : CallR) (Q : QT) (D7 : ET) : KT := seqK (i97 3887 call (K97_9 call Q D7)) (k97 1839) (K97_9 call Q D7)
noncomputable def K97_11 (call : CallR) (Q : QT) (D7 : ET) : KT := blockK 7 (K97_10 call Q D7)
noncomputable def K97_12 (call : CallR) (Q : QT) (D7 : ET) : KT := blockK 8 (K97_11 call Q D7)
noncomputable def K97_13 (call : CallR) (Q : QT) (D7 D9 : ET) : KT := loopK (k97 45871) D9 (K97_12 call Q D7)
noncomputable def K97_14 (call : CallR) (Q : QT) (D7 D9 : ET) : KT := seqK (i97 996143 call (K97_13 call Q D7 D9)) (k97 471855) (K97_13 call Q D7 D9)
noncomputable def K97_15 (call : CallR) (Q : QT) (D7 D9 : ET) : KT := blockK 9 (K97_14 call Q D7 D9)
noncomputable def K97_16 (call : CallR) (Q : QT) (D7 D9 : ET) : KT := blockK 10 (K97_15 call Q D7 D9)
noncomputable def K97_17 (call : CallR) (Q : QT) : KT := seqK (i97 31 call (K97_0 call Q)) (k97 15) (K97_0 call Q)
noncomputable def K97_18 (call : CallR) (Q : QT) : KT := blockK 4 (K97_17 call Q)
abbrev T97_3 := Int × Option Addr × Nat × Nat × Addr × Int × Int × Int × Int × Int
abbrev T97_11 := Int × Addr × Int × Int × Int × Int × Int × Int × Int × Int
abbrev T97_9 := Int × Addr × Int × Int × Int × Int × Int
abbrev T97_7 := Int × Addr × Int × Int
abbrev T97_5 := Int × Addr × Option Addr × Nat × Nat × Int × Int
abbrev T97_1 := Int × Option Addr × Nat × Nat × Addr × Int × Int
def S97_4 (call : CallR) (Q : QT) (R1 : T97_1 → PH → Prop) (R3 : T97_3 → PH → Prop) (x48 : Int) (l49 : Option Addr) (len50 cap51 : Nat) (r52 : Addr) (x53 x54 x55 x56 x57 : Int) (σ : PH) : Prop :=
 br (decide (x57 < x56)) (br (x53 != x57) (∃ p68,some r52 = some p68 ∧ ∃ v69,PH.cell? σ (p68.add 1) = some v69 ∧ ∃ a70 n71 c72,v69 = .slice a70 n71 c72 ∧ ∃ p73,a70 = some p73 ∧ 0 ≤ x53 ∧ x53 < (n71 : Int) ∧ ∃ v74,PH.cell? σ (p73.add (x53.toNat * 1)) = some v74 ∧ ∃ a75 n76 c77,v74 = .slice a75 n76 c77 ∧ ∃ p78,a75 = some p78 ∧ 0 ≤ x57 ∧ x57 < (n76 : Int) ∧ (∃ u79,PH.cell? σ (p78.add (x57.toNat * 1)) = some u79) ∧ PH.froz σ (p78.add (x57.toNat * 1)) = some false ∧ R3 (x48,l49,len50,cap51,r52,x53,x54,x55,x56,(IntKind.wrap .i64 (x57 + 1))) (PH.setCell σ (p78.add (x57.toNat * 1)) (.int .i64 (1152921504606846976 : Int)))) (R3 (x48,l49,len50,cap51,r52,x53,x54,x55,x56,(IntKind.wrap .i64 (x57 + 1))) σ)) (R1 (x48,l49,len50,cap51,r52,x54,(IntKind.wrap .i64 (x55 + 1))) σ)
def S97_3 (call : CallR) (Q : QT) (R1 : T97_1 → PH → Prop) (x48 : Int) (l49 : Option Addr) (len50 cap51 : Nat) (r52 : Addr) (x53 x54 x55 x56 x57 : Int) (σ : PH) : Prop := iloopS (fun (R3 : T97_3 → PH → Prop) (x : T97_3) σ => S97_4 call Q R1 R3 x.1 x.2.1 x.2.2.1 x.2.2.2.1 x.2.2.2.2.1 x.2.2.2.2.2.1 x.2.2.2.2.2.2.1 x.2.2.2.2.2.2.2.1 x.2.2.2.2.2.2.2.2.1 x.2.2.2.2.2.2.2.2.2 σ) (x48,l49,len50,cap51,r52,x53,x54,x55,x56,x57) σ
def S97_12 (call : CallR) (Q : QT) (R7 : T97_7 → PH → Prop) (R9 : T97_9 → PH → Prop) (R11 : T97_11 → PH → Prop) (x180 : Int) (r181 : Addr) (x182 x183 x184 x185 x186 x187 x188 x189 : Int) (σ : PH) : Prop :=
 br (decide (x189 < x188)) (∃ p200,some r181 = some p200 ∧ ∃ v201,PH.cell? σ (p200.add 1) = some v201 ∧ ∃ a202 n203 c204,v201 = .slice a202 n203 c204 ∧ ∃ p205,a202 = some p205 ∧ 0 ≤ x183 ∧ x183 < (n203 : Int) ∧ ∃ v206,PH.cell? σ (p205.add (x183.toNat * 1)) = some v206 ∧ ∃ a207 n208 c209,v206 = .slice a207 n208 c209 ∧ ∃ p210,a207 = some p210 ∧ 0 ≤ x182 ∧ x182 < (n208 : Int) ∧ ∃ v211,PH.cell? σ (p210.add (x182.toNat * 1)) = some v211 ∧ ∃ i212,v211 = .int .i64 i212 ∧ br (i212 == (1152921504606846976 : Int)) (R11 (x180,r181,x182,x183,x184,x185,x186,x187,x188,(IntKind.wrap .i64 (x189 + 1))) σ) (∃ p213,some r181 = some p213 ∧ ∃ v214,PH.cell? σ (p213.add 1) = some v214 ∧ ∃ a215 n216 c217,v214 = .slice a215 n216 c217 ∧ ∃ p218,a215 = some p218 ∧ 0 ≤ x182 ∧ x182 < (n216 : Int) ∧ ∃ v219,PH.cell? σ (p218.add (x182.toNat * 1)) = some v219 ∧ ∃ a220 n221 c222,v219 = .slice a220 n221 c222 ∧ ∃ p223,a220 = some p223 ∧ 0 ≤ x189 ∧ x189 < (n221 : Int) ∧ ∃ v224,PH.cell? σ (p223.add (x189.toNat * 1)) = some v224 ∧ ∃ i225,v224 = .int .i64 i225 ∧ br (i225 == (1152921504606846976 : Int)) (R11 (x180,r181,x182,x183,x184,x185,x186,x187,x188,(IntKind.wrap .i64 (x189 + 1))) σ) (∃ p226,some r181 = some p226 ∧ ∃ v227,PH.cell? σ (p226.add 1) = some v227 ∧ ∃ a228 n229 c230,v227 = .slice a228 n229 c230 ∧ ∃ p231,a228 = some p231 ∧ 0 ≤ x183 ∧ x183 < (n229 : Int) ∧ ∃ v232,PH.cell? σ (p231.add (x183.toNat * 1)) = some v232 ∧ ∃ a233 n234 c235,v232 = .slice a233 n234 c235 ∧ ∃ p236,a233 = some p236 ∧ 0 ≤ x182 ∧ x182 < (n234 : Int) ∧ ∃ v237,PH.cell? σ (p236.add (x182.toNat * 1)) = some v237 ∧ ∃ i238,v237 = .int .i64 i238 ∧ ∃ p239,some r181 = some p239 ∧ ∃ v240,PH.cell? σ (p239.add 1) = some v240 ∧ ∃ a241 n242 c243,v240 = .slice a241 n242 c243 ∧ ∃ p244,a241 = some p244 ∧ 0 ≤ x182 ∧ x182 < (n242 : Int) ∧ ∃ v245,PH.cell? σ (p244.add (x182.toNat * 1)) = some v245 ∧ ∃ a246 n247 c248,v245 = .slice a246 n247 c248 ∧ ∃ p249,a246 = some p249 ∧ 0 ≤ x189 ∧ x189 < (n247 : Int) ∧ ∃ v250,PH.cell? σ (p249.add (x189.toNat * 1)) = some v250 ∧ ∃ i251,v250 = .int .i64 i251 ∧ ∃ p252,some r181 = some p252 ∧ ∃ v253,PH.cell? σ (p252.add 1) = some v253 ∧ ∃ a254 n255 c256,v253 = .slice a254 n255 c256 ∧ ∃ p257,a254 = some p257 ∧ 0 ≤ x183 ∧ x183 < (n255 : Int) ∧ ∃ v258,PH.cell? σ (p257.add (x183.toNat * 1)) = some v258 ∧ ∃ a259 n260 c261,v258 = .slice a259 n260 c261 ∧ ∃ p262,a259 = some p262 ∧ 0 ≤ x189 ∧ x189 < (n260 : Int) ∧ ∃ v263,PH.cell? σ (p262.add (x189.toNat * 1)) = some v263 ∧ ∃ i264,v263 = .int .i64 i264 ∧ br (decide ((IntKind.wrap .i64 (i238 + i251)) < i264)) (∃ p265,some r181 = some p265 ∧ ∃ v266,PH.cell? σ (p265.add 1) = some v266 ∧ ∃ a267 n268 c269,v266 = .slice a267 n268 c269 ∧ ∃ p270,a267 = some p270 ∧ 0 ≤ x183 ∧ x183 < (n268 : Int) ∧ ∃ v271,PH.cell? σ (p270.add (x183.toNat * 1)) = some v271 ∧ ∃ a272 n273 c274,v271 = .slice a272 n273 c274 ∧ ∃ p275,some r181 = some p275 ∧ ∃ v276,PH.cell? σ (p275.add 2) = some v276 ∧ ∃ a277 n278 c279,v276 = .slice a277 n278 c279 ∧ ∃ p280,a277 = some p280 ∧ 0 ≤ x183 ∧ x183 < (n278 : Int) ∧ ∃ v281,PH.cell? σ (p280.add (x183.toNat * 1)) = some v281 ∧ ∃ a282 n283 c284,v281 = .slice a282 n283 c284 ∧ ∃ p285,some r181 = some p285 ∧ ∃ v286,PH.cell? σ (p285.add 2) = some v286 ∧ ∃ a287 n288 c289,v286 = .slice a287 n288 c289 ∧ ∃ p290,a287 = some p290 ∧ 0 ≤ x183 ∧ x183 < (n288 : Int) ∧ ∃ v291,PH.cell? σ (p290.add (x183.toNat * 1)) = some v291 ∧ ∃ a292 n293 c294,v291 = .slice a292 n293 c294 ∧ ∃ p295,a292 = some p295 ∧ 0 ≤ x182 ∧ x182 < (n293 : Int) ∧ ∃ v296,PH.cell? σ (p295.add (x182.toNat * 1)) = some v296 ∧ ∃ i297,v296 = .int .i64 i297 ∧ ∃ p298,letI h901 : PH := PH.setCell σ (p298.add (x189.toNat * 1)) (.int .i64 (IntKind.wrap .i64 (i238 + i251))); a272 = some p298 ∧ 0 ≤ x189 ∧ x189 < (n273 : Int) ∧ (∃ u299,PH.cell? σ (p298.add (x189.toNat * 1)) = some u299) ∧ PH.froz σ (p298.add (x189.toNat * 1)) = some false ∧ ∃ p300,a282 = some p300 ∧ 0 ≤ x189 ∧ x189 < (n283 : Int) ∧ (∃ u301,PH.cell? h901 (p300.add (x189.toNat * 1)) = some u301) ∧ PH.froz h901 (p300.add (x189.toNat * 1)) = some false ∧ R11 (x180,r181,x182,x183,x184,x185,x186,x187,x188,(IntKind.wrap .i64 (x189 + 1))) (PH.setCell h901 (p300.add (x189.toNat * 1)) (.int .i64 i297))) (R11 (x180,r181,x182,x183,x184,x185,x186,x187,x188,(IntKind.wrap .i64 (x189 + 1))) σ)))) (R9 (x180,r181,x182,x184,x185,x186,(IntKind.wrap .i64 (x187 + 1))) σ)
def S97_11 (call : CallR) (Q : QT) (R7 : T97_7 → PH → Prop) (R9 : T97_9 → PH → Prop) (x180 : Int) (r181 : Addr) (x182 x183 x184 x185 x186 x187 x188 x189 : Int) (σ : PH) : Prop := iloopS (fun (R11 : T97_11 → PH → Prop) (x : T97_11) σ => S97_12 call Q R7 R9 R11 x.1 x.2.1 x.2.2.1 x.2.2.2.1 x.2.2.2.2.1 x.2.2.2.2.2.1 x.2.2.2.2.2.2.1 x.2.2.2.2.2.2.2.1 x.2.2.2.2.2.2.2.2.1 x.2.2.2.2.2.2.2.2.2 σ) (x180,r181,x182,x183,x184,x185,x186,x187,x188,x189) σ
def S97_10 (call : CallR) (Q : QT) (R7 : T97_7 → PH → Prop) (R9 : T97_9 → PH → Prop) (x166 : Int) (r167 : Addr) (x168 x169 x170 x171 x172 : Int) (σ : PH) : Prop :=
 br (decide (x172 < x171)) (S97_11 call Q R7 R9 x166 r167 x168 x172 x169 x170 x171 x172 x166 (0 : Int) σ) (R7 (x166,r167,x169,(IntKind.wrap .i64 (x170 + 1))) σ)
def S97_9 (call : CallR) (Q : QT) (R7 : T97_7 → PH → Prop) (x166 : Int) (r167 : Addr) (x168 x169 x170 x171 x172 : Int) (σ : PH) : Prop := iloopS (fun (R9 : T97_9 → PH → Prop) (x : T97_9) σ => S97_10 call Q R7 R9 x.1 x.2.1 x.2.2.1 x.2.2.2.1 x.2.2.2.2.1 x.2.2.2.2.2.1 x.2.2.2.2.2.2 σ) (x166,r167,x168,x169,x170,x171,x172) σ
def S97_8 (call : CallR) (Q : QT) (R7 : T97_7 → PH → Prop) (x158 : Int) (r159 : Addr) (x160 x161 : Int) (σ : PH) : Prop :=
 br (decide (x161 < x160)) (S97_9 call Q R7 x158 r159 x161 x160 x161 x158 (0 : Int) σ) (Q (.pointer (some r159)) σ)
def S97_7 (call : CallR) (Q : QT) (x158 : Int) (r159 : Addr) (x160 x161 : Int) (σ : PH) : Prop := iloopS (fun (R7 : T97_7 → PH → Prop) (x : T97_7) σ => S97_8 call Q R7 x.1 x.2.1 x.2.2.1 x.2.2.2 σ) (x158,r159,x160,x161) σ
def S97_6 (call : CallR) (Q : QT) (R5 : T97_5 → PH → Prop) (x80 : Int) (r81 : Addr) (l82 : Option Addr) (len83 cap84 : Nat) (x85 x86 : Int) (σ : PH) : Prop :=
 br (decide (x86 < x85)) (∃ p94,l82 = some p94 ∧ 0 ≤ x86 ∧ x86 < (len83 : Int) ∧ ∃ v95,PH.cell? σ (p94.add (Int.toNat x86 * 3)) = some v95 ∧ ∃ v96,PH.cell? σ ((p94.add (Int.toNat x86 * 3)).add 1) = some v96 ∧ ∃ v97,PH.cell? σ ((p94.add (Int.toNat x86 * 3)).add 2) = some v97 ∧ ∃ (i98 : Int) (i99 : Int) (i100 : Int),Value.agg #[v95,v96,v97] = (.agg #[.int .i64 i98,.int .i64 i99,.int .i64 i100]) ∧ ∀ b101 : Nat,letI h901 : PH := PH.set σ b101 (.cells #[.int .i64 0,.int .i64 0,.int .i64 0] 50); letI p9b101 : Addr := ⟨b101,0,none⟩; letI h902 : PH := PH.setCell h901 p9b101 (.int .i64 i98); letI h903 : PH := PH.setCell h902 (p9b101.add 1) (.int .i64 i99); letI h904 : PH := PH.setCell h903 (p9b101.add 2) (.int .i64 i100); σ b101 = none → (∃ u102,PH.cell? h901 p9b101 = some u102) ∧ PH.froz h901 p9b101 = some false ∧ (∃ u103,PH.cell? h902 (p9b101.add 1) = some u103) ∧ PH.froz h902 (p9b101.add 1) = some false ∧ (∃ u104,PH.cell? h903 (p9b101.add 2) = some u104) ∧ PH.froz h903 (p9b101.add 2) = some false ∧ ∃ v105,PH.cell? h904 (p9b101.add 2) = some v105 ∧ ∃ i106,v105 = .int .i64 i106 ∧ ∃ p107,some r81 = some p107 ∧ ∃ v108,PH.cell? h904 (p107.add 1) = some v108 ∧ ∃ a109 n110 c111,v108 = .slice a109 n110 c111 ∧ ∃ v112,PH.cell? h904 p9b101 = some v112 ∧ ∃ i113,v112 = .int .i64 i113 ∧ ∃ p114,a109 = some p114 ∧ 0 ≤ i113 ∧ i113 < (n110 : Int) ∧ ∃ v115,PH.cell? h904 (p114.add (i113.toNat * 1)) = some v115 ∧ ∃ a116 n117 c118,v115 = .slice a116 n117 c118 ∧ ∃ v119,PH.cell? h904 (p9b101.add 1) = some v119 ∧ ∃ i120,v119 = .int .i64 i120 ∧ ∃ p121,a116 = some p121 ∧ 0 ≤ i120 ∧ i120 < (n117 : Int) ∧ ∃ v122,PH.cell? h904 (p121.add (i120.toNat * 1)) = some v122 ∧ ∃ i123,v122 = .int .i64 i123 ∧ br (decide (i106 < i123)) (∃ p124,some r81 = some p124 ∧ ∃ v125,PH.cell? h904 (p124.add 1) = some v125 ∧ ∃ a126 n127 c128,v125 = .slice a126 n127 c128 ∧ ∃ v129,PH.cell? h904 p9b101 = some v129 ∧ ∃ i130,v129 = .int .i64 i130 ∧ ∃ p131,a126 = some p131 ∧ 0 ≤ i130 ∧ i130 < (n127 : Int) ∧ ∃ v132,PH.cell? h904 (p131.add (i130.toNat * 1)) = some v132 ∧ ∃ a133 n134 c135,v132 = .slice a133 n134 c135 ∧ ∃ v136,PH.cell? h904 (p9b101.add 1) = some v136 ∧ ∃ i137,v136 = .int .i64 i137 ∧ ∃ p138,some r81 = some p138 ∧ ∃ v139,PH.cell? h904 (p138.add 2) = some v139 ∧ ∃ a140 n141 c142,v139 = .slice a140 n141 c142 ∧ ∃ v143,PH.cell? h904 p9b101 = some v143 ∧ ∃ i144,v143 = .int .i64 i144 ∧ ∃ p145,a140 = some p145 ∧ 0 ≤ i144 ∧ i144 < (n141 : Int) ∧ ∃ v146,PH.cell? h904 (p145.add (i144.toNat * 1)) = some v146 ∧ ∃ a147 n148 c149,v146 = .slice a147 n148 c149 ∧ ∃ v150,PH.cell? h904 (p9b101.add 1) = some v150 ∧ ∃ i151,v150 = .int .i64 i151 ∧ ∃ v152,PH.cell? h904 (p9b101.add 2) = some v152 ∧ ∃ i153,v152 = .int .i64 i153 ∧ ∃ p154,letI h905 : PH := PH.setCell h904 (p154.add (i137.toNat * 1)) (.int .i64 i153); a133 = some p154 ∧ 0 ≤ i137 ∧ i137 < (n134 : Int) ∧ (¬ (Addr.block (p154.add (i137.toNat * 1)) = Addr.block (p9b101.add 1) ∧ Addr.off (p154.add (i137.toNat * 1)) = Addr.off (p9b101.add 1))) ∧ (∃ u155,PH.cell? h904 (p154.add (i137.toNat * 1)) = some u155) ∧ PH.froz h904 (p154.add (i137.toNat * 1)) = some false ∧ ∃ p156,a147 = some p156 ∧ 0 ≤ i151 ∧ i151 < (n148 : Int) ∧ (∃ u157,PH.cell? h905 (p156.add (i151.toNat * 1)) = some u157) ∧ PH.froz h905 (p156.add (i151.toNat * 1)) = some false ∧ R5 (x80,r81,l82,len83,cap84,x85,(IntKind.wrap .i64 (x86 + 1))) (PH.setCell h905 (p156.add (i151.toNat * 1)) (.int .i64 x86))) (R5 (x80,r81,l82,len83,cap84,x85,(IntKind.wrap .i64 (x86 + 1))) h904)) (S97_7 call Q x80 r81 x80 (0 : Int) σ)
def S97_5 (call : CallR) (Q : QT) (x80 : Int) (r81 : Addr) (l82 : Option Addr) (len83 cap84 : Nat) (x85 x86 : Int) (σ : PH) : Prop := iloopS (fun (R5 : T97_5 → PH → Prop) (x : T97_5) σ => S97_6 call Q R5 x.1 x.2.1 x.2.2.1 x.2.2.2.1 x.2.2.2.2.1 x.2.2.2.2.2.1 x.2.2.2.2.2.2 σ) (x80,r81,l82,len83,cap84,x85,x86) σ
def S97_2 (call : CallR) (Q : QT) (R1 : T97_1 → PH → Prop) (x6 : Int) (l7 : Option Addr) (len8 cap9 : Nat) (r10 : Addr) (x11 x12 : Int) (σ : PH) : Prop :=
 br (decide (x12 < x11)) (∃ p20,some r10 = some p20 ∧ ∃ v21,PH.cell? σ (p20.add 1) = some v21 ∧ ∃ a22 n23 c24,v21 = .slice a22 n23 c24 ∧ 0 ≤ x6 ∧ x6 ≤ x6 ∧ (8 : Int) * x6 ≤ 2 ^ 47 ∧ x6 < 2 ^ 62 ∧ ∀ b25 : Nat,letI h903 : PH := PH.set σ b25 (.cells (zeros (.int .i64 (0 : Int)) (Int.toNat x6)) 3); σ b25 = none → ∀ b26 : Nat,h903 b26 = none → iappend prog 33 (.slice a22 n23 c24) (.slice (some ⟨b26,0,none⟩) 1 1) (fun v27 τ28 => ∃ a29 n30 c31,v27 = .slice a29 n30 c31 ∧ ∃ p32,some r10 = some p32 ∧ (∀ p : Addr,a22 = some p → ¬ Addr.block (p32.add 2) = p.block) ∧ ∃ v33,PH.cell? τ28 (p32.add 2) = some v33 ∧ ∃ a34 n35 c36,v33 = .slice a34 n35 c36 ∧ 0 ≤ x6 ∧ x6 ≤ x6 ∧ (8 : Int) * x6 ≤ 2 ^ 47 ∧ x6 < 2 ^ 62 ∧ ∀ b37 : Nat,letI h902 : PH := PH.set τ28 b37 (.cells (zeros (.int .i64 (0 : Int)) (Int.toNat x6)) 3); τ28 b37 = none → ∀ b38 : Nat,h902 b38 = none → iappend prog 33 (.slice a34 n35 c36) (.slice (some ⟨b38,0,none⟩) 1 1) (fun v39 τ40 => ∃ a41 n42 c43,v39 = .slice a41 n42 c43 ∧ ∃ p44,letI h901 : PH := PH.setCell τ40 (p44.add 1) (.slice a29 n30 c31); some r10 = some p44 ∧ (∃ u45,PH.cell? τ40 (p44.add 1) = some u45) ∧ PH.froz τ40 (p44.add 1) = some false ∧ ∃ p46,some r10 = some p46 ∧ (∃ u47,PH.cell? h901 (p46.add 2) = some u47) ∧ PH.froz h901 (p46.add 2) = some false ∧ S97_3 call Q R1 x6 l7 len8 cap9 r10 x12 x11 x12 x6 (0 : Int) (PH.setCell h901 (p46.add 2) (.slice a41 n42 c43))) (PH.set h902 b38 (.cells #[(.slice (some ⟨b37,0,none⟩) (Int.toNat x6) (Int.toNat x6))] 33))) (PH.set h903 b26 (.cells #[(.slice (some ⟨b25,0,none⟩) (Int.toNat x6) (Int.toNat x6))] 33))) (S97_5 call Q x6 r10 l7 len8 cap9 (len8 : Int) (0 : Int) σ)
def S97_1 (call : CallR) (Q : QT) (x6 : Int) (l7 : Option Addr) (len8 cap9 : Nat) (r10 : Addr) (x11 x12 : Int) (σ : PH) : Prop := iloopS (fun (R1 : T97_1 → PH → Prop) (x : T97_1) σ => S97_2 call Q R1 x.1 x.2.1 x.2.2.1 x.2.2.2.1 x.2.2.2.2.1 x.2.2.2.2.2.1 x.2.2.2.2.2.2 σ) (x6,l7,len8,cap9,r10,x11,x12) σ
def S97_0 (call : CallR) (Q : QT) (i1 : Int) (a2 : Option Addr) (n3 c4 : Nat) (σ : PH) : Prop :=
 ∀ b5 : Nat,σ b5 = none → S97_1 call Q i1 a2 n3 c4 (⟨b5,0,none⟩ : Addr) i1 (0 : Int) (PH.set σ b5 (.cells #[.slice a2 n3 c4,.slice none 0 0,.slice none 0 0] 152))
noncomputable def M97_3 (x : T97_3) : Env := ([some (.int .i64 x.1),some (.slice x.2.1 x.2.2.1 x.2.2.2.1),oo,oo,oo,some (.pointer (some x.2.2.2.2.1)),some (.int .i64 x.2.2.2.2.2.1),oo,oo,oo,oo,oo,oo,oo,oo,oo,oo,some (.int .i64 x.2.2.2.2.2.2.1),some (.int .i64 x.2.2.2.2.2.2.2.1),oo,oo,oo,oo,oo,oo,oo,oo,oo,oo,oo,oo,oo,oo,oo,oo,oo,oo,oo,oo,oo,oo,oo,oo,some (.int .i64 x.2.2.2.2.2.2.2.2.1),some (.int .i64 x.2.2.2.2.2.2.2.2.2)] ++ rp 166)
noncomputable def M97_11 (x : T97_11) : Env := ([some (.int .i64 x.1),oo,oo,oo,oo,some (.pointer (some x.2.1)),oo,oo,oo,oo,some (.int .i64 x.2.2.1),some (.int .i64 x.2.2.2.1),oo,oo,oo,oo,oo,oo,oo,oo,oo,oo,oo,oo,oo,oo,oo,oo,oo,oo,oo,oo,oo,oo,oo,oo,oo,oo,oo,oo,oo,oo,oo,oo,oo,oo,oo,oo,oo,oo,oo,oo,oo,oo,oo,oo,oo,oo,oo,oo,oo,oo,oo,oo,oo,oo,oo,oo,oo,oo,oo,oo,oo,oo,oo,oo,oo,oo,oo,oo,oo,oo,oo,oo,oo,oo,oo,oo,oo,oo,oo,oo,oo,oo,oo,oo,oo,oo,oo,oo,oo,oo,oo,oo,oo,oo,oo,oo,oo,some (.int .i64 x.2.2.2.2.1),some (.int .i64 x.2.2.2.2.2.1),oo,oo,some (.int .i64 x.2.2.2.2.2.2.1),some (.int .i64 x.2.2.2.2.2.2.2.1),oo,oo,some (.int .i64 x.2.2.2.2.2.2.2.2.1),some (.int .i64 x.2.2.2.2.2.2.2.2.2)] ++ rp 92)
noncomputable def M97_9 (x : T97_9) : Env := ([some (.int .i64 x.1),oo,oo,oo,oo,some (.pointer (some x.2.1)),oo,oo,oo,oo,some (.int .i64 x.2.2.1),oo,oo,oo,oo,oo,oo,oo,oo,oo,oo,oo,oo,oo,oo,oo,oo,oo,oo,oo,oo,oo,oo,oo,oo,oo,oo,oo,oo,oo,oo,oo,oo,oo,oo,oo,oo,oo,oo,oo,oo,oo,oo,oo,oo,oo,oo,oo,oo,oo,oo,oo,oo,oo,oo,oo,oo,oo,oo,oo,oo,oo,oo,oo,oo,oo,oo,oo,oo,oo,oo,oo,oo,oo,oo,oo,oo,oo,oo,oo,oo,oo,oo,oo,oo,oo,oo,oo,oo,oo,oo,oo,oo,oo,oo,oo,oo,oo,oo,some (.int .i64 x.2.2.2.1),some (.int .i64 x.2.2.2.2.1),oo,oo,some (.int .i64 x.2.2.2.2.2.1),some (.int .i64 x.2.2.2.2.2.2)] ++ rp 96)
noncomputable def M97_7 (x : T97_7) : Env := ([some (.int .i64 x.1),oo,oo,oo,oo,some (.pointer (some x.2.1)),oo,oo,oo,oo,oo,oo,oo,oo,oo,oo,oo,oo,oo,oo,oo,oo,oo,oo,oo,oo,oo,oo,oo,oo,oo,oo,oo,oo,oo,oo,oo,oo,oo,oo,oo,oo,oo,oo,oo,oo,oo,oo,oo,oo,oo,oo,oo,oo,oo,oo,oo,oo,oo,oo,oo,oo,oo,oo,oo,oo,oo,oo,oo,oo,oo,oo,oo,oo,oo,oo,oo,oo,oo,oo,oo,oo,oo,oo,oo,oo,oo,oo,oo,oo,oo,oo,oo,oo,oo,oo,oo,oo,oo,oo,oo,oo,oo,oo,oo,oo,oo,oo,oo,some (.int .i64 x.2.2.1),some (.int .i64 x.2.2.2)] ++ rp 100)
noncomputable def M97_5 (x : T97_5) : Env := ([some (.int .i64 x.1),oo,oo,oo,oo,some (.pointer (some x.2.1)),oo,oo,oo,oo,oo,oo,oo,oo,oo,oo,oo,oo,oo,oo,oo,oo,oo,oo,oo,oo,oo,oo,oo,oo,oo,oo,oo,oo,oo,oo,oo,oo,oo,oo,oo,oo,oo,oo,oo,oo,oo,oo,oo,oo,oo,oo,oo,oo,oo,oo,oo,oo,oo,oo,oo,some (.slice x.2.2.1 x.2.2.2.1 x.2.2.2.2.1),some (.int .i64 x.2.2.2.2.2.1),some (.int .i64 x.2.2.2.2.2.2)] ++ rp 147)
noncomputable def M97_1 (x : T97_1) : Env := ([some (.int .i64 x.1),some (.slice x.2.1 x.2.2.1 x.2.2.2.1),oo,oo,oo,some (.pointer (some x.2.2.2.2.1)),oo,oo,oo,oo,oo,oo,oo,oo,oo,oo,oo,some (.int .i64 x.2.2.2.2.2.1),some (.int .i64 x.2.2.2.2.2.2)] ++ rp 192)
noncomputable def L97_3 (call : CallR) (Q : QT) (D1 : ET) (x48 : Int) (l49 : Option Addr) (len50 cap51 : Nat) (r52 : Addr) (x53 x54 x55 x56 x57 : Int) : PH → Prop := iloop (i97 40139 call) (k97 23755) (K97_6 call Q D1) (M97_3 (x48,l49,len50,cap51,r52,x53,x54,x55,x56,x57))
noncomputable def L97_11 (call : CallR) (Q : QT) (D7 D9 : ET) (x180 : Int) (r181 : Addr) (x182 x183 x184 x185 x186 x187 x188 x189 : Int) : PH → Prop := iloop (i97 20132655 call) (k97 11744047) (K97_16 call Q D7 D9) (M97_11 (x180,r181,x182,x183,x184,x185,x186,x187,x188,x189))
noncomputable def L97_9 (call : CallR) (Q : QT) (D7 : ET) (x166 : Int) (r167 : Addr) (x168 x169 x170 x171 x172 : Int) : PH → Prop := iloop (i97 78639 call) (k97 45871) (K97_12 call Q D7) (M97_9 (x166,r167,x168,x169,x170,x171,x172))
noncomputable def L97_7 (call : CallR) (Q : QT) (x158 : Int) (r159 : Addr) (x160 x161 : Int) : PH → Prop := iloop (i97 303 call) (k97 175) (K97_8 call Q) (M97_7 (x158,r159,x160,x161))
noncomputable def L97_5 (call : CallR) (Q : QT) (x80 : Int) (r81 : Addr) (l82 : Option Addr) (len83 cap84 : Nat) (x85 x86 : Int) : PH → Prop := iloop (i97 151 call) (k97 87) (K97_18 call Q) (M97_5 (x80,r81,l82,len83,cap84,x85,x86))
noncomputable def L97_1 (call : CallR) (Q : QT) (x6 : Int) (l7 : Option Addr) (len8 cap9 : Nat) (r10 : Addr) (x11 x12 : Int) : PH → Prop := iloop (i97 75 call) (k97 43) (K97_2 call Q) (M97_1 (x6,l7,len8,cap9,r10,x11,x12))
theorem E97_3 (call : CallR) (Q : QT) (D1 : ET) : L97_3 call Q D1 = S97_3 call Q (fun y => D1 (M97_1 y)) := by
 repeat funext _
 refine iloop_inv M97_3 (fun e => (vi (gv e 0),sa (gv e 1),sl (gv e 1),sc (gv e 1),va (gv e 5),vi (gv e 6),vi (gv e 17),vi (gv e 18),vi (gv e 43),vi (gv e 44))) (fun _ => rfl) _ _ _ _ (fun D3 x σ => ?_) _ _
 kernel_rfl
theorem E97_11 (call : CallR) (Q : QT) (D7 D9 : ET) : L97_11 call Q D7 D9 = S97_11 call Q (fun y => D7 (M97_7 y)) (fun y => D9 (M97_9 y)) := by
 repeat funext _
 refine iloop_inv M97_11 (fun e => (vi (gv e 0),va (gv e 5),vi (gv e 10),vi (gv e 11),vi (gv e 109),vi (gv e 110),vi (gv e 113),vi (gv e 114),vi (gv e 117),vi (gv e 118))) (fun _ => rfl) _ _ _ _ (fun D11 x σ => ?_) _ _
 kernel_rfl
theorem E97_9 (call : CallR) (Q : QT) (D7 : ET) : L97_9 call Q D7 = S97_9 call Q (fun y => D7 (M97_7 y)) := by
 repeat funext _
 refine iloop_inv M97_9 (fun e => (vi (gv e 0),va (gv e 5),vi (gv e 10),vi (gv e 109),vi (gv e 110),vi (gv e 113),vi (gv e 114))) (fun _ => rfl) _ _ _ _ (fun D9 x σ => ?_) _ _
 rw [S97_10,← E97_11 call Q D7 D9]
 kernel_rfl
theorem E97_7 (call : CallR) (Q : QT) : L97_7 call Q = S97_7 call Q := by
 repeat funext _
 refine iloop_inv M97_7 (fun e => (vi (gv e 0),va (gv e 5),vi (gv e 109),vi (gv e 110))) (fun _ => rfl) _ _ _ _ (fun D7 x σ => ?_) _ _
 rw [S97_8,← E97_9 call Q D7]
 kernel_rfl
theorem E97_5 (call : CallR) (Q : QT) : L97_5 call Q = S97_5 call Q := by
 repeat funext _
 refine iloop_inv M97_5 (fun e => (vi (gv e 0),va (gv e 5),sa (gv e 61),sl (gv e 61),sc (gv e 61),vi (gv e 62),vi (gv e 63))) (fun _ => rfl) _ _ _ _ (fun D5 x σ => ?_) _ _
 rw [S97_6,← E97_7 call Q]
 kernel_rfl
theorem E97_1 (call : CallR) (Q : QT) : L97_1 call Q = S97_1 call Q := by
 repeat funext _
 refine iloop_inv M97_1 (fun e => (vi (gv e 0),sa (gv e 1),sl (gv e 1),sc (gv e 1),va (gv e 5),vi (gv e 17),vi (gv e 18))) (fun _ => rfl) _ _ _ _ (fun D1 x σ => ?_) _ _
 rw [S97_2,← E97_3 call Q D1,← E97_5 call Q]
 kernel_rfl
theorem E97_0 (call : CallR) (Q : QT) (i1 : Int) (a2 : Option Addr) (n3 c4 : Nat) (σ : PH) : ibody prog anns call 97 #[(.int .i64 i1),(.slice a2 n3 c4)] Q σ = S97_0 call Q i1 a2 n3 c4 σ := by
 rw [S97_0,← E97_1 call Q]
 kernel_rfl
def S98_0 (call : CallR) (Q : QT) (p1 : Option Addr) (i2 i3 : Int) (σ : PH) : Prop :=
 ∃ p4,p1 = some p4 ∧ ∃ v5,PH.cell? σ (p4.add 1) = some v5 ∧ ∃ a6 n7 c8,v5 = .slice a6 n7 c8 ∧ ∃ p9,a6 = some p9 ∧ 0 ≤ i2 ∧ i2 < (n7 : Int) ∧ ∃ v10,PH.cell? σ (p9.add (i2.toNat * 1)) = some v10 ∧ ∃ a11 n12 c13,v10 = .slice a11 n12 c13 ∧ ∃ p14,a11 = some p14 ∧ 0 ≤ i3 ∧ i3 < (n12 : Int) ∧ ∃ v15,PH.cell? σ (p14.add (i3.toNat * 1)) = some v15 ∧ ∃ i16,v15 = .int .i64 i16 ∧ Q (.int .i64 i16) σ
theorem E98_0 (call : CallR) (Q : QT) (p1 : Option Addr) (i2 i3 : Int) (σ : PH) : ibody prog anns call 98 #[(.pointer p1),(.int .i64 i2),(.int .i64 i3)] Q σ = S98_0 call Q p1 i2 i3 σ := by
 kernel_rfl
noncomputable def code99 : Code := (Try.f99.body).getD .skip
noncomputable def i99 (p : Nat) (call : CallR) (K : IX → Env → PH → Prop) (e : Env) : PH → Prop := icode prog call (nav (pp p) code99) (anav (pp p) an99) K e
def k99 (p : Nat) : Env → Env := Ann.cut (anav (pp p) an99)
noncomputable def K99_0 (_ : CallR) (Q : QT) : KT := finK prog Try.f99 Q
noncomputable def K99_1 (call : CallR) (Q : QT) : KT := seqK (i99 15 call (K99_0 call Q)) (k99 7) (K99_0 call Q)
noncomputable def K99_2 (call : CallR) (Q : QT) : KT := blockK 0 (K99_1 call Q)
abbrev T99_1 := Option Addr × Int × Int × Option Addr × Nat × Nat
def S99_2 (call : CallR) (Q : QT) (R1 : T99_1 → PH → Prop) (r4 : Option Addr) (x5 x6 : Int) (l7 : Option Addr) (len8 cap9 : Nat) (σ : PH) : Prop :=
 br (x5 != x6) (∃ p16,r4 = some p16 ∧ ∃ v17,PH.cell? σ (p16.add 2) = some v17 ∧ ∃ a18 n19 c20,v17 = .slice a18 n19 c20 ∧ ∃ p21,a18 = some p21 ∧ 0 ≤ x5 ∧ x5 < (n19 : Int) ∧ ∃ v22,PH.cell? σ (p21.add (x5.toNat * 1)) = some v22 ∧ ∃ a23 n24 c25,v22 = .slice a23 n24 c25 ∧ ∃ p26,a23 = some p26 ∧ 0 ≤ x6 ∧ x6 < (n24 : Int) ∧ ∃ v27,PH.cell? σ (p26.add (x6.toNat * 1)) = some v27 ∧ ∃ i28,v27 = .int .i64 i28 ∧ ∀ b29 : Nat,σ b29 = none → iappend prog 3 (.slice l7 len8 cap9) (.slice (some ⟨b29,0,none⟩) 1 1) (fun v30 τ31 => ∃ a32 n33 c34,v30 = .slice a32 n33 c34 ∧ ∃ p35,r4 = some p35 ∧ ∃ v36,PH.cell? τ31 p35 = some v36 ∧ ∃ a37 n38 c39,v36 = .slice a37 n38 c39 ∧ ∃ p40,a37 = some p40 ∧ 0 ≤ i28 ∧ i28 < (n38 : Int) ∧ ∃ v41,PH.cell? τ31 ((p40.add (Int.toNat i28 * 3)).add 1) = some v41 ∧ ∃ i42,v41 = .int .i64 i42 ∧ R1 (r4,i42,x6,a32,n33,c34) τ31) (PH.set σ b29 (.cells #[.int .i64 i28] 3))) (Q (.slice l7 len8 cap9) σ)
def S99_1 (call : CallR) (Q : QT) (r4 : Option Addr) (x5 x6 : Int) (l7 : Option Addr) (len8 cap9 : Nat) (σ : PH) : Prop := iloopS (fun (R1 : T99_1 → PH → Prop) (x : T99_1) σ => S99_2 call Q R1 x.1 x.2.1 x.2.2.1 x.2.2.2.1 x.2.2.2.2.1 x.2.2.2.2.2 σ) (r4,x5,x6,l7,len8,cap9) σ
def S99_0 (call : CallR) (Q : QT) (p1 : Option Addr) (i2 i3 : Int) (σ : PH) : Prop :=
 S99_1 call Q p1 i2 i3 none 0 0 σ
noncomputable def M99_1 (x : T99_1) : Env := ([some (.pointer x.1),some (.int .i64 x.2.1),some (.int .i64 x.2.2.1),oo,oo,oo,oo,some (.slice x.2.2.2.1 x.2.2.2.2.1 x.2.2.2.2.2)] ++ rp 27)
noncomputable def L99_1 (call : CallR) (Q : QT) (r4 : Option Addr) (x5 x6 : Int) (l7 : Option Addr) (len8 cap9 : Nat) : PH → Prop := iloop (i99 35 call) (k99 19) (K99_2 call Q) (M99_1 (r4,x5,x6,l7,len8,cap9))
theorem E99_1 (call : CallR) (Q : QT) : L99_1 call Q = S99_1 call Q := by
 repeat funext _
 refine iloop_inv M99_1 (fun e => (vp (gv e 0),vi (gv e 1),vi (gv e 2),sa (gv e 7),sl (gv e 7),sc (gv e 7))) (fun _ => rfl) _ _ _ _ (fun D1 x σ => ?_) _ _
 kernel_rfl
theorem E99_0 (call : CallR) (Q : QT) (p1 : Option Addr) (i2 i3 : Int) (σ : PH) : ibody prog anns call 99 #[(.pointer p1),(.int .i64 i2),(.int .i64 i3)] Q σ = S99_0 call Q p1 i2 i3 σ := by
 rw [S99_0,← E99_1 call Q]
 kernel_rfl
def S111_0 (call : CallR) (Q : QT) (a1 : Option Addr) (n2 c3 : Nat) (σ : PH) : Prop :=
 call 50 #[.slice a1 n2 c3] (fun v4 τ5 => ∃ υ6 : PH,PH.sub υ6 τ5 ∧ ∃ (a7 : Option Addr) (n8 : Nat) (c9 : Nat) (q10 : Bool),v4 = (.tuple #[.slice a7 n8 c9,(.bool q10)]) ∧ call 117 #[.slice a7 n8 c9] (fun v11 τ12 => ∃ υ13 : PH,PH.sub υ13 τ12 ∧ ∃ a14 n15 c16,v11 = .slice a14 n15 c16 ∧ Q (.slice a14 n15 c16) υ13) υ6) σ
theorem E111_0 (call : CallR) (Q : QT) (a1 : Option Addr) (n2 c3 : Nat) (σ : PH) : ibody prog anns call 111 #[(.slice a1 n2 c3)] Q σ = S111_0 call Q a1 n2 c3 σ := by
 kernel_rfl
def S117_0 (call : CallR) (Q : QT) (a1 : Option Addr) (n2 c3 : Nat) (σ : PH) : Prop :=
 br (a1).isNone (Q (.slice none 0 0) σ) (∀ b4 : Nat,σ b4 = none → iappend prog 3 (.slice (some ⟨b4,0,none⟩) 0 0) (.slice a1 n2 c3) (fun v5 τ6 => ∃ a7 n8 c9,v5 = .slice a7 n8 c9 ∧ Q (.slice a7 n8 c9) τ6) (PH.set σ b4 (.cells #[] 3)))
theorem E117_0 (call : CallR) (Q : QT) (a1 : Option Addr) (n2 c3 : Nat) (σ : PH) : ibody prog anns call 117 #[(.slice a1 n2 c3)] Q σ = S117_0 call Q a1 n2 c3 σ := by
 kernel_rfl
abbrev T6_5 := Addr × Addr × Option Addr × Nat × Nat × Int × Int
abbrev T6_3 := Option Addr × Nat × Nat × Addr × Addr × Int × Int
abbrev T6_1 := Option Addr × Nat × Nat × Option Addr × Nat × Nat × Addr × Addr × Int × Int
abbrev T7_1 := Int × Int × Addr × Int
end Go.Proofs.Ythfnjogadngfiaa
namespace Go.Proofs.Ythfnjogadngfiaa
open Go.Sl Go.Sv
noncomputable abbrev C : CallR := ICall prog anns (SemCall prog)
theorem hb : CMono (SemCall prog) (SemCall prog) := SemCall.of SemCall.hc
theorem go {f : FuncId} {args : Array Value} {Q : Value → PH → Prop} {σ : PH} {A : Prop} (e : ibody prog anns C f args Q σ = A) (h : A) : C f args Q σ := by
 refine ICall.intro (P := prog) (anns := anns) (base := SemCall prog) hb ?_
 rw [e]
 exact h
def Lit (i : Int) : Prop := -1152921504606846976 ≤ i ∧ i ≤ 1152921504606846976
theorem c73 {i : Int} (h : Lit i) (σ : PH) : C 73 #[.int .i64 i] (fun v τ => v = .int .i64 (idx i) ∧ τ = σ) σ := by
 refine go (E73_0 _ _ _ _) ?_
 unfold S73_0
 obtain ⟨h1,h2⟩ := h
 refine br_dec.2 ⟨fun hl => ⟨?_,rfl⟩,fun hl => ⟨?_,rfl⟩⟩
 · unfold idx
   rw [if_pos hl,w64 (n := 0 - i) (by omega) (by omega),w64 (n := 0 - i - 1) (by omega) (by omega),w64 (n := 2 * (0 - i - 1)) (by omega) (by omega),w64 (by omega) (by omega)]
   congr 1; omega
 · unfold idx
   rw [if_neg hl,w64 (n := i - 1) (by omega) (by omega),w64 (by omega) (by omega)]
theorem c74 {i : Int} (h : Lit i) (h0 : i ≠ 0) (σ : PH) : C 74 #[.int .i64 i] (fun v τ => v = .int .i64 (idx i / 2) ∧ τ = σ) σ := by
 refine go (E74_0 _ _ _ _) ?_
 unfold S74_0
 refine (c73 h σ).mono hb ?_
 rintro _ _ ⟨rfl,rfl⟩
 refine ⟨_,PH.sub.refl _,_,rfl,by decide,rfl,?_,rfl⟩
 have : 0 ≤ idx i ∧ idx i ≤ 4611686018427387904 := by unfold Lit at h; unfold idx; split <;> omega
 rw [Int.tdiv_eq_ediv_of_nonneg this.1,w64 (by omega) (by omega)]
theorem c43 {σ : PH} {a : Option Addr} {n c : Nat} {l : List Int} {i : Int} (h : Lit i) (hl : Ints σ a n l) (hv : ∀ x ∈ l,Lit x) : C 43 #[.slice a n c,.int .i64 i] (fun v τ => v = .int .i64 (valS l i) ∧ τ = σ) σ := by
 refine go (E43_0 _ _ _ _ _ _ _) ?_
 unfold S43_0
 have hn := hl.1
 have hget : ∀ k : Nat,Lit (l.getD k 0) := by
   intro k
   rw [List.getD_eq_getElem?_getD]
   cases hk : l[k]? with
   | none => exact ⟨by decide,by decide⟩
   | some x => exact hv x (List.mem_of_getElem? hk)
 have neg : i < 0 → -i ≤ n → ∃ p5 : Addr,a = some p5 ∧ (0 : Int) ≤ (IntKind.wrap .i64 ((IntKind.wrap .i64 (0 - i)) - (1 : Int))) ∧ (IntKind.wrap .i64 ((IntKind.wrap .i64 (0 - i)) - (1 : Int))) < ((n : Nat) : Int) ∧
     ∃ v9,PH.cell? σ (p5.add (Int.toNat (IntKind.wrap .i64 ((IntKind.wrap .i64 (0 - i)) - (1 : Int))) * 1)) = some v9 ∧ ∃ (i10 : Int),v9 = (.int .i64 i10) ∧ (Value.int .i64 (IntKind.wrap .i64 (0 - i10)) = .int .i64 (valS l i) ∧ σ = σ) := by
   intro h0 h1
   have := h.1
   rw [w64 (n := 0 - i) (by omega) (by omega),w64 (n := 0 - i - 1) (by omega) (by omega)]
   obtain ⟨p,hp,hc⟩ := hl.at (i := 0 - i - 1) (by omega) (by omega)
   refine ⟨p,hp,by omega,by omega,_,hc,_,rfl,?_,rfl⟩
   have hg := hget (0 - i - 1).toNat
   have := hg.1; have := hg.2
   rw [w64 (by omega) (by omega)]
   unfold valS
   rw [if_neg (by omega),if_pos (by omega)]
   rw [show 0 - i - 1 = -i - 1 from by omega,Int.zero_sub]
 refine br_dec.2 ⟨fun h0 => br_dec.2 ⟨fun h1 => ?_,fun h1 => br_dec.2 ⟨fun h2 => by omega,fun h2 => ⟨?_,rfl⟩⟩⟩,fun h0 => br_dec.2 ⟨fun h1 => br_dec.2 ⟨fun h2 => ?_,fun h2 => ⟨?_,rfl⟩⟩,fun h1 => ⟨?_,rfl⟩⟩⟩
 · have := h.2
   rw [w64 (n := i - 1) (by omega) (by omega)]
   obtain ⟨p,hp,hc⟩ := hl.at (i := i - 1) (by omega) (by omega)
   refine ⟨p,hp,by omega,by omega,_,hc,_,rfl,?_,rfl⟩
   unfold valS
   rw [if_pos (by omega)]
 · unfold valS; rw [if_neg (by omega),if_neg (by omega)]
 · have := h.1
   rw [w64 (n := 0 - i) (by omega) (by omega)] at h2
   exact neg h1 (by omega)
 · have := h.1
   rw [w64 (n := 0 - i) (by omega) (by omega)] at h2
   unfold valS; rw [if_neg (by omega),if_neg (by omega)]
 · unfold valS; rw [if_neg (by omega),if_neg (by omega)]
def Len (n : Nat) : Prop := n ≤ 1152921504606846976
theorem c66 {σ : PH} {a : Option Addr} {n c : Nat} {l : List Int} {i : Int} (hn : Len n) (hl : Ints σ a n l) : C 66 #[.slice a n c,.int .i64 i] (fun v τ => v = .bool (l.contains i) ∧ τ = σ) σ := by
 refine go (E66_0 _ _ _ _ _ _ _) ?_
 unfold S66_0 S66_1
 refine iloopS_for (fun k (_ : Unit) => (i,a,n,c,(n : Int),(k : Int))) (fun k _ τ => τ = σ ∧ l.contains i = (l.drop k).contains i) n ?_ (g := ()) ⟨rfl,rfl⟩
 rintro k _ τ hk ⟨rfl,hI⟩ R hR
 unfold S66_2
 dsimp only
 refine br_dec.2 ⟨fun h => ?_,fun h => ?_⟩
 · obtain ⟨p,hp,hc⟩ := hl.at (i := (k : Int)) (by omega) (by omega)
   refine ⟨p,hp,by omega,by omega,_,hc,_,rfl,?_⟩
   have hlt : k < l.length := by have := hl.1; omega
   have hd : l.drop k = l[k] :: l.drop (k + 1) := List.drop_eq_getElem_cons hlt
   have hg : l.getD (k : Int).toNat 0 = l[k] := by simp [hlt]
   rw [hg]
   refine br_iff.2 ⟨fun h1 => ⟨?_,rfl⟩,fun h1 => ?_⟩
   · have : l[k] = i := eq_of_beq h1
     have h2 : (l.drop k).contains i = true := by rw [hd,List.contains_cons,this,beq_self_eq_true,Bool.true_or]
     rw [hI,h2]
   · have h3 := hR () τ (by omega) ⟨rfl,by rw [hI,hd,List.contains_cons]; simp at h1; simp [show (i == l[k]) = false from by simp; exact fun e => h1 e.symm]⟩
     unfold Len at hn
     rw [wnat (by omega)]
     exact h3
 · have : k = n := by omega
   subst this
   refine ⟨?_,rfl⟩
   rw [hI,List.drop_eq_nil_of_le (by rw [hl.1]; exact Nat.le_refl _)]
   rfl
theorem c27 {σ : PH} {a : Option Addr} {n c : Nat} {l : List Int} {a' : Option Addr} {n' c' : Nat} {l' : List Int} (hn : Len n) (hl : Ints σ a n l) (hl' : Ints σ a' n' l') :
   C 27 #[.slice a n c,.slice a' n' c'] (fun v τ => v = .bool (l == l') ∧ τ = σ) σ := by
 refine go (E27_0 _ _ _ _ _ _ _ _ _) ?_
 unfold S27_0
 have e1 := hl.1
 have e2 := hl'.1
 refine br_iff.2 ⟨fun h => ⟨?_,rfl⟩,fun h => ?_⟩
 · congr 1
   symm
   rw [beq_eq_false_iff_ne]
   rintro rfl
   simp at h
   omega
 · have hnn : n = n' := by simp at h; omega
   subst hnn
   unfold S27_1
   refine iloopS_for (fun k (_ : Unit) => (a,n,c,a',n,c',(n : Int),(k : Int))) (fun k _ τ => τ = σ ∧ l.take k = l'.take k) n ?_ (g := ()) ⟨rfl,rfl⟩
   rintro k _ τ hk ⟨rfl,hI⟩ R hR
   unfold S27_2
   dsimp only
   refine br_dec.2 ⟨fun h => ?_,fun h => ?_⟩
   · obtain ⟨p,hp,hc⟩ := hl.at (i := (k : Int)) (by omega) (by omega)
     obtain ⟨p',hp',hc'⟩ := hl'.at (i := (k : Int)) (by omega) (by omega)
     refine ⟨p,hp,by omega,by omega,_,hc,_,rfl,p',hp',by omega,by omega,_,hc',_,rfl,?_⟩
     have h1 : k < l.length := by omega
     have h2 : k < l'.length := by omega
     have hg : l.getD (k : Int).toNat 0 = l[k] := by simp [h1]
     have hg' : l'.getD (k : Int).toNat 0 = l'[k] := by simp [h2]
     rw [hg,hg']
     refine br_iff.2 ⟨fun h3 => ⟨?_,rfl⟩,fun h3 => ?_⟩
     · congr 1
       symm
       rw [beq_eq_false_iff_ne]
       rintro rfl
       simp at h3
     · have h4 := hR () τ (by omega) ⟨rfl,by rw [List.take_succ_eq_append_getElem h1,List.take_succ_eq_append_getElem h2,hI]; simp at h3; rw [h3]⟩
       unfold Len at hn
       rw [wnat (by omega)]
       exact h4
   · have : k = n := by omega
     subst this
     refine ⟨?_,rfl⟩
     rw [List.take_of_length_le (by omega),List.take_of_length_le (by omega)] at hI
     rw [hI]; simp
end Go.Proofs.Ythfnjogadngfiaa
namespace Go.Sl
structure Step (M : Nat → Prop) (σ τ : PH) : Prop where
 same : ∀ b o,σ b = some o → ¬ M b → τ b = some o
 dom : ∀ b,σ b ≠ none → τ b ≠ none
theorem Step.refl {M : Nat → Prop} (σ : PH) : Step M σ σ := ⟨fun _ _ h _ => h,fun _ h => h⟩
theorem Step.trans {M : Nat → Prop} {σ τ υ : PH} (h : Step M σ τ) (h' : Step M τ υ) : Step M σ υ :=
 ⟨fun b o hb hm => h'.same b o (h.same b o hb hm) hm,fun b hb => h'.dom b (h.dom b hb)⟩
theorem Step.weaken {M N : Nat → Prop} {σ τ : PH} (h : Step M σ τ) (hm : ∀ b,M b → N b) : Step N σ τ := ⟨fun b o hb hn => h.same b o hb fun h => hn (hm b h),h.dom⟩
theorem PH.sub.step {M : Nat → Prop} {σ τ : PH} (h : σ.sub τ) : Step M σ τ :=
 ⟨fun b o hb _ => h b o hb,fun b hb => by
   cases hc : σ b with
   | none => exact absurd hc hb
   | some o => rw [h b o hc]; simp⟩
structure Own (σ : PH) (e : TypeId) (size : Nat) (a : Option Addr) (n c : Nat) (vs : List Value) : Prop where
 len : vs.length = n * size
 le : n ≤ c
 row : (a = none ∧ c = 0) ∨ ∃ b arr,a = some ⟨b,0,none⟩ ∧ σ b = some (.cells arr e (0,0)) ∧ arr.size = c * size ∧ arr.toList.take (n * size) = vs
theorem add_off (b o i : Nat) : (Addr.mk b o none).add i = ⟨b,o + i,none⟩ := by
 unfold Addr.add
 split
 · rename_i h; subst h; rfl
 · rfl
theorem rowAt_of {σ : PH} {b : Nat} {arr : Array Value} {e : TypeId} {f : Nat × Nat} (h : σ b = some (.cells arr e f)) : ∀ (vs : List Value) (o i : Nat),(∀ j v,vs[j]? = some v → arr[o + i + j]? = some v) → rowAt σ ⟨b,o,none⟩ i vs
 | [],_,_,_ => trivial
 | v :: vs,o,i,hv => by
   refine ⟨?_,rowAt_of h vs o (i + 1) fun j u hu => ?_⟩
   · rw [add_off]
     unfold PH.cell?
     rw [h]
     exact hv 0 v rfl
   · have := hv (j + 1) u hu
     rw [← this]; congr 1; omega
theorem Own.reads {σ : PH} {e : TypeId} {size : Nat} {a : Option Addr} {n c : Nat} {vs : List Value} (h : Own σ e size a n c vs) : readsRow σ a vs := by
 rcases h.row with ⟨rfl,hc⟩ | ⟨b,arr,rfl,hb,hs,ht⟩
 · have h1 := h.len
   have h2 := h.le
   have : n = 0 := by omega
   subst this
   rw [Nat.zero_mul] at h1
   exact List.length_eq_zero_iff.1 h1
 · refine rowAt_of hb vs 0 0 fun j v hv => ?_
   rw [← ht] at hv
   rw [List.getElem?_take] at hv
   split at hv
   · simpa using hv
   · cases hv
theorem putRow_cells {b : Nat} {e : TypeId} {f : Nat × Nat} : ∀ (vs : List Value) (σ : PH) (arr : Array Value) (o i : Nat),σ b = some (.cells arr e f) → o + i + vs.length ≤ arr.size →
   ∃ arr',putRow σ ⟨b,o,none⟩ i vs b = some (.cells arr' e f) ∧ arr'.size = arr.size ∧ arr'.toList.take (o + i + vs.length) = arr.toList.take (o + i) ++ vs ∧ (∀ x,x ≠ b → putRow σ ⟨b,o,none⟩ i vs x = σ x)
 | [],σ,arr,o,i,h,hl => ⟨arr,h,rfl,by simp,fun _ _ => rfl⟩
 | v :: vs,σ,arr,o,i,h,hl => by
   have h1 : (σ.setCell ((Addr.mk b o none).add i) v) b = some (.cells (arr.setIfInBounds (o + i) v) e f) := by
     rw [add_off]
     unfold PH.setCell
     simp only [if_true,h,Option.map_some]
     rfl
   simp only [List.length_cons] at hl
   obtain ⟨arr',q1,q2,q3,q4⟩ := putRow_cells vs _ _ o (i + 1) h1 (by simp; omega)
   refine ⟨arr',q1,by rw [q2]; simp,?_,?_⟩
   · rw [List.length_cons,show o + i + (vs.length + 1) = o + (i + 1) + vs.length from by omega,q3]
     rw [Array.toList_setIfInBounds,show o + (i + 1) = (o + i) + 1 from rfl]
     have hlt : o + i < arr.toList.length := by simp; omega
     rw [List.take_succ_eq_append_getElem (by simp; omega)]
     simp [List.take_set_of_le]
   · intro x hx
     show putRow _ _ (i + 1) vs x = _
     rw [q4 x hx,add_off]
     unfold PH.setCell
     rw [if_neg hx]
theorem notFrozen_of {σ : PH} {b : Nat} {arr : Array Value} {e : TypeId} (h : σ b = some (.cells arr e (0,0))) : ∀ (m o i : Nat),o + i + m ≤ arr.size → notFrozen σ ⟨b,o,none⟩ i m
 | 0,_,_,_ => trivial
 | m + 1,o,i,hl => by
   refine ⟨?_,?_,notFrozen_of h m o (i + 1) (by omega)⟩
   · rw [add_off]; unfold PH.froz; rw [h]; simp
   · rw [add_off]; unfold PH.cell?; rw [h]
     exact ⟨arr[o + i]'(by omega),by simp⟩
theorem growBy_le {n : Nat} : ∀ (r c : Nat),c ≤ n + n / 4 + 256 → Builtin.growBy n r c ≤ n + n / 4 + 256
 | 0,_,h => h
 | r + 1,c,h => by
   unfold Builtin.growBy
   split
   · exact h
   · exact growBy_le r _ (by omega)
theorem nextcap_le {n c : Nat} (h : c < n) : Builtin.nextslicecap n c ≤ n + n / 4 + 256 := by
 unfold Builtin.nextslicecap
 split
 · omega
 · split
   · omega
   · exact growBy_le 4 c (by omega)
theorem Own.append {P : Program} {e : TypeId} {size bytes : Nat} {z : Value} (hs : sizeT P e = some size) (hb : bytesT P e = some bytes) (hz : zeroT P e = some z) (hzs : z.cells.size = size) (h0 : bytes ≠ 0)
   {σ : PH} {a : Option Addr} {n c m mc : Nat} {vs news : List Value} {xb : Option Addr} (o : Own σ e size a n c vs) (hr : readsRow σ xb news) (hl : news.length = m * size) (hp : ∀ v ∈ news,plainCell v)
   (hbig : ((n + m) + (n + m) / 4 + 256) * bytes ≤ 2 ^ 48) {Q : Value → PH → Prop}
   (hQ : ∀ a' c' τ,Own τ e size a' (n + m) c' (vs ++ news) → Step (fun b => ∃ p,a = some p ∧ b = p.block) σ τ → (a' = a ∨ ∃ b,σ b = none ∧ a' = some ⟨b,0,none⟩) → Q (.slice a' (n + m) c') τ) :
   iappend P e (.slice a n c) (.slice xb m mc) Q σ := by
 unfold iappend
 simp only [hs,hb,hz,hzs,beq_self_eq_true]
 refine ⟨vs,news,o.len,hl,o.reads,hr,fun hle => ?_,fun hlt => ⟨h0,?_,fun c' b hc' hbn => ?_⟩⟩
 · rcases o.row with ⟨rfl,hc⟩ | ⟨b,arr,rfl,hbk,hsz,ht⟩
   · have h1 := o.le
     have hn : n = 0 := by omega
     have hm : m = 0 := by omega
     subst hn; subst hm
     have hv : vs = [] := List.length_eq_zero_iff.1 (by rw [o.len]; simp)
     have hw : news = [] := List.length_eq_zero_iff.1 (by rw [hl]; simp)
     subst hv; subst hw
     exact hQ none c σ ⟨by simp,by omega,.inl ⟨rfl,hc⟩⟩ (.refl _) (.inl rfl)
   · have hroom : n * size + m * size ≤ arr.size := by rw [hsz,← Nat.add_mul]; exact Nat.mul_le_mul_right _ hle
     refine ⟨hp,?_,?_⟩
     · rw [add_off]
       exact notFrozen_of hbk _ _ _ (by simp; omega)
     · rw [add_off]
       obtain ⟨arr',q1,q2,q3,q4⟩ := putRow_cells (b := b) news σ arr (0 + n * size) 0 hbk (by rw [hl]; omega)
       refine hQ _ c _ ⟨by rw [List.length_append,o.len,hl,Nat.add_mul],hle,.inr ⟨b,arr',rfl,q1,by rw [q2,hsz],?_⟩⟩ ⟨?_,?_⟩ (.inl rfl)
       · rw [hl] at q3
         simp only [Nat.zero_add,Nat.add_zero] at q3
         rw [Nat.add_mul,q3,ht]
       · intro x ob hx hne
         rw [q4 x fun e => hne ⟨_,rfl,e⟩]; exact hx
       · intro x hx
         by_cases e : x = b
         · subst e; rw [q1]; simp
         · rw [q4 x e]; exact hx
 · exact Nat.le_trans (Nat.mul_le_mul_right _ (nextcap_le hlt)) hbig
 · refine hQ _ c' _ ⟨by rw [List.length_append,o.len,hl,Nat.add_mul],hc',.inr ⟨b,_,rfl,by unfold PH.set; rw [if_pos rfl],?_,?_⟩⟩ ?_ (.inr ⟨b,hbn,rfl⟩)
   · simp only [Array.size_append,List.size_toArray,o.len,hl,zeros,Builtin.zeroCells,Array.size_map,Array.size_range,hzs]
     rw [← Nat.add_mul,← Nat.add_mul]
     congr 1
     omega
   · simp only [Array.toList_append]
     rw [List.take_append_of_le_length (by simp [o.len,hl,Nat.add_mul]),List.take_of_length_le (by simp [o.len,hl,Nat.add_mul])]
   · exact (PH.sub_set hbn).step
inductive Tag where
 | other | fld (k : Nat) | watch (k : Nat) | rsn | lits (r : Nat) | cyc (r : Nat)
deriving DecidableEq
structure Sli where
 a : Option Addr
 n : Nat
 c : Nat
abbrev Sli.v (s : Sli) : Value := .slice s.a s.n s.c
theorem Own.keep {M : Nat → Prop} {σ τ : PH} (h : Step M σ τ) {e : TypeId} {size : Nat} {a : Option Addr} {n c : Nat} {vs : List Value} (hm : ∀ p,a = some p → ¬ M p.block) (o : Own σ e size a n c vs) : Own τ e size a n c vs := by
 refine ⟨o.len,o.le,?_⟩
 rcases o.row with h' | ⟨b,arr,rfl,hb,h1,h2⟩
 · exact .inl h'
 · exact .inr ⟨b,arr,rfl,h.same b _ hb (hm _ rfl),h1,h2⟩
theorem Own.known {σ : PH} {e : TypeId} {size : Nat} {a : Option Addr} {n c : Nat} {vs : List Value} (o : Own σ e size a n c vs) {p : Addr} (hp : a = some p) : σ p.block ≠ none := by
 rcases o.row with ⟨rfl,_⟩ | ⟨b,arr,rfl,hb,_⟩
 · cases hp
 · cases hp; rw [hb]; simp
theorem Own.get {σ : PH} {e : TypeId} {size : Nat} {a : Option Addr} {n c : Nat} {vs : List Value} (o : Own σ e size a n c vs) {i : Nat} {v : Value} (hv : vs[i]? = some v) : ∃ p,a = some p ∧ σ.cell? (p.add i) = some v := by
 rcases o.row with ⟨rfl,hc⟩ | ⟨b,arr,rfl,hb,h1,h2⟩
 · have h1 := o.len
   have h2 := o.le
   have : n = 0 := by omega
   subst this
   rw [Nat.zero_mul] at h1
   rw [List.length_eq_zero_iff.1 h1] at hv
   simp at hv
 · refine ⟨_,rfl,?_⟩
   rw [add_off,Nat.zero_add]
   unfold PH.cell?
   rw [hb]
   rw [← h2,List.getElem?_take] at hv
   split at hv
   · simpa using hv
   · cases hv
theorem setCell_at {σ : PH} {b o : Nat} {arr : Array Value} {e : TypeId} {f : Nat × Nat} {v : Value} (h : σ b = some (.cells arr e f)) : (σ.setCell ⟨b,o,none⟩ v) b = some (.cells (arr.setIfInBounds o v) e f) := by
 unfold PH.setCell
 simp only [if_true,h,Option.map_some]
 rfl
theorem setCell_step {σ : PH} {a : Addr} {v : Value} : Step (fun b => b = a.block) σ (σ.setCell a v) := by
 refine ⟨fun b o hb hm => ?_,fun b hb => ?_⟩
 · unfold PH.setCell; rw [if_neg hm]; exact hb
 · intro h; exact hb (setCell_none.1 h)
theorem Own.set {σ : PH} {e : TypeId} {size : Nat} {a : Option Addr} {n c : Nat} {vs : List Value} (o : Own σ e size a n c vs) {i : Nat} (hi : i < vs.length) :
   ∃ p,a = some p ∧ (∃ u,σ.cell? (p.add i) = some u) ∧ σ.froz (p.add i) = some false ∧ (p.add i).block = p.block ∧ ∀ v,Own (σ.setCell (p.add i) v) e size a n c (vs.set i v) := by
 obtain ⟨p,hp,hc⟩ := o.get (i := i) (v := vs[i]) (List.getElem?_eq_getElem hi)
 refine ⟨p,hp,⟨_,hc⟩,?_,add_block p i,fun v => ?_⟩
 · rcases o.row with ⟨rfl,_⟩ | ⟨b,arr,rfl,hb,h1,h2⟩
   · cases hp
   · cases hp
     rw [add_off]; unfold PH.froz; rw [hb]; simp
 · refine ⟨by rw [List.length_set]; exact o.len,o.le,?_⟩
   rcases o.row with ⟨rfl,_⟩ | ⟨b,arr,rfl,hb,h1,h2⟩
   · cases hp
   · cases hp
     refine .inr ⟨b,arr.setIfInBounds i v,rfl,?_,by rw [Array.size_setIfInBounds]; exact h1,?_⟩
     · rw [add_off,Nat.zero_add]; exact setCell_at hb
     · rw [← h2,Array.toList_setIfInBounds,List.take_set]
def OwnT (σ : PH) (T : Nat → Tag) (t : Tag) (e : TypeId) (size : Nat) (s : Sli) (vs : List Value) : Prop := Own σ e size s.a s.n s.c vs ∧ ∀ p,s.a = some p → T p.block = t
theorem OwnT.keep {M : Nat → Prop} {σ τ : PH} (h : Step M σ τ) {T : Nat → Tag} {t : Tag} {e : TypeId} {size : Nat} {s : Sli} {vs : List Value} (hm : ∀ b,T b = t → ¬ M b) (o : OwnT σ T t e size s vs) : OwnT τ T t e size s vs :=
 ⟨o.1.keep h fun p hp => hm _ (o.2 p hp),o.2⟩
theorem OwnT.tag {σ : PH} {T T' : Nat → Tag} (hT : ∀ b,σ b ≠ none → T' b = T b) {t : Tag} {e : TypeId} {size : Nat} {s : Sli} {vs : List Value} (o : OwnT σ T t e size s vs) : OwnT σ T' t e size s vs :=
 ⟨o.1,fun p hp => (hT _ (o.1.known hp)).trans (o.2 p hp)⟩
def Blk (σ : PH) (b : Nat) (e : TypeId) (vs : List Value) : Prop := σ b = some (.cells vs.toArray e (0,0))
theorem Blk.get {σ : PH} {b : Nat} {e : TypeId} {vs : List Value} (h : Blk σ b e vs) {i : Nat} {v : Value} (hv : vs[i]? = some v) : σ.cell? ((Addr.mk b 0 none).add i) = some v := by
 rw [add_off,Nat.zero_add]
 unfold PH.cell?
 rw [h]
 simpa using hv
theorem Blk.froz {σ : PH} {b : Nat} {e : TypeId} {vs : List Value} (h : Blk σ b e vs) (i : Nat) : σ.froz ((Addr.mk b 0 none).add i) = some false := by
 rw [add_off]; unfold PH.froz; rw [h]; simp
theorem Blk.set {σ : PH} {b : Nat} {e : TypeId} {vs : List Value} (h : Blk σ b e vs) (i : Nat) (v : Value) : Blk (σ.setCell ((Addr.mk b 0 none).add i) v) b e (vs.set i v) := by
 rw [add_off,Nat.zero_add]
 unfold Blk
 rw [setCell_at h]
 simp
theorem Blk.keep {M : Nat → Prop} {σ τ : PH} (h : Step M σ τ) {b : Nat} {e : TypeId} {vs : List Value} (hm : ¬ M b) (o : Blk σ b e vs) : Blk τ b e vs := h.same b _ o hm
theorem Blk.known {σ : PH} {b : Nat} {e : TypeId} {vs : List Value} (o : Blk σ b e vs) : σ b ≠ none := by rw [o]; simp
end Go.Sl
namespace Go.Proofs.Ythfnjogadngfiaa
open Go.Sl Go.Sv
structure RL where
 l : Sli
 lits : List Int
 step : Int
 c : Sli
 cyc : List Int
structure Low where
 ff : List Value
 F : Nat → Sli
 V : Nat → List Value
 inp : Nat
 es : Array MapEntry
 clock : Nat
 head : Int
 bump : Nat
 empty : Option Addr
 W : List (Sli × List Int)
 R : Nat → Option RL
def cellsOf (g : Low) : List Value :=
 g.ff ++ [(g.F 4).v,.map (some g.inp),(g.F 6).v,(g.F 7).v,(g.F 8).v,(g.F 9).v,(g.F 10).v,(g.F 11).v,(g.F 12).v,.int .i64 g.head,(g.F 14).v,.float .f64 g.bump,.pointer g.empty,(g.F 17).v]
def fty : Nat → Option (Nat × Nat)
 | 4 => some (95,6) | 6 => some (84,1) | 7 => some (33,1) | 8 => some (3,1) | 9 => some (3,1) | 10 => some (84,1) | 11 => some (3,1) | 12 => some (3,1) | 14 => some (83,1) | 17 => some (84,1)
 | _ => none
def ints (l : List Int) : List Value := l.map (.int .i64)
structure Sol (σ : PH) (T : Nat → Tag) (s : Nat) (g : Low) : Prop where
 ff : g.ff.length = 4
 blk : Blk σ s 86 (cellsOf g)
 tag : T s = .fld 0
 fld : ∀ k e size,fty k = some (e,size) → OwnT σ T (.fld k) e size (g.F k) (g.V k)
 map : σ g.inp = some (.map g.es g.clock)
 mtag : T g.inp = .fld 5
 keys : IntKeys .i64 g.es
 wv : g.V 7 = g.W.map (·.1.v)
 wat : ∀ i sl l,g.W[i]? = some (sl,l) → OwnT σ T (.watch i) 3 1 sl (ints l)
 rblk : ∀ r x,g.R r = some x → Blk σ r 102 [x.l.v,.int .i64 x.step,x.c.v]
 rtag : ∀ r x,g.R r = some x → T r = .rsn
 rl : ∀ r x,g.R r = some x → OwnT σ T (.lits r) 3 1 x.l (ints x.lits)
 rc : ∀ r x,g.R r = some x → OwnT σ T (.cyc r) 3 1 x.c (ints x.cyc)
structure Did (σ : PH) (T : Nat → Tag) (τ : PH) (T' : Nat → Tag) : Prop where
 step : Step (fun b => T b ≠ .other) σ τ
 tags : ∀ b,σ b ≠ none → T' b = T b
theorem Did.refl (σ : PH) (T : Nat → Tag) : Did σ T σ T := ⟨.refl _,fun _ _ => rfl⟩
theorem Did.trans {σ τ υ : PH} {T T' T'' : Nat → Tag} (h : Did σ T τ T') (h' : Did τ T' υ T'') : Did σ T υ T'' := by
 refine ⟨⟨fun b o hb hm => ?_,fun b hb => h'.step.dom b (h.step.dom b hb)⟩,fun b hb => (h'.tags b (h.step.dom b hb)).trans (h.tags b hb)⟩
 refine h'.step.same b o (h.step.same b o hb hm) ?_
 rw [h.tags b (by rw [hb]; simp)]
 exact hm
theorem Sol.keep {M : Nat → Prop} {σ τ : PH} {T : Nat → Tag} {s : Nat} {g : Low} (h : Sol σ T s g) (hs : Step M σ τ) (hm : ∀ b,T b ≠ .other → ¬ M b) : Sol τ T s g where
 ff := h.ff
 blk := h.blk.keep hs (hm s (by rw [h.tag]; simp))
 tag := h.tag
 fld k e size hk := (h.fld k e size hk).keep hs fun b hb => hm b (by rw [hb]; simp)
 map := hs.same _ _ h.map (hm _ (by rw [h.mtag]; simp))
 mtag := h.mtag
 keys := h.keys
 wv := h.wv
 wat i sl l hi := (h.wat i sl l hi).keep hs fun b hb => hm b (by rw [hb]; simp)
 rblk r x hr := (h.rblk r x hr).keep hs (hm r (by rw [h.rtag r x hr]; simp))
 rtag := h.rtag
 rl r x hr := (h.rl r x hr).keep hs fun b hb => hm b (by rw [hb]; simp)
 rc r x hr := (h.rc r x hr).keep hs fun b hb => hm b (by rw [hb]; simp)
theorem Sol.retag {σ : PH} {T T' : Nat → Tag} {s : Nat} {g : Low} (h : Sol σ T s g) (hT : ∀ b,σ b ≠ none → T' b = T b) : Sol σ T' s g where
 ff := h.ff
 blk := h.blk
 tag := (hT s h.blk.known).trans h.tag
 fld k e size hk := (h.fld k e size hk).tag hT
 map := h.map
 mtag := (hT _ (by rw [h.map]; simp)).trans h.mtag
 keys := h.keys
 wv := h.wv
 wat i sl l hi := (h.wat i sl l hi).tag hT
 rblk := h.rblk
 rtag r x hr := (hT r (h.rblk r x hr).known).trans (h.rtag r x hr)
 rl r x hr := (h.rl r x hr).tag hT
 rc r x hr := (h.rc r x hr).tag hT
def Low.setV (g : Low) (k : Nat) (vs : List Value) : Low := { g with V := fun j => if j = k then vs else g.V j }
theorem Sol.setAt {σ : PH} {T : Nat → Tag} {s : Nat} {g : Low} (h : Sol σ T s g) {k e size : Nat} (hk : fty k = some (e,size)) (h7 : k ≠ 7) {i : Nat} (hi : i < (g.V k).length) :
   ∃ p,(g.F k).a = some p ∧ (∃ u,σ.cell? (p.add i) = some u) ∧ σ.froz (p.add i) = some false ∧ ∀ v,Sol (σ.setCell (p.add i) v) T s (g.setV k ((g.V k).set i v)) ∧ Did σ T (σ.setCell (p.add i) v) T := by
 have hO := h.fld k e size hk
 obtain ⟨p,hp,h1,h2,hb,h3⟩ := hO.1.set hi
 refine ⟨p,hp,h1,h2,fun v => ?_⟩
 have hst : Step (fun b => b = (p.add i).block) σ (σ.setCell (p.add i) v) := setCell_step
 have htp : T (p.add i).block = .fld k := by rw [hb]; exact hO.2 p hp
 have ne : ∀ b t,T b = t → t ≠ .fld k → ¬ b = (p.add i).block := by
   rintro b t h1 h2 rfl
   exact h2 (h1.symm.trans htp)
 have k0 : k ≠ 0 := by rintro rfl; cases hk
 have k5 : k ≠ 5 := by rintro rfl; cases hk
 refine ⟨⟨h.ff,h.blk.keep hst (ne s _ h.tag (by simp [Ne.symm k0])),h.tag,fun j e' size' hj => ?_,hst.same _ _ h.map (ne _ _ h.mtag (by simp [Ne.symm k5])),h.mtag,h.keys,?_,fun j sl l hj => (h.wat j sl l hj).keep hst fun b hb => ne b _ hb (by simp),
   fun r x hr => (h.rblk r x hr).keep hst (ne r _ (h.rtag r x hr) (by simp)),h.rtag,fun r x hr => (h.rl r x hr).keep hst fun b hb => ne b _ hb (by simp),fun r x hr => (h.rc r x hr).keep hst fun b hb => ne b _ hb (by simp)⟩,hst.weaken ?_,fun _ _ => rfl⟩
 · by_cases e1 : j = k
   · subst e1
     rw [hk] at hj
     cases hj
     refine ⟨?_,hO.2⟩
     show Own _ e size _ _ _ (if j = j then _ else _)
     rw [if_pos rfl]
     exact h3 v
   · have := (h.fld j e' size' hj).keep hst fun b hb => ne b _ hb (by simpa using e1)
     show OwnT _ _ _ _ _ _ (if j = k then _ else _)
     rw [if_neg e1]
     exact this
 · show (if 7 = k then _ else g.V 7) = _
   rw [if_neg (Ne.symm h7)]
   exact h.wv
 · rintro b rfl
   rw [htp]; simp
def tagAt (T : Nat → Tag) (a : Option Addr) (t : Tag) (b : Nat) : Tag := match a with | some p => if b = p.block then t else T b | none => T b
theorem tagAt_self {T : Nat → Tag} {p : Addr} {t : Tag} : tagAt T (some p) t p.block = t := by simp [tagAt]
theorem tagAt_other {T : Nat → Tag} {a : Option Addr} {t : Tag} {b : Nat} (h : ∀ p,a = some p → b = p.block → T b = t) : tagAt T a t b = T b := by
 unfold tagAt
 split
 · split
   · rename_i p e; exact (h p rfl e).symm
   · rfl
 · rfl
def Low.setF (g : Low) (k : Nat) (sl : Sli) (vs : List Value) : Low := { g with F := fun j => if j = k then sl else g.F j,V := fun j => if j = k then vs else g.V j }
theorem cellsOf_setF {g : Low} (hff : g.ff.length = 4) {k e size : Nat} (hk : fty k = some (e,size)) (sl : Sli) (vs : List Value) : cellsOf (g.setF k sl vs) = (cellsOf g).set k sl.v := by
 obtain ⟨ff,F,V,inp,es,clock,head,bump,empty,W,R⟩ := g
 match ff,hff with
 | [a,b,c,d],_ =>
   unfold fty at hk
   split at hk <;> first | rfl | cases hk
theorem cellsOf_F {g : Low} (hff : g.ff.length = 4) {k e size : Nat} (hk : fty k = some (e,size)) : (cellsOf g)[k]? = some (g.F k).v := by
 obtain ⟨ff,F,V,inp,es,clock,head,bump,empty,W,R⟩ := g
 match ff,hff with
 | [a,b,c,d],_ =>
   unfold fty at hk
   split at hk <;> first | rfl | cases hk
theorem Sol.field {σ : PH} {T : Nat → Tag} {s : Nat} {g : Low} (h : Sol σ T s g) {k e size : Nat} (hk : fty k = some (e,size)) : σ.cell? ((Addr.mk s 0 none).add k) = some (.slice (g.F k).a (g.F k).n (g.F k).c) :=
 h.blk.get (cellsOf_F h.ff hk)
theorem Sol.appendF {σ : PH} {T : Nat → Tag} {s : Nat} {g : Low} (h : Sol σ T s g) {k e size bytes : Nat} {z : Value} (hk : fty k = some (e,size)) (h7 : k ≠ 7)
   (hs : sizeT prog e = some size) (hb : bytesT prog e = some bytes) (hz : zeroT prog e = some z) (hzs : z.cells.size = size) (h0 : bytes ≠ 0) {xb : Option Addr} {m mc : Nat} {news : List Value}
   (hr : readsRow σ xb news) (hl : news.length = m * size) (hp : ∀ v ∈ news,Go.Sl.plainCell v) (hbig : (((g.F k).n + m) + ((g.F k).n + m) / 4 + 256) * bytes ≤ 2 ^ 48) {Q : Value → PH → Prop}
   (hQ : ∀ a' c' τ,(∃ u,τ.cell? ((Addr.mk s 0 none).add k) = some u) → τ.froz ((Addr.mk s 0 none).add k) = some false →
     (∃ T',Sol (τ.setCell ((Addr.mk s 0 none).add k) (.slice a' ((g.F k).n + m) c')) T' s (g.setF k ⟨a',(g.F k).n + m,c'⟩ (g.V k ++ news)) ∧ Did σ T (τ.setCell ((Addr.mk s 0 none).add k) (.slice a' ((g.F k).n + m) c')) T') → Q (.slice a' ((g.F k).n + m) c') τ) :
   iappend prog e (.slice (g.F k).a (g.F k).n (g.F k).c) (.slice xb m mc) Q σ := by
 have hO := h.fld k e size hk
 have k0 : k ≠ 0 := by rintro rfl; cases hk
 have k5 : k ≠ 5 := by rintro rfl; cases hk
 refine Own.append hs hb hz hzs h0 hO.1 hr hl hp hbig fun a' c' τ hO' hst hnew => ?_
 have hst' : Step (fun b => T b = .fld k) σ τ := hst.weaken fun b ⟨p,h1,h2⟩ => h2 ▸ hO.2 p h1
 have hblk : Blk τ s 86 (cellsOf g) := h.blk.keep hst' (by rw [h.tag]; simp [Ne.symm k0])
 refine hQ a' c' τ ⟨_,hblk.get (cellsOf_F h.ff hk)⟩ (hblk.froz k) ?_
 obtain ⟨T',hT,hTn⟩ : ∃ T' : Nat → Tag,(∀ b,σ b ≠ none → T' b = T b) ∧ ∀ p,a' = some p → T' p.block = .fld k := by
   refine ⟨tagAt T a' (.fld k),fun b hbn => tagAt_other fun p hp' e1 => ?_,fun p hp' => by rw [hp']; exact tagAt_self⟩
   subst e1
   rcases hnew with h1 | ⟨b',h1,h2⟩
   · exact hO.2 p (h1 ▸ hp')
   · rw [hp'] at h2
     cases h2
     exact absurd h1 hbn
 have hR := h.retag hT
 have hsb : ((Addr.mk s 0 none).add k).block = s := add_block _ _
 have hs1 : Step (fun b => T' b = .fld k) σ τ := ⟨fun b o hb' hm => hst'.same b o hb' (by rw [← hT b (by rw [hb']; simp)]; exact hm),hst'.dom⟩
 have hs2 : Step (fun b => b = s) τ (τ.setCell ((Addr.mk s 0 none).add k) (.slice a' ((g.F k).n + m) c')) := setCell_step.weaken fun b hb' => hb'.trans hsb
 have hall : Step (fun b => T' b = .fld k ∨ b = s) σ (τ.setCell ((Addr.mk s 0 none).add k) (.slice a' ((g.F k).n + m) c')) := (hs1.weaken fun b h => .inl h).trans (hs2.weaken fun b h => .inr h)
 have ne : ∀ b t,T' b = t → t ≠ .fld k → t ≠ .fld 0 → ¬ (T' b = .fld k ∨ b = s) := by
   rintro b t h1 h2 h3 (h4 | rfl)
   · exact h2 (h1.symm.trans h4)
   · exact h3 (h1.symm.trans hR.tag)
 refine ⟨T',⟨h.ff,?_,hR.tag,fun j e' size' hj => ?_,hall.same _ _ h.map (ne _ _ hR.mtag (by simp [Ne.symm k5]) (by simp)),hR.mtag,h.keys,?_,fun j sl l hj => (hR.wat j sl l hj).keep hall fun b hb => ne b _ hb (by simp) (by simp),
   fun r x hr => (h.rblk r x hr).keep hall (ne r _ (hR.rtag r x hr) (by simp) (by simp)),hR.rtag,fun r x hr => (hR.rl r x hr).keep hall fun b hb => ne b _ hb (by simp) (by simp),fun r x hr => (hR.rc r x hr).keep hall fun b hb => ne b _ hb (by simp) (by simp)⟩,?_,hT⟩
 · rw [cellsOf_setF h.ff hk]
   exact hblk.set k _
 · by_cases e1 : j = k
   · subst e1
     rw [hk] at hj
     cases hj
     show Own _ e size (if j = j then _ else _ : Sli).a _ _ (if j = j then _ else _) ∧ _
     refine ⟨?_,?_⟩
     · rw [if_pos rfl]
       rw [show (g.setF j ⟨a',(g.F j).n + m,c'⟩ (g.V j ++ news)).F j = ⟨a',(g.F j).n + m,c'⟩ from if_pos rfl]
       rw [if_pos rfl]
       refine hO'.keep hs2 fun p hp' => ?_
       intro e2
       have := hTn p hp'
       rw [e2,hR.tag] at this
       exact k0 (by cases this; rfl)
     · rw [show (g.setF j ⟨a',(g.F j).n + m,c'⟩ (g.V j ++ news)).F j = ⟨a',(g.F j).n + m,c'⟩ from if_pos rfl]
       exact hTn
   · have j0 : j ≠ 0 := by rintro rfl; cases hj
     have := (hR.fld j e' size' hj).keep hall fun b hb => ne b _ hb (by simpa using e1) (by simpa using j0)
     show OwnT _ _ _ _ _ (if j = k then _ else _) (if j = k then _ else _)
     rw [if_neg e1,if_neg e1]
     exact this
 · show (if 7 = k then _ else g.V 7) = _
   rw [if_neg (Ne.symm h7)]
   exact h.wv
 · refine ⟨fun b o hb' hm => hall.same b o hb' ?_,hall.dom⟩
   rintro (h1 | rfl)
   · rw [hT b (by rw [hb']; simp)] at h1
     rw [h1] at hm; exact hm (by simp)
   · rw [h.tag] at hm; exact hm (by simp)
theorem Sol.len {σ : PH} {T : Nat → Tag} {s : Nat} {g : Low} (h : Sol σ T s g) {k e : Nat} (hk : fty k = some (e,1)) : (g.V k).length = (g.F k).n := by
 have := (h.fld k e 1 hk).1.len; omega
theorem t3 : sizeT prog 3 = some 1 ∧ bytesT prog 3 = some 8 ∧ zeroT prog 3 = some (.int .i64 0) := ⟨by kernel_rfl,by kernel_rfl,by kernel_rfl⟩
theorem Sol.fresh {σ : PH} {T : Nat → Tag} {s : Nat} {g : Low} (h : Sol σ T s g) {b : Nat} (hb : σ b = none) (o : Obj) : ∃ T',Sol (σ.set b o) T' s g ∧ Did σ T (σ.set b o) T' ∧ T' b = .other := by
 have hT : ∀ x,σ x ≠ none → (if x = b then Tag.other else T x) = T x := fun x hx => if_neg (by rintro rfl; exact hx hb)
 exact ⟨fun x => if x = b then .other else T x,(h.retag hT).keep (M := fun _ => False) (PH.sub_set hb).step (fun _ _ h => h),⟨(PH.sub_set hb).step,hT⟩,if_pos rfl⟩
theorem c54 {σ : PH} {T : Nat → Tag} {s : Nat} {g : Low} (h : Sol σ T s g) {lit : Int} (hl : Lit lit) (h0 : lit ≠ 0) (r : Option Addr) (h8 : (idx lit / 2).toNat < (g.V 8).length) (h9 : (idx lit / 2).toNat < (g.V 9).length)
   (h10 : (idx lit / 2).toNat < (g.V 10).length) (h11 : (g.F 11).n ≤ 1000000) :
   C 54 #[.pointer (some ⟨s,0,none⟩),.int .i64 lit,.pointer r] (fun v τ => v = .tuple #[] ∧ ∃ T' sl,Did σ T τ T' ∧ sl.n = (g.F 11).n + 1 ∧
     Sol τ T' s ((((g.setV 8 ((g.V 8).set (idx lit / 2).toNat (.int .i64 (sgn lit)))).setV 9 ((g.V 9).set (idx lit / 2).toNat (.int .i64 (g.F 12).n))).setV 10 ((g.V 10).set (idx lit / 2).toNat (.pointer r))).setF 11 sl (g.V 11 ++ [.int .i64 lit]))) σ := by
 refine go (E54_0 _ _ _ _ _ _) ?_
 unfold S54_0
 refine (c74 hl h0 σ).mono hb ?_
 rintro _ σ ⟨rfl,rfl⟩
 have hi : 0 ≤ idx lit / 2 := by unfold Lit at hl; unfold idx; split <;> omega
 have l8 := h.len (k := 8) rfl
 have l9 := h.len (k := 9) rfl
 have l10 := h.len (k := 10) rfl
 simp only [Nat.mul_one]
 obtain ⟨p,hp,hu,hf,hset⟩ := h.setAt (k := 8) rfl (by decide) h8
 refine ⟨_,PH.sub.refl _,_,rfl,_,rfl,_,h.field (k := 8) rfl,_,_,_,rfl,p,hp,hi,by omega,hu,hf,?_⟩
 have tail : ∀ σ1,Sol σ1 T s (g.setV 8 ((g.V 8).set (idx lit / 2).toNat (.int .i64 (sgn lit)))) → Did σ T σ1 T → S54_1 C (fun v τ => v = .tuple #[] ∧ ∃ T' sl,Did σ T τ T' ∧ sl.n = (g.F 11).n + 1 ∧
     Sol τ T' s ((((g.setV 8 ((g.V 8).set (idx lit / 2).toNat (.int .i64 (sgn lit)))).setV 9 ((g.V 9).set (idx lit / 2).toNat (.int .i64 (g.F 12).n))).setV 10 ((g.V 10).set (idx lit / 2).toNat (.pointer r))).setF 11 sl (g.V 11 ++ [.int .i64 lit])))
     (some ⟨s,0,none⟩) lit r (idx lit / 2) σ1 := by
   intro σ1 H1 D1
   unfold S54_1
   simp only [Nat.mul_one]
   obtain ⟨p9,hp9,hu9,hf9,hs9⟩ := H1.setAt (k := 9) rfl (by decide) h9
   obtain ⟨H2,D2⟩ := hs9 (.int .i64 (g.F 12).n)
   obtain ⟨p10,hp10,hu10,hf10,hs10⟩ := H2.setAt (k := 10) rfl (by decide) h10
   obtain ⟨H3,D3⟩ := hs10 (.pointer r)
   refine ⟨_,rfl,_,H1.field (k := 9) rfl,_,_,_,rfl,_,rfl,_,H1.field (k := 10) rfl,_,_,_,rfl,_,rfl,_,H1.field (k := 12) rfl,_,_,_,rfl,p9,hp9,hi,by rw [show (g.setV 8 ((g.V 8).set (idx lit / 2).toNat (.int .i64 (sgn lit)))).F 9 = g.F 9 from rfl]; omega,hu9,hf9,
     p10,hp10,hi,by rw [show (g.setV 8 ((g.V 8).set (idx lit / 2).toNat (.int .i64 (sgn lit)))).F 10 = g.F 10 from rfl]; omega,hu10,hf10,_,rfl,_,H3.field (k := 11) rfl,_,_,_,rfl,fun b hbn => ?_⟩
   obtain ⟨T4,H4,D4,_⟩ := H3.fresh hbn (.cells #[.int .i64 lit] 3)
   refine H4.appendF (k := 11) rfl (by decide) t3.1 t3.2.1 t3.2.2 rfl (by decide) (news := [.int .i64 lit]) ?_ rfl ?_ ?_ ?_
   · exact rowAt_of (b := b) (arr := #[.int .i64 lit]) (e := 3) (f := (0,0)) (by unfold PH.set; rw [if_pos rfl]) _ 0 0 (fun j v hv => by simpa using hv)
   · intro v hv; simp at hv; subst hv; trivial
   · show ((g.F 11).n + 1 + ((g.F 11).n + 1) / 4 + 256) * 8 ≤ _
     omega
   · rintro a' c' τ q1 q2 ⟨T5,H5,D5⟩
     exact ⟨_,_,_,rfl,_,rfl,q1,q2,trivial,T5,_,(D1.trans (D2.trans (D3.trans (D4.trans D5)))),rfl,H5⟩
 refine br_dec.2 ⟨fun hneg => ?_,fun hneg => ?_⟩
 · obtain ⟨H1,D1⟩ := hset (.int .i64 1)
   have hlen : (idx lit / 2).toNat < ((g.setV 8 ((g.V 8).set (idx lit / 2).toNat (.int .i64 1))).V 8).length := by
     simp only [Low.setV,if_true,List.length_set]; exact h8
   obtain ⟨p',hp',hu',hf',hset'⟩ := H1.setAt (k := 8) rfl (by decide) hlen
   refine ⟨_,rfl,_,H1.field (k := 8) rfl,_,_,_,rfl,p',hp',hi,by rw [show (g.setV 8 ((g.V 8).set (idx lit / 2).toNat (.int .i64 1))).F 8 = g.F 8 from rfl]; omega,hu',hf',?_⟩
   obtain ⟨H2,D2⟩ := hset' (.int .i64 (-1))
   have e : (g.setV 8 ((g.V 8).set (idx lit / 2).toNat (.int .i64 1))).setV 8 (((g.setV 8 ((g.V 8).set (idx lit / 2).toNat (.int .i64 1))).V 8).set (idx lit / 2).toNat (.int .i64 (-1))) = g.setV 8 ((g.V 8).set (idx lit / 2).toNat (.int .i64 (sgn lit))) := by
     unfold Low.setV sgn
     simp only [if_pos hneg]
     congr 1
     funext j
     by_cases hj : j = 8 <;> simp [hj]
   rw [e] at H2
   exact tail _ H2 (D1.trans D2)
 · obtain ⟨H1,D1⟩ := hset (.int .i64 1)
   rw [show (1 : Int) = sgn lit from (if_neg hneg).symm] at H1 D1 ⊢
   exact tail _ H1 D1
theorem t95 : sizeT prog 95 = some 6 ∧ bytesT prog 95 = some 64 ∧ zeroT prog 95 = some (.agg #[.int .i64 0,.int .i64 0,.slice none 0 0,.int .i64 0,.int .i64 0,.int .i64 0]) := ⟨by kernel_rfl,by kernel_rfl,by kernel_rfl⟩
structure Stp where
 kind : Int
 index : Int
 l : Sli
 p : Int
 q : Int
 v : Int
abbrev Stp.cells (x : Stp) : List Value := [.int .i64 x.kind,.int .i64 x.index,x.l.v,.int .i64 x.p,.int .i64 x.q,.int .i64 x.v]
theorem c72 {σ : PH} {T : Nat → Tag} {s : Nat} {g : Low} (h : Sol σ T s g) (x : Stp) (h4 : (g.F 4).n ≤ 3500000000000) :
   C 72 #[.pointer (some ⟨s,0,none⟩),.agg #[.int .i64 x.kind,.int .i64 x.index,.slice x.l.a x.l.n x.l.c,.int .i64 x.p,.int .i64 x.q,.int .i64 x.v]] (fun v τ => v = .int .i64 (g.F 4).n ∧ ∃ T' sl,Did σ T τ T' ∧ sl.n = (g.F 4).n + 1 ∧
     Sol τ T' s (g.setF 4 sl (g.V 4 ++ x.cells))) σ := by
 refine go (E72_0 _ _ _ _ _ _ _ _ _ _ _ _) ?_
 unfold S72_0
 intro b1 hb1
 obtain ⟨T1,H1,D1,_⟩ := h.fresh hb1 (.cells x.cells.toArray 95)
 have B : Blk (σ.set b1 (.cells x.cells.toArray 95)) b1 95 x.cells := by unfold Blk PH.set; rw [if_pos rfl]
 refine ⟨_,rfl,_,H1.field (k := 4) rfl,_,_,_,rfl,_,B.get (i := 0) rfl,_,B.get (i := 1) rfl,_,B.get (i := 2) rfl,_,B.get (i := 3) rfl,_,B.get (i := 4) rfl,_,B.get (i := 5) rfl,_,_,_,_,_,_,_,_,rfl,?_⟩
 intro b2 hb2
 obtain ⟨T2,H2,D2,_⟩ := H1.fresh hb2 (.cells x.cells.toArray 95)
 have B2 : ((σ.set b1 (.cells x.cells.toArray 95)).set b2 (.cells x.cells.toArray 95)) b2 = some (.cells x.cells.toArray 95) := by
   conv => lhs; unfold PH.set
   rw [if_pos rfl]
 refine H2.appendF (k := 4) rfl (by decide) t95.1 t95.2.1 t95.2.2 rfl (by decide) (news := x.cells) ?_ rfl ?_ ?_ ?_
 · exact rowAt_of (b := b2) (arr := x.cells.toArray) (e := 95) (f := (0,0)) B2 _ 0 0 (fun j v hv => by simpa using hv)
 · intro v hv; simp at hv; rcases hv with rfl | rfl | rfl | rfl | rfl | rfl <;> trivial
 · omega
 · rintro a' c' τ q1 q2 ⟨T5,H5,D5⟩
   refine ⟨_,_,_,rfl,_,rfl,q1,q2,_,rfl,_,H5.field (k := 4) rfl,_,_,_,rfl,?_,T5,_,D1.trans (D2.trans D5),rfl,H5⟩
   show Value.int .i64 (IntKind.wrap .i64 ((((g.F 4).n + 1 : Nat) : Int) - 1)) = _
   rw [w64 (by omega) (by omega)]
   congr 1
   omega
end Go.Proofs.Ythfnjogadngfiaa
namespace Go.Sl
def LKeys (k : IntKind) (l : List MapEntry) : Prop := ∀ e ∈ l,∃ n,e.key = .int k n
theorem mIdx_shift {n : Int} : ∀ (l : List MapEntry) (i : Nat),mIdx n l i = (mIdx n l 0).map fun x => (x.1 + i,x.2)
 | [],i => rfl
 | e :: l,i => by
   unfold mIdx
   cases e.key <;> try rfl
   dsimp only
   split
   · simp
   · rw [mIdx_shift l (i + 1),mIdx_shift l 1,Option.map_map]
     congr 1
     funext x
     simp
     omega
def lput (k : IntKind) (n : Int) (v : Value) (clock : Nat) : List MapEntry → List MapEntry
 | [] => [{ key := .int k n,val := v,born := clock }]
 | e :: l => match e.key with
   | .int _ m => (match n == m with | true => { e with key := .int k n,val := v } :: l | false => e :: lput k n v clock l)
   | _ => e :: lput k n v clock l
theorem lput_find {k : IntKind} {n : Int} {v : Value} {clock : Nat} : ∀ {l : List MapEntry},LKeys k l → ∀ m,(mIdx m (lput k n v clock l) 0).map (·.2) = if m = n then some v else (mIdx m l 0).map (·.2)
 | [],_,m => by
   simp only [lput,mIdx]
   by_cases e : m = n
   · simp [e]
   · have : (m == n) = false := by simpa using e
     simp [this,e]
 | e :: l,hk,m => by
   obtain ⟨q,hq⟩ := hk e List.mem_cons_self
   have ih := lput_find (v := v) (n := n) (clock := clock) (l := l) (fun e he => hk e (List.mem_cons_of_mem _ he)) m
   have sh : ∀ l' : List MapEntry,(mIdx m l' 1).map (·.2) = (mIdx m l' 0).map (·.2) := by
     intro l'; rw [mIdx_shift l' 1,Option.map_map]; rfl
   unfold lput
   simp only [hq]
   split
   · rename_i h1
     have h1 : n = q := by simpa using h1
     subst h1
     simp only [mIdx,hq]
     by_cases e1 : m = n
     · simp [e1]
     · have : (m == n) = false := by simpa using e1
       simp [this,e1]
   · rename_i h1
     have h1 : n ≠ q := by simpa using h1
     simp only [mIdx,hq]
     by_cases e1 : m = q
     · subst e1; simp [Ne.symm h1]
     · have : (m == q) = false := by simpa using e1
       simp only [this]
       rw [sh,sh,ih]
theorem lput_keys {k : IntKind} {n : Int} {v : Value} {clock : Nat} : ∀ {l : List MapEntry},LKeys k l → LKeys k (lput k n v clock l)
 | [],_ => by intro e he; simp [lput] at he; subst he; exact ⟨n,rfl⟩
 | e :: l,hk => by
   obtain ⟨q,hq⟩ := hk e List.mem_cons_self
   have ih := lput_keys (v := v) (n := n) (clock := clock) (l := l) (fun e he => hk e (List.mem_cons_of_mem _ he))
   unfold lput
   simp only [hq]
   split
   · intro x hx
     rcases List.mem_cons.1 hx with rfl | hx
     · exact ⟨n,rfl⟩
     · exact hk x (List.mem_cons_of_mem _ hx)
   · intro x hx
     rcases List.mem_cons.1 hx with rfl | hx
     · exact ⟨q,hq⟩
     · exact ih x hx
theorem lput_idx {k : IntKind} {n : Int} {v : Value} {clock : Nat} : ∀ {l : List MapEntry},LKeys k l → lput k n v clock l = (match mIdx n l 0 with
   | some (i,_) => l.modify i fun e => { e with key := .int k n,val := v }
   | none => l ++ [{ key := .int k n,val := v,born := clock }])
 | [],_ => rfl
 | e :: l,hk => by
   obtain ⟨q,hq⟩ := hk e List.mem_cons_self
   have ih := lput_idx (v := v) (n := n) (clock := clock) (l := l) (fun e he => hk e (List.mem_cons_of_mem _ he))
   unfold lput mIdx
   simp only [hq]
   cases h1 : n == q with
   | true => simp
   | false =>
     dsimp only
     rw [mIdx_shift l 1,ih]
     cases mIdx n l 0 with
     | none => rfl
     | some x => obtain ⟨i,u⟩ := x; simp
theorem mput_eq {k : IntKind} {n : Int} {v : Value} {es : Array MapEntry} {clock : Nat} (hk : IntKeys k es) : ∃ es' clock',mput es clock k n v = .map es' clock' ∧ IntKeys k es' ∧ (∀ m,mfind m es' = if m = n then some v else mfind m es) := by
 have h := lput_idx (v := v) (n := n) (clock := clock) (l := es.toList) hk
 have hf := lput_find (v := v) (n := n) (clock := clock) (l := es.toList) hk
 have hk' := lput_keys (v := v) (n := n) (clock := clock) (l := es.toList) hk
 unfold mput
 cases hm : mIdx n es.toList 0 with
 | none =>
   rw [hm] at h
   dsimp only at h
   refine ⟨_,_,rfl,?_,?_⟩
   · unfold IntKeys; rw [Array.toList_push,← h]; exact hk'
   · intro m; unfold mfind; rw [Array.toList_push,← h]; exact hf m
 | some x =>
   obtain ⟨i,u⟩ := x
   rw [hm] at h
   dsimp only at h
   refine ⟨_,_,rfl,?_,?_⟩
   · unfold IntKeys; rw [Array.toList_modify,← h]; exact hk'
   · intro m; unfold mfind; rw [Array.toList_modify,← h]; exact hf m
end Go.Sl
namespace Go.Proofs.Ythfnjogadngfiaa
open Go.Sl Go.Sv
theorem set_step {σ : PH} {c : Nat} {o : Obj} : Step (fun b => b = c) σ (σ.set c o) :=
 ⟨fun b o' hb hm => by unfold PH.set; rw [if_neg hm]; exact hb,fun b hb => by unfold PH.set; split <;> simp_all⟩
theorem Sol.setMap {σ : PH} {T : Nat → Tag} {s : Nat} {g : Low} (h : Sol σ T s g) {es' : Array MapEntry} {ck' : Nat} (hk : IntKeys .i64 es') :
   Sol (σ.set g.inp (.map es' ck')) T s { g with es := es',clock := ck' } ∧ Did σ T (σ.set g.inp (.map es' ck')) T := by
 have hst : Step (fun b => b = g.inp) σ (σ.set g.inp (.map es' ck')) := set_step
 have ne : ∀ b t,T b = t → t ≠ .fld 5 → ¬ b = g.inp := by
   rintro b t h1 h2 rfl
   exact h2 (h1.symm.trans h.mtag)
 refine ⟨⟨h.ff,h.blk.keep hst (ne s _ h.tag (by simp)),h.tag,fun j e size hj => (h.fld j e size hj).keep hst fun b hb => ne b _ hb ?_,by unfold PH.set; rw [if_pos rfl],h.mtag,hk,h.wv,fun j sl l hj => (h.wat j sl l hj).keep hst fun b hb => ne b _ hb (by simp),
   fun r x hr => (h.rblk r x hr).keep hst (ne r _ (h.rtag r x hr) (by simp)),h.rtag,fun r x hr => (h.rl r x hr).keep hst fun b hb => ne b _ hb (by simp),fun r x hr => (h.rc r x hr).keep hst fun b hb => ne b _ hb (by simp)⟩,hst.weaken ?_,fun _ _ => rfl⟩
 · rintro e1
   cases e1
   cases hj
 · rintro b rfl
   rw [h.mtag]; simp
theorem cellsOf_5 {g : Low} (hff : g.ff.length = 4) : (cellsOf g)[5]? = some (.map (some g.inp)) := by
 obtain ⟨ff,F,V,inp,es,clock,head,bump,empty,W,R⟩ := g
 match ff,hff with
 | [a,b,c,d],_ => rfl
theorem Sol.field5 {σ : PH} {T : Nat → Tag} {s : Nat} {g : Low} (h : Sol σ T s g) : σ.cell? ((Addr.mk s 0 none).add 5) = some (.map (some g.inp)) := h.blk.get (cellsOf_5 h.ff)
theorem c51 {σ : PH} {T : Nat → Tag} {s : Nat} {g : Low} (h : Sol σ T s g) (i : Int) (hn : mfind i g.es = none) (h4 : (g.F 4).n ≤ 3500000000000) :
   C 51 #[.pointer (some ⟨s,0,none⟩),.int .i64 i] (fun v τ => v = .int .i64 (g.F 4).n ∧ ∃ T' sl es' ck',Did σ T τ T' ∧ sl.n = (g.F 4).n + 1 ∧ IntKeys .i64 es' ∧ (∀ m,mfind m es' = if m = i then some (.int .i64 (g.F 4).n) else mfind m g.es) ∧
     Sol τ T' s { g.setF 4 sl (g.V 4 ++ (Stp.mk 1 i ⟨none,0,0⟩ 0 0 0).cells) with es := es',clock := ck' }) σ := by
 refine go (E51_0 _ _ _ _ _) ?_
 unfold S51_0
 refine ⟨_,rfl,_,h.field5,_,rfl,_,rfl,_,_,h.map,h.keys,0,by rw [hn]; rfl,br_true (by rw [hn]; rfl) ?_⟩
 refine ⟨_,rfl,_,h.field5,_,rfl,?_⟩
 refine (c72 h ⟨1,i,⟨none,0,0⟩,0,0,0⟩ h4).mono hb ?_
 rintro _ τ ⟨rfl,T',sl,D,hsl,H⟩
 obtain ⟨es',ck',e1,e2,e3⟩ := mput_eq (k := .i64) (n := i) (v := .int .i64 (g.F 4).n) (clock := g.clock) h.keys
 obtain ⟨H2,D2⟩ := H.setMap (ck' := ck') e2
 refine ⟨τ,PH.sub.refl _,?_,_,rfl,g.inp,rfl,g.es,g.clock,H.map,h.keys,?_⟩
 · have q1 := H.field5
   have q2 := h.field5
   rw [add_off] at q1 q2 ⊢
   exact q1.trans q2.symm
 · rw [e1]
   refine ⟨_,rfl,_,H2.field5,_,rfl,g.inp,rfl,es',ck',?_,e2,(g.F 4).n,?_,rfl,T',sl,es',ck',D.trans D2,hsl,e2,e3,H2⟩
   · unfold PH.set; rw [if_pos rfl]
   · rw [e3]; simp
def Low.setW (g : Low) (j : Nat) (sl : Sli) (l : List Int) : Low := { g with W := g.W.set j (sl,l),V := fun k => if k = 7 then (g.V 7).set j sl.v else g.V k }
theorem Sol.appendW {σ : PH} {T : Nat → Tag} {s : Nat} {g : Low} (h : Sol σ T s g) {j : Nat} {sl : Sli} {l : List Int} (hj : g.W[j]? = some (sl,l)) {xb : Option Addr} {m mc : Nat} {news : List Int}
   (hr : readsRow σ xb (ints news)) (hl : news.length = m) (hbig : sl.n + m ≤ 10000000000000) {p : Addr} (hp7 : (g.F 7).a = some p) {Q : Value → PH → Prop}
   (hQ : ∀ a' c' τ,(∃ u,τ.cell? (p.add j) = some u) → τ.froz (p.add j) = some false →
     (∃ T',Sol (τ.setCell (p.add j) (.slice a' (sl.n + m) c')) T' s (g.setW j ⟨a',sl.n + m,c'⟩ (l ++ news)) ∧ Did σ T (τ.setCell (p.add j) (.slice a' (sl.n + m) c')) T') → Q (.slice a' (sl.n + m) c') τ) :
   iappend prog 3 (.slice sl.a sl.n sl.c) (.slice xb m mc) Q σ := by
 have hO := h.wat j sl l hj
 refine Own.append t3.1 t3.2.1 t3.2.2 rfl (by decide) hO.1 hr (by simp [ints,hl]) (by intro v hv; obtain ⟨y,_,rfl⟩ := List.mem_map.1 hv; trivial) (by omega) fun a' c' τ hO' hst hnew => ?_
 have hst' : Step (fun b => T b = .watch j) σ τ := hst.weaken fun b ⟨p,h1,h2⟩ => h2 ▸ hO.2 p h1
 have hO7 := h.fld 7 33 1 rfl
 have hjl : j < (g.V 7).length := by
   rw [h.wv,List.length_map]
   exact (List.getElem?_eq_some_iff.1 hj).1
 have hO7' : OwnT τ T (.fld 7) 33 1 (g.F 7) (g.V 7) := hO7.keep hst' fun b hb => by rw [hb]; simp
 obtain ⟨p',hp',hu,hf,hpb,hset⟩ := hO7'.1.set hjl
 obtain rfl : p = p' := Option.some.inj (hp7.symm.trans hp')
 refine hQ a' c' τ hu hf ?_
 obtain ⟨T',hT,hTn⟩ : ∃ T' : Nat → Tag,(∀ b,σ b ≠ none → T' b = T b) ∧ ∀ p,a' = some p → T' p.block = .watch j := by
   refine ⟨tagAt T a' (.watch j),fun b hbn => tagAt_other fun p hp' e1 => ?_,fun p hp' => by rw [hp']; exact tagAt_self⟩
   subst e1
   rcases hnew with h1 | ⟨b',h1,h2⟩
   · exact hO.2 p (h1 ▸ hp')
   · rw [hp'] at h2
     cases h2
     exact absurd h1 hbn
 have hR := h.retag hT
 have ht7 : T' p.block = .fld 7 := (hT _ (hO7.1.known hp7)).trans (hO7.2 p hp7)
 have hs1 : Step (fun b => T' b = .watch j) σ τ := ⟨fun b o hb' hm => hst'.same b o hb' (by rw [← hT b (by rw [hb']; simp)]; exact hm),hst'.dom⟩
 have hs2 : Step (fun b => b = p.block) τ (τ.setCell (p.add j) (.slice a' (sl.n + m) c')) := setCell_step.weaken fun b hb' => hb'.trans hpb
 have hall : Step (fun b => T' b = .watch j ∨ b = p.block) σ (τ.setCell (p.add j) (.slice a' (sl.n + m) c')) := (hs1.weaken fun b h => .inl h).trans (hs2.weaken fun b h => .inr h)
 have ne : ∀ b t,T' b = t → t ≠ .watch j → t ≠ .fld 7 → ¬ (T' b = .watch j ∨ b = p.block) := by
   rintro b t h1 h2 h3 (h4 | rfl)
   · exact h2 (h1.symm.trans h4)
   · exact h3 (h1.symm.trans ht7)
 refine ⟨T',⟨h.ff,h.blk.keep hall (ne s _ hR.tag (by simp) (by simp)),hR.tag,fun k e size hk => ?_,hall.same _ _ h.map (ne _ _ hR.mtag (by simp) (by simp)),hR.mtag,h.keys,?_,fun i sl' l' hi => ?_,
   fun r x hr => (h.rblk r x hr).keep hall (ne r _ (hR.rtag r x hr) (by simp) (by simp)),hR.rtag,fun r x hr => (hR.rl r x hr).keep hall fun b hb => ne b _ hb (by simp) (by simp),fun r x hr => (hR.rc r x hr).keep hall fun b hb => ne b _ hb (by simp) (by simp)⟩,?_,hT⟩
 · by_cases e1 : k = 7
   · subst e1
     cases hk
     refine ⟨?_,fun q hq => ?_⟩
     · show Own _ 33 1 (g.F 7).a (g.F 7).n (g.F 7).c (if 7 = 7 then (g.V 7).set j _ else g.V 7)
       rw [if_pos rfl]
       exact hset _
     · exact (hT _ (hO7.1.known hq)).trans (hO7.2 q hq)
   · have := (hR.fld k e size hk).keep hall fun b hb => ne b _ hb (by simp) (by simpa using e1)
     show OwnT _ _ _ _ _ (g.F k) (if k = 7 then (g.V 7).set j _ else g.V k)
     rw [if_neg e1]
     exact this
 · show (if 7 = 7 then (g.V 7).set j _ else g.V 7) = (g.W.set j _).map _
   rw [if_pos rfl,h.wv,List.map_set]
 · replace hi : (g.W.set j (⟨a',sl.n + m,c'⟩,l ++ news))[i]? = some (sl',l') := hi
   rw [List.getElem?_set] at hi
   split at hi
   · rename_i e1
     subst e1
     split at hi
     · cases hi
       refine ⟨?_,hTn⟩
       rw [show ints (l ++ news) = ints l ++ ints news from List.map_append]
       refine hO'.keep hs2 fun q hq => ?_
       intro e2
       have := hTn q hq
       rw [e2,ht7] at this
       cases this
     · cases hi
   · rename_i e1
     exact (hR.wat i sl' l' hi).keep hall fun b hb => ne b _ hb (by simpa using Ne.symm e1) (by simp)
 · refine ⟨fun b o hb' hm => hall.same b o hb' ?_,hall.dom⟩
   rintro (h1 | rfl)
   · rw [hT b (by rw [hb']; simp)] at h1
     rw [h1] at hm; exact hm (by simp)
   · rw [hO7.2 p hp7] at hm; exact hm (by simp)
theorem t84 : sizeT prog 84 = some 1 ∧ bytesT prog 84 = some 8 ∧ zeroT prog 84 = some (.pointer none) := ⟨by kernel_rfl,by kernel_rfl,by kernel_rfl⟩
theorem quiet73 {i : Int} (h : Lit i) (σ : PH) : quiet C 73 #[.int .i64 i] (.int .i64 (idx i)) [] σ :=
 ⟨fun _ h => (by cases h),(c73 h _).mono hb fun v τ ⟨h1,h2⟩ => ⟨h1,h2 ▸ PH.sub.refl _⟩⟩
structure Same7 (g g' : Low) : Prop where
 ff : g'.ff = g.ff
 F : g'.F = g.F
 V : ∀ k,k ≠ 7 → g'.V k = g.V k
 inp : g'.inp = g.inp
 es : g'.es = g.es
 clock : g'.clock = g.clock
 head : g'.head = g.head
 bump : g'.bump = g.bump
 empty : g'.empty = g.empty
 R : g'.R = g.R
theorem Same7.refl (g : Low) : Same7 g g := ⟨rfl,rfl,fun _ _ => rfl,rfl,rfl,rfl,rfl,rfl,rfl,rfl⟩
theorem c52 {σ : PH} {T : Nat → Tag} {s : Nat} {g : Low} (h : Sol σ T s g) {r : Nat} {x : RL} (hx : g.R r = some x) (h2 : 2 ≤ x.lits.length) (hl : ∀ l ∈ x.lits,Lit l ∧ l ≠ 0 ∧ (idx l).toNat < g.W.length)
   (hn : (g.F 6).n ≤ 5000000000000) (hw : ∀ e ∈ g.W,e.2.length ≤ 5000000000000) :
   C 52 #[.pointer (some ⟨s,0,none⟩),.pointer (some ⟨r,0,none⟩)] (fun v τ => v = .tuple #[] ∧ ∃ T' g' sl,Did σ T τ T' ∧ sl.n = (g.F 6).n + 1 ∧ Same7 (g.setF 6 sl (g.V 6 ++ [.pointer (some ⟨r,0,none⟩)])) g' ∧
     g'.W.map (·.2) = addW (g.W.map (·.2)) (x.lits.take 2) (g.F 6).n ∧ Sol τ T' s g') σ := by
 refine go (E52_0 _ _ _ _ _) ?_
 unfold S52_0
 refine ⟨_,rfl,_,h.field (k := 6) rfl,_,_,_,rfl,fun b hbn => ?_⟩
 obtain ⟨T1,H1,D1,_⟩ := h.fresh hbn (.cells #[.pointer (some ⟨r,0,none⟩)] 84)
 refine H1.appendF (k := 6) rfl (by decide) t84.1 t84.2.1 t84.2.2 rfl (by decide) (news := [.pointer (some ⟨r,0,none⟩)]) ?_ rfl ?_ ?_ ?_
 · exact rowAt_of (b := b) (arr := #[.pointer (some ⟨r,0,none⟩)]) (e := 84) (f := (0,0)) (by unfold PH.set; rw [if_pos rfl]) _ 0 0 (fun j v hv => by simpa using hv)
 · intro v hv; simp at hv; subst hv; trivial
 · omega
 · rintro a' c' τ q1 q2 ⟨T2,H2,D2⟩
   have xr := H2.rblk r x hx
   have xl := (H2.rl r x hx).1
   have xn : x.l.n = x.lits.length := by have := xl.len; simp [ints] at this; omega
   have hcap := xl.le
   have e0 : (Addr.mk r 0 none).add 0 = ⟨r,0,none⟩ := rfl
   refine ⟨_,_,_,rfl,_,rfl,q1,q2,_,rfl,_,e0 ▸ xr.get (i := 0) rfl,_,_,_,rfl,by omega,by omega,?_⟩
   unfold S52_1
   refine iloopS_for (G := (Nat → Tag) × Low) (fun k _ => (some (Addr.mk s 0 none),x.l.a,Int.toNat (2 : Int),x.l.c,((Int.toNat (2 : Int) : Nat) : Int),(k : Int)))
     (fun k tg υ => Did σ T υ tg.1 ∧ Sol υ tg.1 s tg.2 ∧ Same7 (g.setF 6 ⟨a',(g.F 6).n + 1,c'⟩ (g.V 6 ++ [.pointer (some ⟨r,0,none⟩)])) tg.2 ∧ tg.2.W.map (·.2) = addW (g.W.map (·.2)) (x.lits.take k) (g.F 6).n ∧ (∀ e ∈ tg.2.W,e.2.length ≤ 5000000000000 + k))
     2 ?_ (g := (T2,g.setF 6 ⟨a',(g.F 6).n + 1,c'⟩ (g.V 6 ++ [.pointer (some ⟨r,0,none⟩)]))) ⟨D1.trans D2,H2,Same7.refl _,rfl,hw⟩
   rintro k ⟨T3,g3⟩ υ hk ⟨D3,H3,S3,W3,L3⟩ R hR
   simp only at D3 H3 S3 W3 L3
   unfold S52_2
   dsimp only
   simp only [Nat.mul_one]
   refine br_dec.2 ⟨fun hlt => ?_,fun hge => ?_⟩
   · have hk2 : k < 2 := by omega
     have hx3 : g3.R r = some x := by rw [S3.R]; exact hx
     have x3 := (H3.rl r x hx3).1
     have hkl : k < x.lits.length := by omega
     obtain ⟨p,hp,hc⟩ := x3.get (i := k) (v := .int .i64 x.lits[k]) (by simp [ints,hkl])
     obtain ⟨l1,l2,l3⟩ := hl x.lits[k] (List.getElem_mem _)
     have hi : 0 ≤ idx x.lits[k] := by unfold Lit at l1; unfold idx; split <;> omega
     have hWl : g3.W.length = g.W.length := by
       have := congrArg List.length W3
       rw [List.length_map] at this
       rw [this]
       unfold addW
       clear W3 this hR hc
       generalize x.lits.take k = ls
       have : ∀ (ls : List Int) (W : List (List Int)),(ls.foldl (fun W l => W.modify (idx l).toNat (· ++ [((g.F 6).n : Int)])) W).length = W.length := by
         intro ls
         induction ls with
         | nil => intro W; rfl
         | cons a ls ih => intro W; rw [List.foldl_cons,ih,List.length_modify]
       rw [this,List.length_map]
     have hj : (idx x.lits[k]).toNat < g3.W.length := by omega
     obtain ⟨q7,hq7,hc7⟩ := (H3.fld 7 33 1 rfl).1.get (i := (idx x.lits[k]).toNat) (v := (g3.W[(idx x.lits[k]).toNat]).1.v) (by rw [H3.wv]; simp [hj])
     have h7n : g3.W.length = (g3.F 7).n := by have := H3.len (k := 7) rfl; rw [H3.wv,List.length_map] at this; exact this
     refine ⟨p,hp,by omega,by rw [show Int.toNat (2 : Int) = 2 from rfl]; omega,_,hc,_,rfl,_,[],_,[],_,rfl,_,H3.field (k := 7) rfl,_,_,_,rfl,quiet73 l1 _,_,rfl,_,H3.field (k := 7) rfl,_,_,_,rfl,quiet73 l1 _,q7,hq7,hi,by omega,_,hc7,_,_,_,rfl,_,rfl,_,H3.field (k := 6) rfl,_,_,_,rfl,fun b hbn => ⟨?_,?_⟩⟩
     · intro q hq e1
       have t1 := (H3.wat (idx x.lits[k]).toNat _ _ (List.getElem?_eq_getElem hj)).2 q hq
       rw [e1,add_block] at t1
       have := H3.tag
       rw [t1] at this
       cases this
     · have hF6 : (g3.F 6).n = (g.F 6).n + 1 := by rw [S3.F]; rfl
       have hv : IntKind.wrap .i64 (((g3.F 6).n : Int) - 1) = ((g.F 6).n : Int) := by rw [hF6,w64 (by omega) (by omega)]; omega
       rw [hv]
       obtain ⟨T4,H4,D4,_⟩ := H3.fresh hbn (.cells #[.int .i64 (g.F 6).n] 3)
       have hwl := (H3.wat (idx x.lits[k]).toNat _ _ (List.getElem?_eq_getElem hj)).1.len
       have hwb := L3 _ (List.getElem_mem hj)
       simp only [ints,List.length_map,Nat.mul_one] at hwl
       have hwl' : (g3.W[(idx x.lits[k]).toNat]).1.n = (g3.W[(idx x.lits[k]).toNat]).2.length := hwl.symm
       have hwb' : (g3.W[(idx x.lits[k]).toNat]).2.length ≤ 5000000000000 + k := hwb
       refine H4.appendW (j := (idx x.lits[k]).toNat) (sl := g3.W[(idx x.lits[k]).toNat].1) (l := g3.W[(idx x.lits[k]).toNat].2) (List.getElem?_eq_getElem hj) (m := 1) (news := [((g.F 6).n : Int)]) ?_ rfl (by omega) hq7 ?_
       · exact rowAt_of (b := b) (arr := #[.int .i64 (g.F 6).n]) (e := 3) (f := (0,0)) (by unfold PH.set; rw [if_pos rfl]) _ 0 0 (fun j v hv => by simpa [ints] using hv)
       · rintro a'' c'' υ' q1 q2 ⟨T5,H5,D5⟩
         refine ⟨_,_,_,rfl,q7,hq7,hi,by omega,q1,q2,?_⟩
         rw [wnat (by omega)]
         refine hR (T5,g3.setW (idx x.lits[k]).toNat ⟨a'',_,c''⟩ (g3.W[(idx x.lits[k]).toNat].2 ++ [((g.F 6).n : Int)])) _ hk2 ⟨D3.trans (D4.trans D5),H5,?_,?_,?_⟩
         · exact ⟨S3.ff,S3.F,fun k' hk' => (if_neg hk').trans (S3.V k' hk'),S3.inp,S3.es,S3.clock,S3.head,S3.bump,S3.empty,S3.R⟩
         · show (g3.W.set _ _).map (·.2) = _
           rw [List.take_succ_eq_append_getElem hkl]
           unfold addW at W3 ⊢
           rw [List.foldl_append,← W3,List.map_set]
           simp only [List.foldl_cons,List.foldl_nil]
           rw [List.modify_eq_set]
           simp [hj]
         · intro e he
           have he : e ∈ g3.W.set _ _ := he
           rcases List.mem_or_eq_of_mem_set he with he | rfl
           · have := L3 e he; omega
           · simp only [List.length_append,List.length_cons,List.length_nil]; omega
   · have : k = 2 := by rw [show Int.toNat (2 : Int) = 2 from rfl] at hge; omega
     subst this
     exact ⟨trivial,T3,g3,_,D3,rfl,S3,W3,H3⟩
end Go.Proofs.Ythfnjogadngfiaa
