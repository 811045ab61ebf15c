/- A part of the proof: see the last text, YthfnjogadngfiaaXg14. -/
import Derived.Test.YthfnjogadngfiaaProg
import Derived.Test.YthfnjogadngfiaaXg3
set_option maxRecDepth 100000
set_option linter.unusedVariables false
set_option linter.unusedSimpArgs false
namespace Go.Sv
structure RC where
 lits : List Int
 step : Int
 cyc : List Int
structure St where
 steps : List PStep
 clauses : List Nat
 W : List (List Int)
 value : List Int
 level : List Nat
 why : List (Option Nat)
 trail : List Int
 limits : List Nat
 head : Int
 empty : Option Nat
 units : List Nat
 R : Nat → Option RC
def addW (W : List (List Int)) (ls : List Int) (ci : Int) : List (List Int) := ls.foldl (fun W l => W.modify (idx l).toNat (· ++ [ci])) W
def clrW (ls : List Int) (V : List (Option Nat)) : List (Option Nat) := ls.foldl (fun V x => V.set (vr x) none) V
def St.assign (st : St) (x : Int) (r : Option Nat) : St :=
 { st with value := st.value.set (vr x) (sgn x),level := st.level.set (vr x) st.limits.length,why := st.why.set (vr x) r,trail := st.trail ++ [x] }
def St.step (st : St) (p : PStep) : St := { st with steps := st.steps ++ [p] }
def St.setR (st : St) (r : Nat) (c : RC) : St := { st with R := fun q => if q = r then some c else st.R q }
def St.add (st : St) (r : Nat) (lits : List Int) : St := { st with clauses := st.clauses ++ [r],W := addW st.W (lits.take 2) st.clauses.length }
def St.undoTo (st : St) (j n0 : Nat) : St :=
 { st with value := clrI (st.trail.drop n0) st.value,why := clrW (st.trail.drop n0) st.why,trail := st.trail.take n0,limits := st.limits.take j,head := n0 }
def pInput (i : Int) : PStep := ⟨1,i,[],0,0,0⟩
def pCyc (l : List Int) : PStep := ⟨2,0,l,0,0,0⟩
def pRes (p q v : Int) : PStep := ⟨3,0,[],p,q,v⟩
def St.derive (st : St) (r : Nat) (x : RC) : St := if x.step < 0 then (st.step (pCyc x.cyc)).setR r { x with step := st.steps.length } else st
def St.stepOf (st : St) (x : RC) : Int := if x.step < 0 then st.steps.length else x.step
def St.undo (st : St) (j : Nat) : St := if h : j < st.limits.length then st.undoTo j st.limits[j] else st
end Go.Sv
namespace Go.Proofs.Ythfnjogadngfiaa
open Go.Sl
noncomputable abbrev prog : Program := Try.prog
def an5 : Ann := (.go .no (.go .no (.go (.go .no (.go (.at 26 .no .no) .no)) .no)))
def an22 : Ann := (.go .no (.go .no (.go .no (.go (.go .no (.go (.at 7696581394434 .no .no) .no)) (.go (.go .no (.go (.at 1083197534374707740536733698 (.go .no (.go .no (.go (.go (.go .no (.go .no (.go (.at 70407839734356003134887690242 .no .no) .no))) .no) .no))) .no) .no)) .no)))))
def an23 : Ann := (.go .no (.go (.go .no (.go (.at 904 .no .no) .no)) .no))
def an25 : Ann := (.go .no (.go .no (.go .no (.go (.go .no (.go (.at 939524292 .no .no) .no)) (.go (.go .no (.go (.at 1220 (.go .no (.go (.go .no (.go .no (.go (.at 7696581395652 (.go .no (.go .no (.go (.go (.go .no (.go .no (.go .no (.go (.go .no (.go (.at 500277790696644 .no .no) .no)) .no)))) .no) .no))) .no) .no))) .no)) .no) .no)) (.go .no (.go (.go .no (.go (.at 67699845898419233784070144 .no .no) .no)) .no)))))))
def an27 : Ann := (.go .no (.go .no (.go (.go .no (.go (.at 12291 .no .no) .no)) .no)))
def an35 : Ann := (.go .no (.go .no (.go .no (.go (.go .no (.go (.at 7696581394434 .no .no) .no)) (.go (.go .no (.go (.at 1083197534374707740536733698 (.go .no (.go .no (.go (.go (.go .no (.go .no (.go (.at 70407839734356003134887690242 .no .no) .no))) .no) .no))) .no) .no)) .no)))))
def an36 : Ann := (.go .no (.go .no (.go (.go .no (.go (.at 7516192776 .no .no) .no)) .no)))
def an37 : Ann := (.go .no (.go .no (.go (.go .no (.go (.at 240518168577 .no .no) .no)) .no)))
def an38 : Ann := (.go .no (.go .no (.go .no (.go (.go .no (.go (.at 393245 .no .no) .no)) .no))))
def an39 : Ann := (.go .no (.go .no (.go (.go .no (.go (.at 117440524 .no .no) .no)) (.go (.go .no (.go (.at 252201579132747784 .no .no) .no)) .no))))
def an48 : Ann := (.go .no (.go .no (.go .no (.go (.go .no (.go (.at 120259084550 .no .no) .no)) (.go (.go .no (.go (.at 3940649673949444 .no .no) .no)) .no)))))
def an50 : Ann := (.go .no (.go .no (.go .no (.go .no (.go .no (.go (.go .no (.go (.at 48 .no .no) .no)) .no))))))
def an51 : Ann := (.go .no (.go (.go .no (.go .no (.go .eff .no))) .no))
def an52 : Ann := (.go .no (.go .no (.go (.at 7340033 .no .no) .no)))
def an54 : Ann := (.go .no (.go .no (.at 71 .no .no)))
def an55 : Ann := (.go .no (.go (.go .no (.go (.at 113 .no .no) .no)) .no))
def an56 : Ann := (.go .no (.go (.at 3 .no .no) .no))
def an57 : Ann := (.go .no (.go (.at 1 (.go (.go (.go (.at 1 .no .no) .no) .no) .no) .no) .no))
def an59 : Ann := (.go .no (.go (.go .no (.go (.go .no (.go (.at 58720265 .no .no) .no)) (.go .no (.go .no (.go (.go .no (.go (.at 216172782113785353 .no .no) .no)) (.go .no (.go .no (.go .no (.at 9736 (.go .no (.go (.at 30217 (.go .no (.go (.go (.go .no (.go (.go .no (.go (.at 8264141345021879154185 .no .no) .no)) .no)) .no) .no)) .no) .no)) .no))))))))) .no))
def an60 : Ann := (.go .no (.go .no (.go (.go .no (.go (.at 14404 (.go .no (.go .no (.go (.go (.go .no (.go .no (.go .no (.at 16068 (.go .no (.go (.go .no (.go .no (.go .no (.go .no (.go .no (.go (.go .no (.go .eff .no)) .no)))))) .no)) .no)))) .no) .no))) .no) .no)) .no)))
def an62 : Ann := (.go .no (.go .no (.go (.go .no (.go (.at 3600 (.go .no (.go .no (.go (.go (.go .no (.go .no (.go .no (.go (.go (.at 3792 .no .no) .no) .no)))) .no) .no))) .no) .no)) .no)))
def an65 : Ann := (.go .no (.go .no (.go .no (.go (.go .no (.go (.at 57796 .no .no) .no)) .no))))
def an66 : Ann := (.go .no (.go (.go .no (.go (.at 898 .no .no) .no)) .no))
def an75 : Ann := (.go .no (.go .no (.go (.go .no (.go (.at 28704 .no .no) .no)) .no)))
def an77 : Ann := (.go .no (.go .no (.go .no (.at 1547 .no (.go .no (.go (.go .no (.go (.at 15393162789899 .no .no) .no)) .no))))))
def an78 : Ann := (.go .no (.go .no (.go (.go .no (.go (.at 229411 .no .no) .no)) (.go .no (.go .no (.go .no (.go (.go .no (.go (.at 1825 .no .no) .no)) .no)))))))
def an79 : Ann := (.go .no (.go .no (.go (.go .no (.go (.at 3593 .no .no) .no)) .no)))
def an80 : Ann := (.go .no (.go .no (.go .no (.go (.go .no (.go (.at 3670115 (.go .no (.go .no (.go (.go (.go .no (.go .no (.at 3671011 .no .no))) .no) .no))) .no) .no)) .no))))
def an81 : Ann := (.go .no (.go .no (.go .no (.go (.go .no (.go (.at 1835033 .no .no) .no)) (.go .no (.go .no (.go (.go .no (.go (.at 8264141345021879128081 .no .no) .no)) .no)))))))
def an83 : Ann := (.go .no (.go (.go .no (.go (.at 3079 .no .no) .no)) (.go .no (.go .no (.go (.at 391 .no .no) .no)))))
def an87 : Ann := (.go .no (.go .no (.go (.go .no (.go (.at 3619 .no .no) .no)) .no)))
def an88 : Ann := (.go .no (.go (.go .no (.go (.at 387 .no .no) .no)) .no))
def an91 : Ann := (.go .no (.go (.go .no (.go (.at 117440515 .no .no) .no)) .no))
def an92 : Ann := (.go .no (.go .no (.go (.go .no (.go (.at 1157 .no .no) .no)) .no)))
def an93 : Ann := (.go .no (.go .no (.go .no (.go (.go (.go .no (.go (.at 103079215105 .no .no) .no)) .no) .no))))
def an94 : Ann := (.go .no (.go .no (.go (.go .no (.go (.at 1049353 .no .no) .no)) (.go .no (.go (.go .no (.go (.at 8070450532247929609 .no .no) .no)) (.go (.go .no (.go (.at 283953734451123385935261518004993 .no .no) .no)) (.go .no (.at 257 .no .no))))))))
def an95 : Ann := (.go .no (.go (.go .no (.go (.at 135 .no .no) .no)) .no))
def an96 : Ann := (.go .no (.go .no (.at 131 .no (.go (.go .no (.go (.at 240518168705 .no .no) .no)) .no))))
def an97 : Ann := (.go .no (.go .no (.go (.go .no (.go (.at 393251 (.go .no (.go .no (.go (.go (.go .no (.go .no (.go .no (.go (.at 26388279459939 .no .no) .no)))) .no) .no))) .no) .no)) (.go (.go .no (.go (.at 16140901064495857697 .no .no) .no)) (.go (.go .no (.go (.at 1947111321950560360698936123457569 (.go .no (.go .no (.go (.go (.go .no (.go .no (.go (.at 33100892473159526131881914098779169 (.go .no (.go .no (.go (.go (.go .no (.go .no (.go (.at 531561390892502978470809561703910433 .no .no) .no))) .no) .no))) .no) .no))) .no) .no))) .no) .no)) .no)))))
def an99 : Ann := (.go .no (.go .no (.go (.go (.at 135 .no .no) .no) .no)))
def an6 : Ann := (.go .no (.go .no (.go .no (.go (.go .no (.go (.at 1610613126 .no .no) .no)) (.go (.go .no (.go (.at 1688849860264324 .no .no) .no)) (.go (.go .no (.go (.at 567907468902246771870523036008832 .no .no) .no)) .no))))))
def an7 : Ann := (.go .no (.go .no (.go .no (.go (.go .no (.go (.at 226 .no .no) .no)) .no))))
def an8 : Ann := (.go .no (.go .no (.go .no (.go (.go .no (.go (.at 56 (.go .no (.go (.go (.go .no (.go (.at 120 .no .no) .no)) .no) .no)) .no) .no)) (.go (.go .no (.go (.at 152 (.go .no (.go (.go (.go .no (.go (.at 408 .no .no) .no)) .no) .no)) .no) .no)) (.go (.go .no (.go (.at 536 .no .no) .no)) .no))))))
def an9 : Ann := (.go .no (.go .no (.go .no (.go .no (.at 3072 (.go .no (.go .no (.go .no (.go .no (.go (.at 252201579132750976 .no .no) .no))))) .no)))))
def an10 : Ann := (.go .no (.go .no (.go .no (.go (.go .no (.go (.at 229472 .no .no) .no)) .no))))
def an11 : Ann := (.go .no (.go .no (.go (.go .no (.go (.at 102 .no .no) .no)) .no)))
def an12 : Ann := (.go .no (.go .no (.go .no (.go .no (.go .eff (.go .no (.go .no (.go .no (.go (.go .no (.go (.at 16924961474604808445892608 .no .no) .no)) .no)))))))))
def an13 : Ann := (.go .no (.go .no (.go .no (.go .no (.go .no (.go (.go .no (.go (.at 1879048864 .no .no) .no)) (.go .no (.go .no (.go (.go .no (.go (.at 258254417031933722752 .no .no) .no)) .no)))))))))
def an16 : Ann := (.go .no (.go .no (.go .no (.go .no (.go .no (.go .no (.go (.go .no (.go (.at 1924145349002 .no .no) .no)) .no)))))))
def an21 : Ann := (.go .no (.go .no (.go .no (.go (.go .no (.go (.at 62 (.go .no (.go (.go (.go .no (.go .no (.go .eff .no))) .no) .no)) .no) .no)) (.go .no (.go (.go (.at 28 (.go .no (.go (.go .no (.go (.go .no (.go (.at 796 .no .no) .no)) .no)) .no)) .no) .no) .no))))))
def an26 : Ann := (.go .no (.go .no (.go (.go .no (.go (.at 117440580 .no .no) .no)) (.go (.go .no (.go (.at 580 (.go .no (.go (.go .no (.go .no (.go (.at 64563604257983431236 (.go .no (.go .no (.go (.go (.go .no (.go .no (.go (.go .no (.go (.at 4196634276768923021892 .no .no) .no)) .no))) .no) .no))) .no) .no))) .no)) .no) .no)) (.go .no (.go (.go .no (.go (.at 36346078009743793399713474304671744 .no .no) .no)) .no))))))
def an28 : Ann := (.go .no (.go (.go .no (.go (.at 898 .no .no) .no)) .no))
def an32 : Ann := (.go .no (.go .no (.go .no (.go (.go (.at 17 .no .no) .no) (.go .no (.go .no (.go .no (.go .no (.go .no (.go .no (.go .no (.go .no (.go .no (.go .no (.go .eff .no)))))))))))))))
def an34 : Ann := (.go .no (.go .no (.go (.go .no (.go (.at 195 (.go .no (.go (.go (.go .no (.go (.go .no (.go (.at 1835459 .no .no) .no)) .no)) .no) .no)) .no) .no)) .no)))
def an45 : Ann := (.go .no (.go .no (.go (.go .no (.go (.at 28804 .no .no) .no)) .no)))
def an46 : Ann := (.go .no (.go (.go .no (.go (.at 29360129 .no .no) .no)) (.go .no (.go .no (.go (.go .no (.go (.at 6755399441056129 .no .no) .no)) (.go .no (.go .no (.go .no (.go (.go .no (.go (.at 70988433612780846483815379509505 .no .no) .no)) .no)))))))))
def an47 : Ann := (.go .no (.go (.go .no (.go (.at 898 .no .no) .no)) .no))
def an63 : Ann := (.go .no (.go (.go .no (.go (.at 897 .no .no) .no)) .no))
def an64 : Ann := (.go .no (.go .no (.go (.go .no (.go (.at 3145827 .no .no) .no)) (.go .no (.go (.go .no (.go (.at 867 (.go .no (.go (.go (.go .no (.go (.go .no (.go (.at 60129543011 .no .no) .no)) .no)) .no) .no)) .no) .no)) (.go (.go .no (.go (.at 4419 .no .no) .no)) (.go .no (.go .no (.go (.at 24898 .no .no) .no)))))))))
def an85 : Ann := (.go .no (.go .no (.go .no (.go (.go .no (.go (.at 115140 .no .no) .no)) .no))))
def an86 : Ann := (.go .no (.go .no (.go .no (.go .no (.go .no (.go (.go .no (.go (.at 8264141345021879124360 .no .no) .no)) (.go (.go .no (.go (.at 541598767187353870268367112 .no .no) .no)) .no)))))))
def anns (f : FuncId) : Ann := match f with
 | 5 => an5
 | 22 => an22
 | 23 => an23
 | 25 => an25
 | 27 => an27
 | 35 => an35
 | 36 => an36
 | 37 => an37
 | 38 => an38
 | 39 => an39
 | 48 => an48
 | 50 => an50
 | 51 => an51
 | 52 => an52
 | 54 => an54
 | 55 => an55
 | 56 => an56
 | 57 => an57
 | 59 => an59
 | 60 => an60
 | 62 => an62
 | 65 => an65
 | 66 => an66
 | 75 => an75
 | 77 => an77
 | 78 => an78
 | 79 => an79
 | 80 => an80
 | 81 => an81
 | 83 => an83
 | 87 => an87
 | 88 => an88
 | 91 => an91
 | 92 => an92
 | 93 => an93
 | 94 => an94
 | 95 => an95
 | 96 => an96
 | 97 => an97
 | 99 => an99
 | 6 => an6
 | 7 => an7
 | 8 => an8
 | 9 => an9
 | 10 => an10
 | 11 => an11
 | 12 => an12
 | 13 => an13
 | 16 => an16
 | 21 => an21
 | 26 => an26
 | 28 => an28
 | 32 => an32
 | 34 => an34
 | 45 => an45
 | 46 => an46
 | 47 => an47
 | 63 => an63
 | 64 => an64
 | 85 => an85
 | 86 => an86
 | _ => .no
abbrev QT := Value → PH → Prop
abbrev ET := Env → PH → Prop
abbrev KT := IX → Env → PH → Prop
abbrev oo : Option Value := none
def rp : Nat → Env
 | 0 => []
 | n + 1 => none :: rp n
def ppf : Nat → Nat → List Bool
 | 0,_ => []
 | k + 1,n => match Nat.ble n 1 with
   | true => []
   | false => Nat.beq (n % 2) 1 :: ppf k (n / 2)
def pp (n : Nat) : List Bool := ppf 200 n
def gv (e : Env) (t : Nat) : Value := match eget e t with | some v => v | none => .nilFunc
def vi : Value → Int | .int _ i => i | _ => 0
def vb : Value → Bool | .bool b => b | _ => false
def vp : Value → Option Addr | .pointer p => p | _ => none
def va : Value → Addr | .pointer (some p) => p | _ => ⟨0,0,none⟩
def sa : Value → Option Addr | .slice a _ _ => a | _ => none
def sl : Value → Nat | .slice _ n _ => n | _ => 0
def sc : Value → Nat | .slice _ _ c => c | _ => 0
def vm : Value → Option Nat | .map m => m | _ => none
def vgl : List Value → Nat → Value
 | [],_ => .nilFunc
 | x :: _,0 => x
 | _ :: xs,n + 1 => vgl xs n
def vf2 (v : Value) (n : Nat) : Value := match v with | .func _ a _ => vgl a.toList n | _ => .nilFunc
def vf3 (v : Value) (n : Nat) : Value := match v with | .func _ _ b => vgl b.toList n | _ => .nilFunc
theorem iloop_inv {L : Type} (mk : L → Env) (g : Env → L) (hg : ∀ x,g (mk x) = x) (body : (IX → Env → PH → Prop) → Env → PH → Prop) (cut : Env → Env) (Q : IX → Env → PH → Prop)
   (S : (L → PH → Prop) → L → PH → Prop) (h : ∀ (R : Env → PH → Prop) x σ,body (loopK cut R Q) (mk x) σ = S (fun y => R (mk y)) x σ) (x : L) (σ : PH) :
   iloop body cut Q (mk x) σ = iloopS S x σ :=
 iloop_eq mk (fun x y e => by rw [← hg x,← hg y,e]) body cut Q S h x σ
abbrev T5_1 := Addr × Int × Int
def S17_0 (call : CallR) (Q : QT) (i1 i2 : Int) (a3 : Option Addr) (n4 c5 : Nat) (a6 : Option Addr) (n7 c8 : Nat) (σ : PH) : Prop :=
 ∀ b9 : Nat,letI h901 : PH := PH.set σ b9 (.cells #[.int .i64 i1,.int .i64 i2,.slice a3 n4 c5,.slice a6 n7 c8] 29); letI p9b9 : Addr := ⟨b9,0,none⟩; σ b9 = none → ∀ b10 : Nat,letI h902 : PH := PH.set h901 b10 (.cells #[.slice none 0 0,.slice none 0 0] 35); letI p9b10 : Addr := ⟨b10,0,none⟩; h901 b10 = none → ∃ v11,PH.cell? h902 p9b9 = some v11 ∧ ∃ v12,PH.cell? h902 (p9b9.add 1) = some v12 ∧ ∃ v13,PH.cell? h902 (p9b9.add 2) = some v13 ∧ ∃ v14,PH.cell? h902 (p9b9.add 3) = some v14 ∧ ∃ (i15 : Int) (i16 : Int) (a17 : Option Addr) (n18 : Nat) (c19 : Nat) (a20 : Option Addr) (n21 : Nat) (c22 : Nat),Value.agg #[v11,v12,v13,v14] = (.agg #[.int .i64 i15,.int .i64 i16,.slice a17 n18 c19,.slice a20 n21 c22]) ∧ call 35 #[(.agg #[.int .i64 i15,.int .i64 i16,.slice a17 n18 c19,.slice a20 n21 c22])] (fun v23 τ24 => ∃ υ25 : PH,letI h904 : PH := PH.setCell υ25 p9b10 (.slice none 0 0); letI h907 : PH := PH.setCell h904 (p9b10.add 1) (.slice none 0 0); PH.sub υ25 τ24 ∧ ∃ i26,v23 = .int .i64 i26 ∧ br (i26 != (0 : Int)) ((∃ u27,PH.cell? υ25 p9b10 = some u27) ∧ PH.froz υ25 p9b10 = some false ∧ (∃ u28,PH.cell? h904 (p9b10.add 1) = some u28) ∧ PH.froz h904 (p9b10.add 1) = some false ∧ ∃ v29,PH.cell? h907 p9b10 = some v29 ∧ ∃ v30,PH.cell? h907 (p9b10.add 1) = some v30 ∧ Q (.tuple #[(.agg #[v29,v30]),.slice none 0 0,(.bool false)]) h907) (∃ v31,PH.cell? υ25 p9b9 = some v31 ∧ ∃ v32,PH.cell? υ25 (p9b9.add 1) = some v32 ∧ ∃ v33,PH.cell? υ25 (p9b9.add 2) = some v33 ∧ ∃ v34,PH.cell? υ25 (p9b9.add 3) = some v34 ∧ ∃ (i35 : Int) (i36 : Int) (a37 : Option Addr) (n38 : Nat) (c39 : Nat) (a40 : Option Addr) (n41 : Nat) (c42 : Nat),Value.agg #[v31,v32,v33,v34] = (.agg #[.int .i64 i35,.int .i64 i36,.slice a37 n38 c39,.slice a40 n41 c42]) ∧ call 36 #[(.agg #[.int .i64 i35,.int .i64 i36,.slice a37 n38 c39,.slice a40 n41 c42])] (fun v43 τ44 => ∃ υ45 : PH,PH.sub υ45 τ44 ∧ ∃ p46,v43 = .pointer p46 ∧ call 37 #[.pointer p46] (fun v47 τ48 => ∃ υ49 : PH,letI h905 : PH := PH.setCell υ49 p9b10 (.slice none 0 0); letI h908 : PH := PH.setCell h905 (p9b10.add 1) (.slice none 0 0); PH.sub υ49 τ48 ∧ ∃ (q50 : Bool),v47 = (.bool q50) ∧ br q50 (call 38 #[.pointer p46] (fun v51 τ52 => ∃ υ53 : PH,PH.sub υ53 τ52 ∧ ∃ (a54 : Option Addr) (n55 : Nat) (c56 : Nat) (a57 : Option Addr) (n58 : Nat) (c59 : Nat),letI h903 : PH := PH.setCell υ53 p9b10 (.slice a54 n55 c56); letI h906 : PH := PH.setCell h903 (p9b10.add 1) (.slice a57 n58 c59); v51 = (.agg #[.slice a54 n55 c56,.slice a57 n58 c59]) ∧ (∃ u60,PH.cell? υ53 p9b10 = some u60) ∧ PH.froz υ53 p9b10 = some false ∧ (∃ u61,PH.cell? h903 (p9b10.add 1) = some u61) ∧ PH.froz h903 (p9b10.add 1) = some false ∧ ∃ v62,PH.cell? h906 p9b10 = some v62 ∧ ∃ v63,PH.cell? h906 (p9b10.add 1) = some v63 ∧ Q (.tuple #[(.agg #[v62,v63]),.slice none 0 0,(.bool true)]) h906) υ49) (∃ p64,p46 = some p64 ∧ ∃ v65,PH.cell? υ49 (p64.add 4) = some v65 ∧ ∃ a66 n67 c68,v65 = .slice a66 n67 c68 ∧ (¬ (Addr.block p9b10 = Addr.block (p64.add 4) ∧ Addr.off p9b10 = Addr.off (p64.add 4))) ∧ (¬ (Addr.block (p9b10.add 1) = Addr.block (p64.add 4) ∧ Addr.off (p9b10.add 1) = Addr.off (p64.add 4))) ∧ (∃ u69,PH.cell? υ49 p9b10 = some u69) ∧ PH.froz υ49 p9b10 = some false ∧ (∃ u70,PH.cell? h905 (p9b10.add 1) = some u70) ∧ PH.froz h905 (p9b10.add 1) = some false ∧ ∃ v71,PH.cell? h908 p9b10 = some v71 ∧ ∃ v72,PH.cell? h908 (p9b10.add 1) = some v72 ∧ Q (.tuple #[(.agg #[v71,v72]),.slice a66 n67 c68,(.bool false)]) h908)) υ45) υ25)) h902
theorem E17_0 (call : CallR) (Q : QT) (i1 i2 : Int) (a3 : Option Addr) (n4 c5 : Nat) (a6 : Option Addr) (n7 c8 : Nat) (σ : PH) : ibody prog anns call 17 #[(.agg #[(.int .i64 i1),(.int .i64 i2),(.slice a3 n4 c5),(.slice a6 n7 c8)])] Q σ = S17_0 call Q i1 i2 a3 n4 c5 a6 n7 c8 σ := by
 kernel_rfl
def S20_0 (call : CallR) (Q : QT) (σ : PH) : Prop :=
 ∀ b1 : Nat,letI h915 : PH := PH.set σ b1 (.cells #[(.int .i64 ((-1) : Int)),(.int .i64 (2 : Int))] 3); σ b1 = none → ∀ b2 : Nat,letI h917 : PH := PH.set h915 b2 (.cells #[(.int .i64 ((-2) : Int)),(.int .i64 (3 : Int))] 3); h915 b2 = none → ∀ b3 : Nat,letI h919 : PH := PH.set h917 b3 (.cells #[(.slice (some ⟨b1,0,none⟩) 2 2),(.slice (some ⟨b2,0,none⟩) 2 2)] 33); h917 b3 = none → ∀ b4 : Nat,h919 b4 = none → call 25 #[(.agg #[.int .i64 0,(.int .i64 (3 : Int)),.slice none 0 0,(.slice (some ⟨b3,0,none⟩) 2 2)]),(.slice (some ⟨b4,0,none⟩) 1 1)] (fun v5 τ6 => ∃ υ7 : PH,PH.sub υ7 τ6 ∧ ∃ (a8 : Option Addr) (n9 : Nat) (c10 : Nat) (q11 : Bool),v5 = (.tuple #[.slice a8 n9 c10,(.bool q11)]) ∧ ∀ b12 : Nat,letI h901 : PH := PH.set υ7 b12 (.cells #[.int .i64 0,(.int .i64 (1 : Int)),(.int .i64 ((-1) : Int)),(.int .i64 (1 : Int)),.int .i64 0,(.int .i64 ((-1) : Int))] 50); υ7 b12 = none → ∀ b13 : Nat,letI h902 : PH := PH.set h901 b13 (.cells #[(.int .i64 (1 : Int))] 3); h901 b13 = none → ∀ b14 : Nat,letI h903 : PH := PH.set h902 b14 (.cells #[(.int .i64 (2 : Int))] 3); h902 b14 = none → ∀ b15 : Nat,letI h904 : PH := PH.set h903 b15 (.cells #[(.slice (some ⟨b13,0,none⟩) 1 1),(.slice (some ⟨b14,0,none⟩) 1 1)] 33); h903 b15 = none → ∀ b16 : Nat,letI h905 : PH := PH.set h904 b16 (.cells #[.int .i64 0,.int .i64 0,.slice none 0 0,.slice none 0 0] 29); letI p9b16 : Addr := ⟨b16,0,none⟩; letI h907 : PH := PH.setCell h905 p9b16 (.int .i64 (2 : Int)); letI h908 : PH := PH.setCell h907 (p9b16.add 1) (.int .i64 (2 : Int)); letI h909 : PH := PH.setCell h908 (p9b16.add 2) (.slice (some ⟨b12,0,none⟩) 2 2); letI h914 : PH := PH.setCell h909 (p9b16.add 3) (.slice (some ⟨b15,0,none⟩) 2 2); h904 b16 = none → (∃ u17,PH.cell? h905 p9b16 = some u17) ∧ PH.froz h905 p9b16 = some false ∧ (∃ u18,PH.cell? h907 (p9b16.add 1) = some u18) ∧ PH.froz h907 (p9b16.add 1) = some false ∧ (∃ u19,PH.cell? h908 (p9b16.add 2) = some u19) ∧ PH.froz h908 (p9b16.add 2) = some false ∧ (∃ u20,PH.cell? h909 (p9b16.add 3) = some u20) ∧ PH.froz h909 (p9b16.add 3) = some false ∧ ∃ v21,PH.cell? h914 p9b16 = some v21 ∧ ∃ v22,PH.cell? h914 (p9b16.add 1) = some v22 ∧ ∃ v23,PH.cell? h914 (p9b16.add 2) = some v23 ∧ ∃ v24,PH.cell? h914 (p9b16.add 3) = some v24 ∧ ∃ (i25 : Int) (i26 : Int) (a27 : Option Addr) (n28 : Nat) (c29 : Nat) (a30 : Option Addr) (n31 : Nat) (c32 : Nat),Value.agg #[v21,v22,v23,v24] = (.agg #[.int .i64 i25,.int .i64 i26,.slice a27 n28 c29,.slice a30 n31 c32]) ∧ call 17 #[(.agg #[.int .i64 i25,.int .i64 i26,.slice a27 n28 c29,.slice a30 n31 c32])] (fun v33 τ34 => ∃ υ35 : PH,PH.sub υ35 τ34 ∧ ∃ (a36 : Option Addr) (n37 : Nat) (c38 : Nat) (a39 : Option Addr) (n40 : Nat) (c41 : Nat) (a42 : Option Addr) (n43 : Nat) (c44 : Nat) (q45 : Bool),v33 = (.tuple #[(.agg #[.slice a36 n37 c38,.slice a39 n40 c41]),.slice a42 n43 c44,(.bool q45)]) ∧ ∀ b46 : Nat,letI h906 : PH := PH.set υ35 b46 (.cells #[.slice none 0 0,.slice none 0 0] 35); letI p9b46 : Addr := ⟨b46,0,none⟩; letI h910 : PH := PH.setCell h906 p9b46 (.slice a36 n37 c38); letI h912 : PH := PH.setCell h910 (p9b46.add 1) (.slice a39 n40 c41); υ35 b46 = none → (∃ u47,PH.cell? h906 p9b46 = some u47) ∧ PH.froz h906 p9b46 = some false ∧ (∃ u48,PH.cell? h910 (p9b46.add 1) = some u48) ∧ PH.froz h910 (p9b46.add 1) = some false ∧ ∃ v49,PH.cell? h912 (p9b16.add 3) = some v49 ∧ ∃ a50 n51 c52,v49 = .slice a50 n51 c52 ∧ letI h913 : PH := PH.setCell h912 (p9b16.add 3) (.slice a50 (Int.toNat (1 : Int)) c52); 0 ≤ (1 : Int) ∧ (1 : Int) ≤ (c52 : Int) ∧ (∃ u53,PH.cell? h912 (p9b16.add 3) = some u53) ∧ PH.froz h912 (p9b16.add 3) = some false ∧ ∃ v54,PH.cell? h913 p9b16 = some v54 ∧ ∃ v55,PH.cell? h913 (p9b16.add 1) = some v55 ∧ ∃ v56,PH.cell? h913 (p9b16.add 2) = some v56 ∧ ∃ v57,PH.cell? h913 (p9b16.add 3) = some v57 ∧ ∃ (i58 : Int) (i59 : Int) (a60 : Option Addr) (n61 : Nat) (c62 : Nat) (a63 : Option Addr) (n64 : Nat) (c65 : Nat),Value.agg #[v54,v55,v56,v57] = (.agg #[.int .i64 i58,.int .i64 i59,.slice a60 n61 c62,.slice a63 n64 c65]) ∧ call 17 #[(.agg #[.int .i64 i58,.int .i64 i59,.slice a60 n61 c62,.slice a63 n64 c65])] (fun v66 τ67 => ∃ υ68 : PH,PH.sub υ68 τ67 ∧ ∃ (a69 : Option Addr) (n70 : Nat) (c71 : Nat) (a72 : Option Addr) (n73 : Nat) (c74 : Nat) (a75 : Option Addr) (n76 : Nat) (c77 : Nat) (q78 : Bool),v66 = (.tuple #[(.agg #[.slice a69 n70 c71,.slice a72 n73 c74]),.slice a75 n76 c77,(.bool q78)]) ∧ ∀ b79 : Nat,letI h911 : PH := PH.set υ68 b79 (.cells #[.slice none 0 0,.slice none 0 0] 35); letI p9b79 : Addr := ⟨b79,0,none⟩; letI h916 : PH := PH.setCell h911 p9b79 (.slice a69 n70 c71); letI h918 : PH := PH.setCell h916 (p9b79.add 1) (.slice a72 n73 c74); υ68 b79 = none → (∃ u80,PH.cell? h911 p9b79 = some u80) ∧ PH.froz h911 p9b79 = some false ∧ (∃ u81,PH.cell? h916 (p9b79.add 1) = some u81) ∧ PH.froz h916 (p9b79.add 1) = some false ∧ br q11 (∀ b82 : Nat,h918 b82 = none → call 27 #[.slice a8 n9 c10,(.slice (some ⟨b82,0,none⟩) 3 3)] (fun v83 τ84 => ∃ υ85 : PH,PH.sub υ85 τ84 ∧ ∃ (q86 : Bool),v83 = (.bool q86) ∧ br q86 (br (!q45) (Q (.bool q78) υ85) (Q (.bool false) υ85)) (Q (.bool false) υ85)) (PH.set h918 b82 (.cells #[(.int .i64 (1 : Int)),(.int .i64 (2 : Int)),(.int .i64 (3 : Int))] 3))) (Q (.bool false) h918)) h913) h914) (PH.set h919 b4 (.cells #[(.int .i64 (1 : Int))] 3))
theorem E20_0 (call : CallR) (Q : QT) (σ : PH) : ibody prog anns call 20 #[] Q σ = S20_0 call Q σ := by
 kernel_rfl
abbrev T22_5 := Addr × Option Addr × Nat × Nat × Int × Int × Option Addr × Nat × Nat × Int × Int
abbrev T22_3 := Addr × Option Addr × Nat × Nat × Int × Int
abbrev T22_1 := Addr × Option Addr × Nat × Nat × Int × Int
abbrev T23_1 := Addr × Option Addr × Nat × Nat × Int × Int
noncomputable def code25 : Code := (Try.f25.body).getD .skip
noncomputable def i25 (p : Nat) (call : CallR) (K : IX → Env → PH → Prop) (e : Env) : PH → Prop := icode prog call (nav (pp p) code25) (anav (pp p) an25) K e
def k25 (p : Nat) : Env → Env := Ann.cut (anav (pp p) an25)
noncomputable def K25_0 (_ : CallR) (Q : QT) : KT := finK prog Try.f25 Q
noncomputable def K25_1 (call : CallR) (Q : QT) : KT := seqK (i25 63 call (K25_0 call Q)) (k25 31) (K25_0 call Q)
noncomputable def K25_2 (call : CallR) (Q : QT) : KT := blockK 2 (K25_1 call Q)
noncomputable def K25_3 (call : CallR) (Q : QT) (D3 : ET) : KT := loopK (k25 175) D3 (K25_2 call Q)
noncomputable def K25_4 (call : CallR) (Q : QT) (D3 : ET) : KT := blockK 3 (K25_3 call Q D3)
noncomputable def K25_5 (call : CallR) (Q : QT) (D3 : ET) : KT := blockK 4 (K25_4 call Q D3)
noncomputable def K25_6 (call : CallR) (Q : QT) (D3 D5 : ET) : KT := loopK (k25 11567) D5 (K25_5 call Q D3)
noncomputable def K25_7 (call : CallR) (Q : QT) (D3 D5 : ET) : KT := seqK (i25 249135 call (K25_6 call Q D3 D5)) (k25 118063) (K25_6 call Q D3 D5)
noncomputable def K25_8 (call : CallR) (Q : QT) (D3 D5 : ET) : KT := blockK 5 (K25_7 call Q D3 D5)
noncomputable def K25_9 (call : CallR) (Q : QT) (D3 D5 : ET) : KT := seqK (i25 8178991 call (K25_8 call Q D3 D5)) (k25 3984687) (K25_8 call Q D3 D5)
noncomputable def K25_10 (call : CallR) (Q : QT) (D3 D5 : ET) : KT := blockK 6 (K25_9 call Q D3 D5)
noncomputable def K25_11 (call : CallR) (Q : QT) : KT := seqK (i25 255 call (K25_0 call Q)) (k25 127) (K25_0 call Q)
noncomputable def K25_12 (call : CallR) (Q : QT) : KT := blockK 10 (K25_11 call Q)
noncomputable def K25_13 (call : CallR) (Q : QT) : KT := seqK (i25 31 call (K25_0 call Q)) (k25 15) (K25_0 call Q)
noncomputable def K25_14 (call : CallR) (Q : QT) : KT := blockK 0 (K25_13 call Q)
abbrev T25_7 := Addr × Addr × Addr × Bool × Int × Int × Bool × Option Addr × Nat × Nat × Int × Int × Option Addr × Nat × Nat × Int × Int
abbrev T25_5 := Addr × Addr × Addr × Bool × Option Addr × Nat × Nat × Int × Int
abbrev T25_9 := Option Addr × Nat × Nat × Option Addr × Nat × Nat × Int × Int
abbrev T25_3 := Addr × Addr × Addr × Bool
abbrev T25_1 := Addr × Addr × Addr × Option Addr × Nat × Nat × Int × Int
def S25_8 (call : CallR) (Q : QT) (R3 : T25_3 → PH → Prop) (R5 : T25_5 → PH → Prop) (R7 : T25_7 → PH → Prop) (r76 r77 r78 : Addr) (y79 : Bool) (x80 x81 : Int) (y82 : Bool) (l83 : Option Addr) (len84 cap85 : Nat) (x86 x87 : Int) (l88 : Option Addr) (len89 cap90 : Nat) (x91 x92 : Int) (σ : PH) : Prop :=
 br (decide (x92 < x91)) (∃ p110,l88 = some p110 ∧ 0 ≤ x92 ∧ x92 < (len89 : Int) ∧ ∃ v111,PH.cell? σ (p110.add (x92.toNat * 1)) = some v111 ∧ ∃ i112,v111 = .int .i64 i112 ∧ ∃ v113,PH.cell? σ r77 = some v113 ∧ ∃ a114 n115 c116,v113 = .slice a114 n115 c116 ∧ call 43 #[.slice a114 n115 c116,.int .i64 i112] (fun v117 τ118 => ∃ υ119 : PH,PH.sub υ119 τ118 ∧ ∃ i120,v117 = .int .i64 i120 ∧ br (decide (i120 > (0 : Int))) (R7 (r76,r77,r78,y79,x80,x81,true,l83,len84,cap85,x86,x87,l88,len89,cap90,x91,(IntKind.wrap .i64 (x92 + 1))) υ119) (br (i120 == (0 : Int)) (br (i112 != x80) (R7 (r76,r77,r78,y79,i112,(IntKind.wrap .i64 (x81 + 1)),y82,l83,len84,cap85,x86,x87,l88,len89,cap90,x91,(IntKind.wrap .i64 (x92 + 1))) υ119) (R7 (r76,r77,r78,y79,x80,x81,y82,l83,len84,cap85,x86,x87,l88,len89,cap90,x91,(IntKind.wrap .i64 (x92 + 1))) υ119)) (R7 (r76,r77,r78,y79,x80,x81,y82,l83,len84,cap85,x86,x87,l88,len89,cap90,x91,(IntKind.wrap .i64 (x92 + 1))) υ119))) σ) (br y82 (R5 (r76,r77,r78,y79,l83,len84,cap85,x86,(IntKind.wrap .i64 (x87 + 1))) σ) (br (decide (x81 > (1 : Int))) (R5 (r76,r77,r78,y79,l83,len84,cap85,x86,(IntKind.wrap .i64 (x87 + 1))) σ) (br (x81 == (0 : Int)) (Q (.tuple #[.slice none 0 0,(.bool false)]) σ) (call 42 #[.int .i64 x80,(.pointer (some r78))] (fun v121 τ122 => ∃ υ123 : PH,PH.sub υ123 τ122 ∧ ∃ (q124 : Bool),v121 = (.bool q124) ∧ R5 (r76,r77,r78,true,l83,len84,cap85,x86,(IntKind.wrap .i64 (x87 + 1))) υ123) σ))))
def S25_7 (call : CallR) (Q : QT) (R3 : T25_3 → PH → Prop) (R5 : T25_5 → PH → Prop) (r76 r77 r78 : Addr) (y79 : Bool) (x80 x81 : Int) (y82 : Bool) (l83 : Option Addr) (len84 cap85 : Nat) (x86 x87 : Int) (l88 : Option Addr) (len89 cap90 : Nat) (x91 x92 : Int) (σ : PH) : Prop := iloopS (fun (R7 : T25_7 → PH → Prop) (x : T25_7) σ => S25_8 call Q R3 R5 R7 x.1 x.2.1 x.2.2.1 x.2.2.2.1 x.2.2.2.2.1 x.2.2.2.2.2.1 x.2.2.2.2.2.2.1 x.2.2.2.2.2.2.2.1 x.2.2.2.2.2.2.2.2.1 x.2.2.2.2.2.2.2.2.2.1 x.2.2.2.2.2.2.2.2.2.2.1 x.2.2.2.2.2.2.2.2.2.2.2.1 x.2.2.2.2.2.2.2.2.2.2.2.2.1 x.2.2.2.2.2.2.2.2.2.2.2.2.2.1 x.2.2.2.2.2.2.2.2.2.2.2.2.2.2.1 x.2.2.2.2.2.2.2.2.2.2.2.2.2.2.2.1 x.2.2.2.2.2.2.2.2.2.2.2.2.2.2.2.2 σ) (r76,r77,r78,y79,x80,x81,y82,l83,len84,cap85,x86,x87,l88,len89,cap90,x91,x92) σ
def S25_6 (call : CallR) (Q : QT) (R3 : T25_3 → PH → Prop) (R5 : T25_5 → PH → Prop) (r53 r54 r55 : Addr) (y56 : Bool) (l57 : Option Addr) (len58 cap59 : Nat) (x60 x61 : Int) (σ : PH) : Prop :=
 br (decide (x61 < x60)) (∃ p71,l57 = some p71 ∧ 0 ≤ x61 ∧ x61 < (len58 : Int) ∧ ∃ v72,PH.cell? σ (p71.add (x61.toNat * 1)) = some v72 ∧ ∃ a73 n74 c75,v72 = .slice a73 n74 c75 ∧ S25_7 call Q R3 R5 r53 r54 r55 y56 (0 : Int) (0 : Int) false l57 len58 cap59 x60 x61 a73 n74 c75 (n74 : Int) (0 : Int) σ) (R3 (r53,r54,r55,y56) σ)
def S25_5 (call : CallR) (Q : QT) (R3 : T25_3 → PH → Prop) (r53 r54 r55 : Addr) (y56 : Bool) (l57 : Option Addr) (len58 cap59 : Nat) (x60 x61 : Int) (σ : PH) : Prop := iloopS (fun (R5 : T25_5 → PH → Prop) (x : T25_5) σ => S25_6 call Q R3 R5 x.1 x.2.1 x.2.2.1 x.2.2.2.1 x.2.2.2.2.1 x.2.2.2.2.2.1 x.2.2.2.2.2.2.1 x.2.2.2.2.2.2.2.1 x.2.2.2.2.2.2.2.2 σ) (r53,r54,r55,y56,l57,len58,cap59,x60,x61) σ
def S25_10 (call : CallR) (Q : QT) (R9 : T25_9 → PH → Prop) (l129 : Option Addr) (len130 cap131 : Nat) (l132 : Option Addr) (len133 cap134 : Nat) (x135 x136 : Int) (σ : PH) : Prop :=
 br (decide (x136 < x135)) (∃ p145,l132 = some p145 ∧ 0 ≤ x136 ∧ x136 < (len133 : Int) ∧ ∃ v146,PH.cell? σ (p145.add (x136.toNat * 1)) = some v146 ∧ ∃ i147,v146 = .int .i64 i147 ∧ br (i147 != (0 : Int)) (∀ b148 : Nat,σ b148 = none → iappend prog 3 (.slice l129 len130 cap131) (.slice (some ⟨b148,0,none⟩) 1 1) (fun v149 τ150 => ∃ a151 n152 c153,v149 = .slice a151 n152 c153 ∧ R9 (a151,n152,c153,l132,len133,cap134,x135,(IntKind.wrap .i64 (x136 + 1))) τ150) (PH.set σ b148 (.cells #[(.int .i64 (IntKind.wrap .i64 (i147 * (IntKind.wrap .i64 (x136 + 1)))))] 3))) (R9 (l129,len130,cap131,l132,len133,cap134,x135,(IntKind.wrap .i64 (x136 + 1))) σ)) (Q (.tuple #[.slice l129 len130 cap131,(.bool true)]) σ)
def S25_9 (call : CallR) (Q : QT) (l129 : Option Addr) (len130 cap131 : Nat) (l132 : Option Addr) (len133 cap134 : Nat) (x135 x136 : Int) (σ : PH) : Prop := iloopS (fun (R9 : T25_9 → PH → Prop) (x : T25_9) σ => S25_10 call Q R9 x.1 x.2.1 x.2.2.1 x.2.2.2.1 x.2.2.2.2.1 x.2.2.2.2.2.1 x.2.2.2.2.2.2.1 x.2.2.2.2.2.2.2 σ) (l129,len130,cap131,l132,len133,cap134,x135,x136) σ
def S25_4 (call : CallR) (Q : QT) (R3 : T25_3 → PH → Prop) (r41 r42 r43 : Addr) (y44 : Bool) (σ : PH) : Prop :=
 br y44 (∃ v49,PH.cell? σ (r41.add 3) = some v49 ∧ ∃ a50 n51 c52,v49 = .slice a50 n51 c52 ∧ S25_5 call Q R3 r41 r42 r43 false a50 n51 c52 (n51 : Int) (0 : Int) σ) (∃ v125,PH.cell? σ r42 = some v125 ∧ ∃ a126 n127 c128,v125 = .slice a126 n127 c128 ∧ S25_9 call Q none 0 0 a126 n127 c128 (n127 : Int) (0 : Int) σ)
def S25_3 (call : CallR) (Q : QT) (r41 r42 r43 : Addr) (y44 : Bool) (σ : PH) : Prop := iloopS (fun (R3 : T25_3 → PH → Prop) (x : T25_3) σ => S25_4 call Q R3 x.1 x.2.1 x.2.2.1 x.2.2.2 σ) (r41,r42,r43,y44) σ
def S25_2 (call : CallR) (Q : QT) (R1 : T25_1 → PH → Prop) (r18 r19 r20 : Addr) (l21 : Option Addr) (len22 cap23 : Nat) (x24 x25 : Int) (σ : PH) : Prop :=
 br (decide (x25 < x24)) (∃ p34,l21 = some p34 ∧ 0 ≤ x25 ∧ x25 < (len22 : Int) ∧ ∃ v35,PH.cell? σ (p34.add (x25.toNat * 1)) = some v35 ∧ ∃ i36,v35 = .int .i64 i36 ∧ call 42 #[.int .i64 i36,(.pointer (some r20))] (fun v37 τ38 => ∃ υ39 : PH,PH.sub υ39 τ38 ∧ ∃ (q40 : Bool),v37 = (.bool q40) ∧ br (!q40) (Q (.tuple #[.slice none 0 0,(.bool false)]) υ39) (R1 (r18,r19,r20,l21,len22,cap23,x24,(IntKind.wrap .i64 (x25 + 1))) υ39)) σ) (S25_3 call Q r18 r19 r20 true σ)
def S25_1 (call : CallR) (Q : QT) (r18 r19 r20 : Addr) (l21 : Option Addr) (len22 cap23 : Nat) (x24 x25 : Int) (σ : PH) : Prop := iloopS (fun (R1 : T25_1 → PH → Prop) (x : T25_1) σ => S25_2 call Q R1 x.1 x.2.1 x.2.2.1 x.2.2.2.1 x.2.2.2.2.1 x.2.2.2.2.2.1 x.2.2.2.2.2.2.1 x.2.2.2.2.2.2.2 σ) (r18,r19,r20,l21,len22,cap23,x24,x25) σ
def S25_0 (call : CallR) (Q : QT) (i1 i2 : Int) (a3 : Option Addr) (n4 c5 : Nat) (a6 : Option Addr) (n7 c8 : Nat) (a9 : Option Addr) (n10 c11 : Nat) (σ : PH) : Prop :=
 ∀ b12 : Nat,letI h901 : PH := PH.set σ b12 (.cells #[.int .i64 i1,.int .i64 i2,.slice a3 n4 c5,.slice a6 n7 c8] 29); σ b12 = none → ∃ v13,PH.cell? h901 ((⟨b12,0,none⟩ : Addr).add 1) = some v13 ∧ ∃ i14,v13 = .int .i64 i14 ∧ 0 ≤ (if i14 < (0 : Int) then (0 : Int) else i14) ∧ (if i14 < (0 : Int) then (0 : Int) else i14) ≤ (if i14 < (0 : Int) then (0 : Int) else i14) ∧ (8 : Int) * (if i14 < (0 : Int) then (0 : Int) else i14) ≤ 2 ^ 47 ∧ (if i14 < (0 : Int) then (0 : Int) else i14) < 2 ^ 62 ∧ ∀ b15 : Nat,letI h902 : PH := PH.set h901 b15 (.cells (zeros (.int .i64 (0 : Int)) (Int.toNat (if i14 < (0 : Int) then (0 : Int) else i14))) 3); h901 b15 = none → ∀ b16 : Nat,letI h903 : PH := PH.set h902 b16 (.cells #[.slice none 0 0] 33); letI p9b16 : Addr := ⟨b16,0,none⟩; h902 b16 = none → (∃ u17,PH.cell? h903 p9b16 = some u17) ∧ PH.froz h903 p9b16 = some false ∧ S25_1 call Q (⟨b12,0,none⟩ : Addr) p9b16 p9b16 a9 n10 c11 (n10 : Int) (0 : Int) (PH.setCell h903 p9b16 (.slice (some ⟨b15,0,none⟩) (Int.toNat (if i14 < (0 : Int) then (0 : Int) else i14)) (Int.toNat (if i14 < (0 : Int) then (0 : Int) else i14))))
noncomputable def M25_7 (x : T25_7) : Env := ([oo,oo,some (.pointer (some x.1)),oo,oo,oo,some (.pointer (some x.2.1)),some (.func (.func 42) #[] #[(.pointer (some x.2.2.1))]),oo,oo,some (.bool x.2.2.2.1),oo,oo,some (.int .i64 x.2.2.2.2.1),some (.int .i64 x.2.2.2.2.2.1),some (.bool x.2.2.2.2.2.2.1),oo,oo,oo,oo,oo,oo,oo,oo,oo,oo,oo,oo,oo,oo,oo,oo,oo,oo,oo,oo,oo,oo,oo,oo,some (.slice x.2.2.2.2.2.2.2.1 x.2.2.2.2.2.2.2.2.1 x.2.2.2.2.2.2.2.2.2.1),some (.int .i64 x.2.2.2.2.2.2.2.2.2.2.1),some (.int .i64 x.2.2.2.2.2.2.2.2.2.2.2.1),oo,oo,oo,some (.slice x.2.2.2.2.2.2.2.2.2.2.2.2.1 x.2.2.2.2.2.2.2.2.2.2.2.2.2.1 x.2.2.2.2.2.2.2.2.2.2.2.2.2.2.1),some (.int .i64 x.2.2.2.2.2.2.2.2.2.2.2.2.2.2.2.1),some (.int .i64 x.2.2.2.2.2.2.2.2.2.2.2.2.2.2.2.2)] ++ rp 52)
noncomputable def M25_5 (x : T25_5) : Env := ([oo,oo,some (.pointer (some x.1)),oo,oo,oo,some (.pointer (some x.2.1)),some (.func (.func 42) #[] #[(.pointer (some x.2.2.1))]),oo,oo,some (.bool x.2.2.2.1),oo,oo,oo,oo,oo,oo,oo,oo,oo,oo,oo,oo,oo,oo,oo,oo,oo,oo,oo,oo,oo,oo,oo,oo,oo,oo,oo,oo,oo,some (.slice x.2.2.2.2.1 x.2.2.2.2.2.1 x.2.2.2.2.2.2.1),some (.int .i64 x.2.2.2.2.2.2.2.1),some (.int .i64 x.2.2.2.2.2.2.2.2)] ++ rp 58)
noncomputable def M25_9 (x : T25_9) : Env := ([oo,oo,oo,oo,oo,oo,oo,oo,oo,oo,oo,oo,oo,oo,oo,oo,oo,oo,oo,some (.slice x.1 x.2.1 x.2.2.1),oo,oo,oo,oo,oo,oo,oo,oo,oo,oo,oo,oo,oo,oo,oo,oo,oo,oo,oo,oo,oo,oo,oo,oo,oo,oo,oo,oo,oo,oo,oo,oo,oo,oo,oo,oo,oo,oo,oo,oo,oo,oo,oo,oo,oo,oo,oo,oo,oo,oo,oo,oo,oo,oo,oo,oo,oo,oo,oo,oo,oo,oo,oo,some (.slice x.2.2.2.1 x.2.2.2.2.1 x.2.2.2.2.2.1),some (.int .i64 x.2.2.2.2.2.2.1),some (.int .i64 x.2.2.2.2.2.2.2)] ++ rp 15)
noncomputable def M25_3 (x : T25_3) : Env := ([oo,oo,some (.pointer (some x.1)),oo,oo,oo,some (.pointer (some x.2.1)),some (.func (.func 42) #[] #[(.pointer (some x.2.2.1))]),oo,oo,some (.bool x.2.2.2)] ++ rp 90)
noncomputable def M25_1 (x : T25_1) : Env := ([oo,oo,some (.pointer (some x.1)),oo,oo,oo,some (.pointer (some x.2.1)),some (.func (.func 42) #[] #[(.pointer (some x.2.2.1))]),oo,oo,oo,oo,oo,oo,oo,oo,oo,oo,oo,oo,oo,oo,oo,oo,oo,oo,oo,some (.slice x.2.2.2.1 x.2.2.2.2.1 x.2.2.2.2.2.1),some (.int .i64 x.2.2.2.2.2.2.1),some (.int .i64 x.2.2.2.2.2.2.2)] ++ rp 71)
noncomputable def L25_7 (call : CallR) (Q : QT) (D3 D5 : ET) (r76 r77 r78 : Addr) (y79 : Bool) (x80 x81 : Int) (y82 : Bool) (l83 : Option Addr) (len84 cap85 : Nat) (x86 x87 : Int) (l88 : Option Addr) (len89 cap90 : Nat) (x91 x92 : Int) : PH → Prop := iloop (i25 39636271 call) (k25 22859055) (K25_10 call Q D3 D5) (M25_7 (r76,r77,r78,y79,x80,x81,y82,l83,len84,cap85,x86,x87,l88,len89,cap90,x91,x92))
noncomputable def L25_5 (call : CallR) (Q : QT) (D3 : ET) (r53 r54 r55 : Addr) (y56 : Bool) (l57 : Option Addr) (len58 cap59 : Nat) (x60 x61 : Int) : PH → Prop := iloop (i25 19759 call) (k25 11567) (K25_5 call Q D3) (M25_5 (r53,r54,r55,y56,l57,len58,cap59,x60,x61))
noncomputable def L25_9 (call : CallR) (Q : QT) (l129 : Option Addr) (len130 cap131 : Nat) (l132 : Option Addr) (len133 cap134 : Nat) (x135 x136 : Int) : PH → Prop := iloop (i25 1215 call) (k25 703) (K25_12 call Q) (M25_9 (l129,len130,cap131,l132,len133,cap134,x135,x136))
noncomputable def L25_3 (call : CallR) (Q : QT) (r41 r42 r43 : Addr) (y44 : Bool) : PH → Prop := iloop (i25 303 call) (k25 175) (K25_2 call Q) (M25_3 (r41,r42,r43,y44))
noncomputable def L25_1 (call : CallR) (Q : QT) (r18 r19 r20 : Addr) (l21 : Option Addr) (len22 cap23 : Nat) (x24 x25 : Int) : PH → Prop := iloop (i25 151 call) (k25 87) (K25_14 call Q) (M25_1 (r18,r19,r20,l21,len22,cap23,x24,x25))
theorem E25_7 (call : CallR) (Q : QT) (D3 D5 : ET) : L25_7 call Q D3 D5 = S25_7 call Q (fun y => D3 (M25_3 y)) (fun y => D5 (M25_5 y)) := by
 repeat funext _
 refine iloop_inv M25_7 (fun e => (va (gv e 2),va (gv e 6),va (vf3 (gv e 7) 0),vb (gv e 10),vi (gv e 13),vi (gv e 14),vb (gv e 15),sa (gv e 40),sl (gv e 40),sc (gv e 40),vi (gv e 41),vi (gv e 42),sa (gv e 46),sl (gv e 46),sc (gv e 46),vi (gv e 47),vi (gv e 48))) (fun _ => rfl) _ _ _ _ (fun D7 x σ => ?_) _ _
 kernel_rfl
theorem E25_5 (call : CallR) (Q : QT) (D3 : ET) : L25_5 call Q D3 = S25_5 call Q (fun y => D3 (M25_3 y)) := by
 repeat funext _
 refine iloop_inv M25_5 (fun e => (va (gv e 2),va (gv e 6),va (vf3 (gv e 7) 0),vb (gv e 10),sa (gv e 40),sl (gv e 40),sc (gv e 40),vi (gv e 41),vi (gv e 42))) (fun _ => rfl) _ _ _ _ (fun D5 x σ => ?_) _ _
 rw [S25_6,← E25_7 call Q D3 D5]
 kernel_rfl
theorem E25_9 (call : CallR) (Q : QT) : L25_9 call Q = S25_9 call Q := by
 repeat funext _
 refine iloop_inv M25_9 (fun e => (sa (gv e 19),sl (gv e 19),sc (gv e 19),sa (gv e 83),sl (gv e 83),sc (gv e 83),vi (gv e 84),vi (gv e 85))) (fun _ => rfl) _ _ _ _ (fun D9 x σ => ?_) _ _
 kernel_rfl
theorem E25_3 (call : CallR) (Q : QT) : L25_3 call Q = S25_3 call Q := by
 repeat funext _
 refine iloop_inv M25_3 (fun e => (va (gv e 2),va (gv e 6),va (vf3 (gv e 7) 0),vb (gv e 10))) (fun _ => rfl) _ _ _ _ (fun D3 x σ => ?_) _ _
 rw [S25_4,← E25_5 call Q D3,← E25_9 call Q]
 kernel_rfl
theorem E25_1 (call : CallR) (Q : QT) : L25_1 call Q = S25_1 call Q := by
 repeat funext _
 refine iloop_inv M25_1 (fun e => (va (gv e 2),va (gv e 6),va (vf3 (gv e 7) 0),sa (gv e 27),sl (gv e 27),sc (gv e 27),vi (gv e 28),vi (gv e 29))) (fun _ => rfl) _ _ _ _ (fun D1 x σ => ?_) _ _
 rw [S25_2,← E25_3 call Q]
 kernel_rfl
theorem E25_0 (call : CallR) (Q : QT) (i1 i2 : Int) (a3 : Option Addr) (n4 c5 : Nat) (a6 : Option Addr) (n7 c8 : Nat) (a9 : Option Addr) (n10 c11 : Nat) (σ : PH) : ibody prog anns call 25 #[(.agg #[(.int .i64 i1),(.int .i64 i2),(.slice a3 n4 c5),(.slice a6 n7 c8)]),(.slice a9 n10 c11)] Q σ = S25_0 call Q i1 i2 a3 n4 c5 a6 n7 c8 a9 n10 c11 σ := by
 rw [S25_0,← E25_1 call Q]
 kernel_rfl
noncomputable def code27 : Code := (Try.f27.body).getD .skip
noncomputable def i27 (p : Nat) (call : CallR) (K : IX → Env → PH → Prop) (e : Env) : PH → Prop := icode prog call (nav (pp p) code27) (anav (pp p) an27) K e
def k27 (p : Nat) : Env → Env := Ann.cut (anav (pp p) an27)
noncomputable def K27_0 (_ : CallR) (Q : QT) : KT := finK prog Try.f27 Q
noncomputable def K27_1 (call : CallR) (Q : QT) : KT := seqK (i27 15 call (K27_0 call Q)) (k27 7) (K27_0 call Q)
noncomputable def K27_2 (call : CallR) (Q : QT) : KT := blockK 0 (K27_1 call Q)
abbrev T27_1 := Option Addr × Nat × Nat × Option Addr × Nat × Nat × Int × Int
def S27_2 (call : CallR) (Q : QT) (R1 : T27_1 → PH → Prop) (l7 : Option Addr) (len8 cap9 : Nat) (l10 : Option Addr) (len11 cap12 : Nat) (x13 x14 : Int) (σ : PH) : Prop :=
 br (decide (x14 < x13)) (∃ p23,l7 = some p23 ∧ 0 ≤ x14 ∧ x14 < (len8 : Int) ∧ ∃ v24,PH.cell? σ (p23.add (x14.toNat * 1)) = some v24 ∧ ∃ i25,v24 = .int .i64 i25 ∧ ∃ p26,l10 = some p26 ∧ 0 ≤ x14 ∧ x14 < (len11 : Int) ∧ ∃ v27,PH.cell? σ (p26.add (x14.toNat * 1)) = some v27 ∧ ∃ i28,v27 = .int .i64 i28 ∧ br (i25 != i28) (Q (.bool false) σ) (R1 (l7,len8,cap9,l10,len11,cap12,x13,(IntKind.wrap .i64 (x14 + 1))) σ)) (Q (.bool true) σ)
def S27_1 (call : CallR) (Q : QT) (l7 : Option Addr) (len8 cap9 : Nat) (l10 : Option Addr) (len11 cap12 : Nat) (x13 x14 : Int) (σ : PH) : Prop := iloopS (fun (R1 : T27_1 → PH → Prop) (x : T27_1) σ => S27_2 call Q R1 x.1 x.2.1 x.2.2.1 x.2.2.2.1 x.2.2.2.2.1 x.2.2.2.2.2.1 x.2.2.2.2.2.2.1 x.2.2.2.2.2.2.2 σ) (l7,len8,cap9,l10,len11,cap12,x13,x14) σ
def S27_0 (call : CallR) (Q : QT) (a1 : Option Addr) (n2 c3 : Nat) (a4 : Option Addr) (n5 c6 : Nat) (σ : PH) : Prop :=
 br ((n2 : Int) != (n5 : Int)) (Q (.bool false) σ) (S27_1 call Q a1 n2 c3 a4 n5 c6 (n2 : Int) (0 : Int) σ)
noncomputable def M27_1 (x : T27_1) : Env := ([some (.slice x.1 x.2.1 x.2.2.1),some (.slice x.2.2.2.1 x.2.2.2.2.1 x.2.2.2.2.2.1),oo,oo,oo,oo,oo,oo,oo,oo,oo,oo,some (.int .i64 x.2.2.2.2.2.2.1),some (.int .i64 x.2.2.2.2.2.2.2)] ++ rp 12)
noncomputable def L27_1 (call : CallR) (Q : QT) (l7 : Option Addr) (len8 cap9 : Nat) (l10 : Option Addr) (len11 cap12 : Nat) (x13 x14 : Int) : PH → Prop := iloop (i27 75 call) (k27 43) (K27_2 call Q) (M27_1 (l7,len8,cap9,l10,len11,cap12,x13,x14))
theorem E27_1 (call : CallR) (Q : QT) : L27_1 call Q = S27_1 call Q := by
 repeat funext _
 refine iloop_inv M27_1 (fun e => (sa (gv e 0),sl (gv e 0),sc (gv e 0),sa (gv e 1),sl (gv e 1),sc (gv e 1),vi (gv e 12),vi (gv e 13))) (fun _ => rfl) _ _ _ _ (fun D1 x σ => ?_) _ _
 kernel_rfl
theorem E27_0 (call : CallR) (Q : QT) (a1 : Option Addr) (n2 c3 : Nat) (a4 : Option Addr) (n5 c6 : Nat) (σ : PH) : ibody prog anns call 27 #[(.slice a1 n2 c3),(.slice a4 n5 c6)] Q σ = S27_0 call Q a1 n2 c3 a4 n5 c6 σ := by
 rw [S27_0,← E27_1 call Q]
 kernel_rfl
noncomputable def code35 : Code := (Try.f35.body).getD .skip
noncomputable def i35 (p : Nat) (call : CallR) (K : IX → Env → PH → Prop) (e : Env) : PH → Prop := icode prog call (nav (pp p) code35) (anav (pp p) an35) K e
def k35 (p : Nat) : Env → Env := Ann.cut (anav (pp p) an35)
noncomputable def K35_0 (_ : CallR) (Q : QT) : KT := finK prog Try.f35 Q
noncomputable def K35_1 (call : CallR) (Q : QT) : KT := seqK (i35 63 call (K35_0 call Q)) (k35 31) (K35_0 call Q)
noncomputable def K35_2 (call : CallR) (Q : QT) : KT := blockK 2 (K35_1 call Q)
noncomputable def K35_3 (call : CallR) (Q : QT) (D3 : ET) : KT := loopK (k35 175) D3 (K35_2 call Q)
noncomputable def K35_4 (call : CallR) (Q : QT) (D3 : ET) : KT := seqK (i35 3887 call (K35_3 call Q D3)) (k35 1839) (K35_3 call Q D3)
noncomputable def K35_5 (call : CallR) (Q : QT) (D3 : ET) : KT := blockK 3 (K35_4 call Q D3)
noncomputable def K35_6 (call : CallR) (Q : QT) (D3 : ET) : KT := blockK 4 (K35_5 call Q D3)
noncomputable def K35_7 (call : CallR) (Q : QT) : KT := seqK (i35 31 call (K35_0 call Q)) (k35 15) (K35_0 call Q)
noncomputable def K35_8 (call : CallR) (Q : QT) : KT := blockK 0 (K35_7 call Q)
abbrev T35_5 := Addr × Option Addr × Nat × Nat × Int × Int × Option Addr × Nat × Nat × Int × Int
abbrev T35_3 := Addr × Option Addr × Nat × Nat × Int × Int
abbrev T35_1 := Addr × Option Addr × Nat × Nat × Int × Int
def S35_6 (call : CallR) (Q : QT) (R3 : T35_3 → PH → Prop) (R5 : T35_5 → PH → Prop) (r96 : Addr) (l97 : Option Addr) (len98 cap99 : Nat) (x100 x101 : Int) (l102 : Option Addr) (len103 cap104 : Nat) (x105 x106 : Int) (σ : PH) : Prop :=
 br (decide (x106 < x105)) (∃ p118,l102 = some p118 ∧ 0 ≤ x106 ∧ x106 < (len103 : Int) ∧ ∃ v119,PH.cell? σ (p118.add (x106.toNat * 1)) = some v119 ∧ ∃ i120,v119 = .int .i64 i120 ∧ br (i120 == (0 : Int)) (Q (.int .i64 (1 : Int)) σ) (∃ v121,PH.cell? σ (r96.add 1) = some v121 ∧ ∃ i122,v121 = .int .i64 i122 ∧ br (decide (i120 > i122)) (Q (.int .i64 (1 : Int)) σ) (∃ v123,PH.cell? σ (r96.add 1) = some v123 ∧ ∃ i124,v123 = .int .i64 i124 ∧ br (decide (i120 < (IntKind.wrap .i64 (0 - i124)))) (Q (.int .i64 (1 : Int)) σ) (R5 (r96,l97,len98,cap99,x100,x101,l102,len103,cap104,x105,(IntKind.wrap .i64 (x106 + 1))) σ)))) (R3 (r96,l97,len98,cap99,x100,(IntKind.wrap .i64 (x101 + 1))) σ)
def S35_5 (call : CallR) (Q : QT) (R3 : T35_3 → PH → Prop) (r96 : Addr) (l97 : Option Addr) (len98 cap99 : Nat) (x100 x101 : Int) (l102 : Option Addr) (len103 cap104 : Nat) (x105 x106 : Int) (σ : PH) : Prop := iloopS (fun (R5 : T35_5 → PH → Prop) (x : T35_5) σ => S35_6 call Q R3 R5 x.1 x.2.1 x.2.2.1 x.2.2.2.1 x.2.2.2.2.1 x.2.2.2.2.2.1 x.2.2.2.2.2.2.1 x.2.2.2.2.2.2.2.1 x.2.2.2.2.2.2.2.2.1 x.2.2.2.2.2.2.2.2.2.1 x.2.2.2.2.2.2.2.2.2.2 σ) (r96,l97,len98,cap99,x100,x101,l102,len103,cap104,x105,x106) σ
def S35_4 (call : CallR) (Q : QT) (R3 : T35_3 → PH → Prop) (r79 : Addr) (l80 : Option Addr) (len81 cap82 : Nat) (x83 x84 : Int) (σ : PH) : Prop :=
 br (decide (x84 < x83)) (∃ p91,l80 = some p91 ∧ 0 ≤ x84 ∧ x84 < (len81 : Int) ∧ ∃ v92,PH.cell? σ (p91.add (x84.toNat * 1)) = some v92 ∧ ∃ a93 n94 c95,v92 = .slice a93 n94 c95 ∧ S35_5 call Q R3 r79 l80 len81 cap82 x83 x84 a93 n94 c95 (n94 : Int) (0 : Int) σ) (Q (.int .i64 (0 : Int)) σ)
def S35_3 (call : CallR) (Q : QT) (r79 : Addr) (l80 : Option Addr) (len81 cap82 : Nat) (x83 x84 : Int) (σ : PH) : Prop := iloopS (fun (R3 : T35_3 → PH → Prop) (x : T35_3) σ => S35_4 call Q R3 x.1 x.2.1 x.2.2.1 x.2.2.2.1 x.2.2.2.2.1 x.2.2.2.2.2 σ) (r79,l80,len81,cap82,x83,x84) σ
def S35_2 (call : CallR) (Q : QT) (R1 : T35_1 → PH → Prop) (r32 : Addr) (l33 : Option Addr) (len34 cap35 : Nat) (x36 x37 : Int) (σ : PH) : Prop :=
 br (decide (x37 < x36)) (∃ p44,l33 = some p44 ∧ 0 ≤ x37 ∧ x37 < (len34 : Int) ∧ ∃ v45,PH.cell? σ (p44.add (Int.toNat x37 * 3)) = some v45 ∧ ∃ v46,PH.cell? σ ((p44.add (Int.toNat x37 * 3)).add 1) = some v46 ∧ ∃ v47,PH.cell? σ ((p44.add (Int.toNat x37 * 3)).add 2) = some v47 ∧ ∃ (i48 : Int) (i49 : Int) (i50 : Int),Value.agg #[v45,v46,v47] = (.agg #[.int .i64 i48,.int .i64 i49,.int .i64 i50]) ∧ ∀ b51 : Nat,letI h901 : PH := PH.set σ b51 (.cells #[.int .i64 0,.int .i64 0,.int .i64 0] 50); letI p9b51 : Addr := ⟨b51,0,none⟩; letI h902 : PH := PH.setCell h901 p9b51 (.int .i64 i48); letI h903 : PH := PH.setCell h902 (p9b51.add 1) (.int .i64 i49); letI h904 : PH := PH.setCell h903 (p9b51.add 2) (.int .i64 i50); σ b51 = none → (∃ u52,PH.cell? h901 p9b51 = some u52) ∧ PH.froz h901 p9b51 = some false ∧ (∃ u53,PH.cell? h902 (p9b51.add 1) = some u53) ∧ PH.froz h902 (p9b51.add 1) = some false ∧ (∃ u54,PH.cell? h903 (p9b51.add 2) = some u54) ∧ PH.froz h903 (p9b51.add 2) = some false ∧ ∃ v55,PH.cell? h904 p9b51 = some v55 ∧ ∃ i56,v55 = .int .i64 i56 ∧ br (decide (i56 < (0 : Int))) (Q (.int .i64 (1 : Int)) h904) (∃ v57,PH.cell? h904 p9b51 = some v57 ∧ ∃ i58,v57 = .int .i64 i58 ∧ ∃ v59,PH.cell? h904 r32 = some v59 ∧ ∃ i60,v59 = .int .i64 i60 ∧ br (decide (i58 ≥ i60)) (Q (.int .i64 (1 : Int)) h904) (∃ v61,PH.cell? h904 (p9b51.add 1) = some v61 ∧ ∃ i62,v61 = .int .i64 i62 ∧ br (decide (i62 < (0 : Int))) (Q (.int .i64 (1 : Int)) h904) (∃ v63,PH.cell? h904 (p9b51.add 1) = some v63 ∧ ∃ i64,v63 = .int .i64 i64 ∧ ∃ v65,PH.cell? h904 r32 = some v65 ∧ ∃ i66,v65 = .int .i64 i66 ∧ br (decide (i64 ≥ i66)) (Q (.int .i64 (1 : Int)) h904) (∃ v67,PH.cell? h904 p9b51 = some v67 ∧ ∃ i68,v67 = .int .i64 i68 ∧ ∃ v69,PH.cell? h904 (p9b51.add 1) = some v69 ∧ ∃ i70,v69 = .int .i64 i70 ∧ br (i68 == i70) (Q (.int .i64 (1 : Int)) h904) (∃ v71,PH.cell? h904 (p9b51.add 2) = some v71 ∧ ∃ i72,v71 = .int .i64 i72 ∧ br (decide (i72 < ((-1048576) : Int))) (Q (.int .i64 (1 : Int)) h904) (∃ v73,PH.cell? h904 (p9b51.add 2) = some v73 ∧ ∃ i74,v73 = .int .i64 i74 ∧ br (decide (i74 > (1048576 : Int))) (Q (.int .i64 (1 : Int)) h904) (R1 (r32,l33,len34,cap35,x36,(IntKind.wrap .i64 (x37 + 1))) h904)))))))) (∃ v75,PH.cell? σ (r32.add 3) = some v75 ∧ ∃ a76 n77 c78,v75 = .slice a76 n77 c78 ∧ S35_3 call Q r32 a76 n77 c78 (n77 : Int) (0 : Int) σ)
def S35_1 (call : CallR) (Q : QT) (r32 : Addr) (l33 : Option Addr) (len34 cap35 : Nat) (x36 x37 : Int) (σ : PH) : Prop := iloopS (fun (R1 : T35_1 → PH → Prop) (x : T35_1) σ => S35_2 call Q R1 x.1 x.2.1 x.2.2.1 x.2.2.2.1 x.2.2.2.2.1 x.2.2.2.2.2 σ) (r32,l33,len34,cap35,x36,x37) σ
def S35_0 (call : CallR) (Q : QT) (i1 i2 : Int) (a3 : Option Addr) (n4 c5 : Nat) (a6 : Option Addr) (n7 c8 : Nat) (σ : PH) : Prop :=
 ∀ b9 : Nat,letI h901 : PH := PH.set σ b9 (.cells #[.int .i64 i1,.int .i64 i2,.slice a3 n4 c5,.slice a6 n7 c8] 29); letI p9b9 : Addr := ⟨b9,0,none⟩; σ b9 = none → ∃ v10,PH.cell? h901 p9b9 = some v10 ∧ ∃ i11,v10 = .int .i64 i11 ∧ br (decide (i11 > (32 : Int))) (Q (.int .i64 (2 : Int)) h901) (∃ v12,PH.cell? h901 (p9b9.add 1) = some v12 ∧ ∃ i13,v12 = .int .i64 i13 ∧ br (decide (i13 > (1024 : Int))) (Q (.int .i64 (2 : Int)) h901) (∃ v14,PH.cell? h901 (p9b9.add 3) = some v14 ∧ ∃ a15 n16 c17,v14 = .slice a15 n16 c17 ∧ br (decide ((n16 : Int) > (32768 : Int))) (Q (.int .i64 (2 : Int)) h901) (∃ v18,PH.cell? h901 p9b9 = some v18 ∧ ∃ i19,v18 = .int .i64 i19 ∧ br (decide (i19 < (0 : Int))) (Q (.int .i64 (1 : Int)) h901) (∃ v20,PH.cell? h901 (p9b9.add 1) = some v20 ∧ ∃ i21,v20 = .int .i64 i21 ∧ br (decide (i21 < (0 : Int))) (Q (.int .i64 (1 : Int)) h901) (∃ v22,PH.cell? h901 (p9b9.add 2) = some v22 ∧ ∃ a23 n24 c25,v22 = .slice a23 n24 c25 ∧ ∃ v26,PH.cell? h901 (p9b9.add 1) = some v26 ∧ ∃ i27,v26 = .int .i64 i27 ∧ br (decide ((n24 : Int) > i27)) (Q (.int .i64 (1 : Int)) h901) (∃ v28,PH.cell? h901 (p9b9.add 2) = some v28 ∧ ∃ a29 n30 c31,v28 = .slice a29 n30 c31 ∧ S35_1 call Q p9b9 a29 n30 c31 (n30 : Int) (0 : Int) h901))))))
noncomputable def M35_5 (x : T35_5) : Env := ([oo,some (.pointer (some x.1)),oo,oo,oo,oo,oo,oo,oo,oo,oo,oo,oo,oo,oo,oo,oo,oo,oo,oo,oo,oo,oo,oo,oo,oo,oo,oo,oo,oo,oo,oo,oo,oo,oo,oo,oo,oo,oo,oo,oo,oo,oo,oo,oo,oo,oo,oo,oo,oo,oo,oo,oo,oo,oo,oo,oo,oo,oo,oo,oo,oo,oo,oo,oo,oo,oo,oo,oo,oo,oo,oo,oo,oo,oo,oo,oo,oo,oo,oo,oo,oo,oo,oo,oo,oo,oo,some (.slice x.2.1 x.2.2.1 x.2.2.2.1),some (.int .i64 x.2.2.2.2.1),some (.int .i64 x.2.2.2.2.2.1),oo,oo,oo,some (.slice x.2.2.2.2.2.2.1 x.2.2.2.2.2.2.2.1 x.2.2.2.2.2.2.2.2.1),some (.int .i64 x.2.2.2.2.2.2.2.2.2.1),some (.int .i64 x.2.2.2.2.2.2.2.2.2.2)] ++ rp 20)
noncomputable def M35_3 (x : T35_3) : Env := ([oo,some (.pointer (some x.1)),oo,oo,oo,oo,oo,oo,oo,oo,oo,oo,oo,oo,oo,oo,oo,oo,oo,oo,oo,oo,oo,oo,oo,oo,oo,oo,oo,oo,oo,oo,oo,oo,oo,oo,oo,oo,oo,oo,oo,oo,oo,oo,oo,oo,oo,oo,oo,oo,oo,oo,oo,oo,oo,oo,oo,oo,oo,oo,oo,oo,oo,oo,oo,oo,oo,oo,oo,oo,oo,oo,oo,oo,oo,oo,oo,oo,oo,oo,oo,oo,oo,oo,oo,oo,oo,some (.slice x.2.1 x.2.2.1 x.2.2.2.1),some (.int .i64 x.2.2.2.2.1),some (.int .i64 x.2.2.2.2.2)] ++ rp 26)
noncomputable def M35_1 (x : T35_1) : Env := ([oo,some (.pointer (some x.1)),oo,oo,oo,oo,oo,oo,oo,oo,oo,oo,oo,oo,oo,oo,oo,oo,oo,oo,oo,oo,oo,oo,oo,oo,oo,oo,oo,oo,oo,oo,oo,oo,oo,oo,oo,oo,oo,oo,some (.slice x.2.1 x.2.2.1 x.2.2.2.1),some (.int .i64 x.2.2.2.2.1),some (.int .i64 x.2.2.2.2.2)] ++ rp 73)
noncomputable def L35_5 (call : CallR) (Q : QT) (D3 : ET) (r96 : Addr) (l97 : Option Addr) (len98 cap99 : Nat) (x100 x101 : Int) (l102 : Option Addr) (len103 cap104 : Nat) (x105 x106 : Int) : PH → Prop := iloop (i35 78639 call) (k35 45871) (K35_6 call Q D3) (M35_5 (r96,l97,len98,cap99,x100,x101,l102,len103,cap104,x105,x106))
noncomputable def L35_3 (call : CallR) (Q : QT) (r79 : Addr) (l80 : Option Addr) (len81 cap82 : Nat) (x83 x84 : Int) : PH → Prop := iloop (i35 303 call) (k35 175) (K35_2 call Q) (M35_3 (r79,l80,len81,cap82,x83,x84))
noncomputable def L35_1 (call : CallR) (Q : QT) (r32 : Addr) (l33 : Option Addr) (len34 cap35 : Nat) (x36 x37 : Int) : PH → Prop := iloop (i35 151 call) (k35 87) (K35_8 call Q) (M35_1 (r32,l33,len34,cap35,x36,x37))
theorem E35_5 (call : CallR) (Q : QT) (D3 : ET) : L35_5 call Q D3 = S35_5 call Q (fun y => D3 (M35_3 y)) := by
 repeat funext _
 refine iloop_inv M35_5 (fun e => (va (gv e 1),sa (gv e 87),sl (gv e 87),sc (gv e 87),vi (gv e 88),vi (gv e 89),sa (gv e 93),sl (gv e 93),sc (gv e 93),vi (gv e 94),vi (gv e 95))) (fun _ => rfl) _ _ _ _ (fun D5 x σ => ?_) _ _
 kernel_rfl
theorem E35_3 (call : CallR) (Q : QT) : L35_3 call Q = S35_3 call Q := by
 repeat funext _
 refine iloop_inv M35_3 (fun e => (va (gv e 1),sa (gv e 87),sl (gv e 87),sc (gv e 87),vi (gv e 88),vi (gv e 89))) (fun _ => rfl) _ _ _ _ (fun D3 x σ => ?_) _ _
 rw [S35_4,← E35_5 call Q D3]
 kernel_rfl
theorem E35_1 (call : CallR) (Q : QT) : L35_1 call Q = S35_1 call Q := by
 repeat funext _
 refine iloop_inv M35_1 (fun e => (va (gv e 1),sa (gv e 40),sl (gv e 40),sc (gv e 40),vi (gv e 41),vi (gv e 42))) (fun _ => rfl) _ _ _ _ (fun D1 x σ => ?_) _ _
 rw [S35_2,← E35_3 call Q]
 kernel_rfl
theorem E35_0 (call : CallR) (Q : QT) (i1 i2 : Int) (a3 : Option Addr) (n4 c5 : Nat) (a6 : Option Addr) (n7 c8 : Nat) (σ : PH) : ibody prog anns call 35 #[(.agg #[(.int .i64 i1),(.int .i64 i2),(.slice a3 n4 c5),(.slice a6 n7 c8)])] Q σ = S35_0 call Q i1 i2 a3 n4 c5 a6 n7 c8 σ := by
 rw [S35_0,← E35_1 call Q]
 kernel_rfl
abbrev T8_3 := Int × Addr × Int × Int
abbrev T8_7 := Int × Addr × Int × Int
abbrev T8_9 := Int × Addr × Int
abbrev T8_5 := Int × Addr × Int
abbrev T8_1 := Int × Addr × Int
abbrev T9_2 := Addr × Bool × Addr × Option Addr × Nat × Nat × Int × Int
abbrev T10_1 := Addr × Option Addr × Nat × Nat × Option Addr × Nat × Nat × Int × Int
abbrev T11_1 := Option Addr × Nat × Nat × Addr × Int × Int
noncomputable def code12 : Code := (Try.f12.body).getD .skip
noncomputable def i12 (p : Nat) (call : CallR) (K : IX → Env → PH → Prop) (e : Env) : PH → Prop := icode prog call (nav (pp p) code12) (anav (pp p) an12) K e
def k12 (p : Nat) : Env → Env := Ann.cut (anav (pp p) an12)
noncomputable def K12_0 (_ : CallR) (Q : QT) : KT := finK prog Try.f12 Q
noncomputable def K12_1 (call : CallR) (Q : QT) : KT := seqK (i12 1023 call (K12_0 call Q)) (k12 511) (K12_0 call Q)
noncomputable def K12_2 (call : CallR) (Q : QT) : KT := blockK 0 (K12_1 call Q)
abbrev T12_1 := Option Addr × Nat × Nat × Bool × Option Addr × Nat × Nat × Int × Int
def S12_2 (call : CallR) (Q : QT) (R1 : T12_1 → PH → Prop) (l119 : Option Addr) (len120 cap121 : Nat) (y122 : Bool) (l123 : Option Addr) (len124 cap125 : Nat) (x126 x127 : Int) (σ : PH) : Prop :=
 br (decide (x127 < x126)) (∃ p137,l123 = some p137 ∧ 0 ≤ x127 ∧ x127 < (len124 : Int) ∧ ∃ v138,PH.cell? σ (p137.add (x127.toNat * 1)) = some v138 ∧ ∃ i139,v138 = .int .i64 i139 ∧ br y122 (call 28 #[.slice l119 len120 cap121,.int .i64 i139] (fun v140 τ141 => ∃ υ142 : PH,PH.sub υ142 τ141 ∧ ∃ (q143 : Bool),v140 = (.bool q143) ∧ br (!q143) (Q (.bool false) υ142) (R1 (l119,len120,cap121,y122,l123,len124,cap125,x126,(IntKind.wrap .i64 (x127 + 1))) υ142)) σ) (R1 (l119,len120,cap121,y122,l123,len124,cap125,x126,(IntKind.wrap .i64 (x127 + 1))) σ)) (call 20 #[] (fun v144 τ145 => ∃ υ146 : PH,PH.sub υ146 τ145 ∧ ∃ (q147 : Bool),v144 = (.bool q147) ∧ Q (.bool q147) υ146) σ)
def S12_1 (call : CallR) (Q : QT) (l119 : Option Addr) (len120 cap121 : Nat) (y122 : Bool) (l123 : Option Addr) (len124 cap125 : Nat) (x126 x127 : Int) (σ : PH) : Prop := iloopS (fun (R1 : T12_1 → PH → Prop) (x : T12_1) σ => S12_2 call Q R1 x.1 x.2.1 x.2.2.1 x.2.2.2.1 x.2.2.2.2.1 x.2.2.2.2.2.1 x.2.2.2.2.2.2.1 x.2.2.2.2.2.2.2.1 x.2.2.2.2.2.2.2.2 σ) (l119,len120,cap121,y122,l123,len124,cap125,x126,x127) σ
def S12_0 (call : CallR) (Q : QT) (i1 i2 i3 : Int) (a4 : Option Addr) (n5 c6 : Nat) (i7 i8 : Int) (σ : PH) : Prop :=
 ∀ b9 : Nat,letI h905 : PH := PH.set σ b9 (.cells #[(.int .u8 i1),(.int .u8 i2),(.int .u8 i3),.slice a4 n5 c6] 25); letI p9b9 : Addr := ⟨b9,0,none⟩; σ b9 = none → ∃ v10,PH.cell? h905 p9b9 = some v10 ∧ ∃ v11,PH.cell? h905 (p9b9.add 1) = some v11 ∧ ∃ v12,PH.cell? h905 (p9b9.add 2) = some v12 ∧ ∃ v13,PH.cell? h905 (p9b9.add 3) = some v13 ∧ ∃ (i14 : Int) (i15 : Int) (i16 : Int) (a17 : Option Addr) (n18 : Nat) (c19 : Nat),Value.agg #[v10,v11,v12,v13] = (.agg #[(.int .u8 i14),(.int .u8 i15),(.int .u8 i16),.slice a17 n18 c19]) ∧ call 21 #[(.agg #[(.int .u8 i14),(.int .u8 i15),(.int .u8 i16),.slice a17 n18 c19])] (fun v20 τ21 => ∃ υ22 : PH,PH.sub υ22 τ21 ∧ ∃ (i23 : Int) (i24 : Int) (a25 : Option Addr) (n26 : Nat) (c27 : Nat) (a28 : Option Addr) (n29 : Nat) (c30 : Nat),v20 = (.agg #[.int .i64 i23,.int .i64 i24,.slice a25 n26 c27,.slice a28 n29 c30]) ∧ ∀ b31 : Nat,letI h901 : PH := PH.set υ22 b31 (.cells #[.int .i64 0,.int .i64 0,.slice none 0 0,.slice none 0 0] 29); letI p9b31 : Addr := ⟨b31,0,none⟩; letI h902 : PH := PH.setCell h901 p9b31 (.int .i64 i23); letI h903 : PH := PH.setCell h902 (p9b31.add 1) (.int .i64 i24); letI h904 : PH := PH.setCell h903 (p9b31.add 2) (.slice a25 n26 c27); letI h906 : PH := PH.setCell h904 (p9b31.add 3) (.slice a28 n29 c30); υ22 b31 = none → (∃ u32,PH.cell? h901 p9b31 = some u32) ∧ PH.froz h901 p9b31 = some false ∧ (∃ u33,PH.cell? h902 (p9b31.add 1) = some u33) ∧ PH.froz h902 (p9b31.add 1) = some false ∧ (∃ u34,PH.cell? h903 (p9b31.add 2) = some u34) ∧ PH.froz h903 (p9b31.add 2) = some false ∧ (∃ u35,PH.cell? h904 (p9b31.add 3) = some u35) ∧ PH.froz h904 (p9b31.add 3) = some false ∧ ∃ v36,PH.cell? h906 (p9b31.add 1) = some v36 ∧ ∃ i37,v36 = .int .i64 i37 ∧ i37 ≠ 0 ∧ (IntKind.i64 = IntKind.i64) ∧ ∀ b38 : Nat,letI h907 : PH := PH.set h906 b38 (.cells #[(.int .i64 (IntKind.wrap .i64 ((1 : Int) + (Int.tmod (IntKind.wrap .i64 i7) i37))))] 3); h906 b38 = none → ∃ v39,PH.cell? h907 p9b31 = some v39 ∧ ∃ v40,PH.cell? h907 (p9b31.add 1) = some v40 ∧ ∃ v41,PH.cell? h907 (p9b31.add 2) = some v41 ∧ ∃ v42,PH.cell? h907 (p9b31.add 3) = some v42 ∧ ∃ (i43 : Int) (i44 : Int) (a45 : Option Addr) (n46 : Nat) (c47 : Nat) (a48 : Option Addr) (n49 : Nat) (c50 : Nat),Value.agg #[v39,v40,v41,v42] = (.agg #[.int .i64 i43,.int .i64 i44,.slice a45 n46 c47,.slice a48 n49 c50]) ∧ call 25 #[(.agg #[.int .i64 i43,.int .i64 i44,.slice a45 n46 c47,.slice a48 n49 c50]),(.slice (some ⟨b38,0,none⟩) 1 1)] (fun v51 τ52 => ∃ υ53 : PH,PH.sub υ53 τ52 ∧ ∃ (a54 : Option Addr) (n55 : Nat) (c56 : Nat) (q57 : Bool),v51 = (.tuple #[.slice a54 n55 c56,(.bool q57)]) ∧ ∃ v58,PH.cell? υ53 p9b31 = some v58 ∧ ∃ v59,PH.cell? υ53 (p9b31.add 1) = some v59 ∧ ∃ v60,PH.cell? υ53 (p9b31.add 2) = some v60 ∧ ∃ v61,PH.cell? υ53 (p9b31.add 3) = some v61 ∧ ∃ (i62 : Int) (i63 : Int) (a64 : Option Addr) (n65 : Nat) (c66 : Nat) (a67 : Option Addr) (n68 : Nat) (c69 : Nat),Value.agg #[v58,v59,v60,v61] = (.agg #[.int .i64 i62,.int .i64 i63,.slice a64 n65 c66,.slice a67 n68 c69]) ∧ ∃ v70,PH.cell? υ53 (p9b31.add 1) = some v70 ∧ ∃ i71,v70 = .int .i64 i71 ∧ i71 ≠ 0 ∧ (IntKind.i64 = IntKind.i64) ∧ ∀ b72 : Nat,υ53 b72 = none → (∀ p : Addr,(some ⟨b38,0,none⟩) = some p → ¬ p.block = Addr.block p9b31) ∧ (∀ p : Addr,(some ⟨b38,0,none⟩) = some p → ¬ p.block = Addr.block (p9b31.add 1)) ∧ (∀ p : Addr,(some ⟨b38,0,none⟩) = some p → ¬ p.block = Addr.block (p9b31.add 2)) ∧ (∀ p : Addr,(some ⟨b38,0,none⟩) = some p → ¬ p.block = Addr.block (p9b31.add 3)) ∧ iappend prog 3 (.slice (some ⟨b38,0,none⟩) 1 1) (.slice (some ⟨b72,0,none⟩) 1 1) (fun v73 τ74 => ∃ a75 n76 c77,v73 = .slice a75 n76 c77 ∧ call 25 #[(.agg #[.int .i64 i62,.int .i64 i63,.slice a64 n65 c66,.slice a67 n68 c69]),.slice a75 n76 c77] (fun v78 τ79 => ∃ υ80 : PH,PH.sub υ80 τ79 ∧ ∃ (a81 : Option Addr) (n82 : Nat) (c83 : Nat) (q84 : Bool),v78 = (.tuple #[.slice a81 n82 c83,(.bool q84)]) ∧ br (!q57) (br ((n55 : Int) == (0 : Int)) (br (!q84) (call 20 #[] (fun v85 τ86 => ∃ υ87 : PH,PH.sub υ87 τ86 ∧ ∃ (q88 : Bool),v85 = (.bool q88) ∧ Q (.bool q88) υ87) υ80) (Q (.bool false) υ80)) (Q (.bool false) υ80)) (∃ v89,PH.cell? υ80 p9b31 = some v89 ∧ ∃ v90,PH.cell? υ80 (p9b31.add 1) = some v90 ∧ ∃ v91,PH.cell? υ80 (p9b31.add 2) = some v91 ∧ ∃ v92,PH.cell? υ80 (p9b31.add 3) = some v92 ∧ ∃ (i93 : Int) (i94 : Int) (a95 : Option Addr) (n96 : Nat) (c97 : Nat) (a98 : Option Addr) (n99 : Nat) (c100 : Nat),Value.agg #[v89,v90,v91,v92] = (.agg #[.int .i64 i93,.int .i64 i94,.slice a95 n96 c97,.slice a98 n99 c100]) ∧ call 25 #[(.agg #[.int .i64 i93,.int .i64 i94,.slice a95 n96 c97,.slice a98 n99 c100]),.slice a54 n55 c56] (fun v101 τ102 => ∃ υ103 : PH,PH.sub υ103 τ102 ∧ ∃ (a104 : Option Addr) (n105 : Nat) (c106 : Nat) (q107 : Bool),v101 = (.tuple #[.slice a104 n105 c106,(.bool q107)]) ∧ br (!q107) (Q (.bool false) υ103) (call 27 #[.slice a54 n55 c56,.slice a104 n105 c106] (fun v108 τ109 => ∃ υ110 : PH,PH.sub υ110 τ109 ∧ ∃ (q111 : Bool),v108 = (.bool q111) ∧ br (!q111) (Q (.bool false) υ110) (∃ p112 : Addr,(some ⟨b38,0,none⟩) = some p112 ∧ 0 ≤ (0 : Int) ∧ (0 : Int) < (1 : Int) ∧ ∃ v113,PH.cell? υ110 (p112.add (Int.toNat (0 : Int) * 1)) = some v113 ∧ ∃ i114,v113 = .int .i64 i114 ∧ call 28 #[.slice a54 n55 c56,.int .i64 i114] (fun v115 τ116 => ∃ υ117 : PH,PH.sub υ117 τ116 ∧ ∃ (q118 : Bool),v115 = (.bool q118) ∧ br (!q118) (Q (.bool false) υ117) (S12_1 call Q a81 n82 c83 q84 a54 n55 c56 (n55 : Int) (0 : Int) υ117)) υ110)) υ103)) υ80)) τ74) (PH.set υ53 b72 (.cells #[(.int .i64 (IntKind.wrap .i64 (0 - (IntKind.wrap .i64 ((1 : Int) + (Int.tmod (IntKind.wrap .i64 i8) i71))))))] 3))) h907) h905
noncomputable def M12_1 (x : T12_1) : Env := ([oo,oo,oo,oo,oo,oo,oo,oo,oo,oo,oo,some (.slice x.1 x.2.1 x.2.2.1),some (.bool x.2.2.2.1),oo,oo,oo,oo,oo,oo,oo,oo,oo,oo,oo,oo,oo,oo,oo,oo,oo,oo,oo,oo,oo,oo,oo,oo,oo,oo,oo,oo,oo,oo,oo,oo,oo,oo,oo,oo,oo,oo,oo,oo,oo,oo,oo,oo,oo,oo,oo,oo,oo,oo,oo,oo,oo,oo,oo,oo,oo,oo,oo,oo,oo,oo,oo,oo,oo,oo,oo,oo,some (.slice x.2.2.2.2.1 x.2.2.2.2.2.1 x.2.2.2.2.2.2.1),some (.int .i64 x.2.2.2.2.2.2.2.1),some (.int .i64 x.2.2.2.2.2.2.2.2)] ++ rp 12)
noncomputable def L12_1 (call : CallR) (Q : QT) (l119 : Option Addr) (len120 cap121 : Nat) (y122 : Bool) (l123 : Option Addr) (len124 cap125 : Nat) (x126 x127 : Int) : PH → Prop := iloop (i12 4863 call) (k12 2815) (K12_2 call Q) (M12_1 (l119,len120,cap121,y122,l123,len124,cap125,x126,x127))
theorem E12_1 (call : CallR) (Q : QT) : L12_1 call Q = S12_1 call Q := by
 repeat funext _
 refine iloop_inv M12_1 (fun e => (sa (gv e 11),sl (gv e 11),sc (gv e 11),vb (gv e 12),sa (gv e 81),sl (gv e 81),sc (gv e 81),vi (gv e 82),vi (gv e 83))) (fun _ => rfl) _ _ _ _ (fun D1 x σ => ?_) _ _
 kernel_rfl
theorem E12_0 (call : CallR) (Q : QT) (i1 i2 i3 : Int) (a4 : Option Addr) (n5 c6 : Nat) (i7 i8 : Int) (σ : PH) : ibody prog anns call 12 #[(.agg #[(.int .u8 i1),(.int .u8 i2),(.int .u8 i3),(.slice a4 n5 c6)]),(.int .u8 i7),(.int .u8 i8)] Q σ = S12_0 call Q i1 i2 i3 a4 n5 c6 i7 i8 σ := by
 rw [S12_0,← E12_1 call Q]
 kernel_rfl
abbrev T13_3 := Addr × Option Addr × Nat × Nat × Int × Int
abbrev T13_1 := Addr × Addr × Option Addr × Nat × Nat × Option Addr × Nat × Nat × Int × Int
abbrev T16_1 := Addr × Addr × Addr × Option Addr × Nat × Nat × Option Addr × Nat × Nat × Int × Int
noncomputable def code21 : Code := (Try.f21.body).getD .skip
noncomputable def i21 (p : Nat) (call : CallR) (K : IX → Env → PH → Prop) (e : Env) : PH → Prop := icode prog call (nav (pp p) code21) (anav (pp p) an21) K e
def k21 (p : Nat) : Env → Env := Ann.cut (anav (pp p) an21)
noncomputable def K21_0 (_ : CallR) (Q : QT) : KT := finK prog Try.f21 Q
noncomputable def K21_1 (call : CallR) (Q : QT) : KT := seqK (i21 127 call (K21_0 call Q)) (k21 63) (K21_0 call Q)
noncomputable def K21_2 (call : CallR) (Q : QT) : KT := blockK 2 (K21_1 call Q)
noncomputable def K21_3 (call : CallR) (Q : QT) (D3 : ET) : KT := loopK (k21 159) D3 (K21_2 call Q)
noncomputable def K21_4 (call : CallR) (Q : QT) (D3 : ET) : KT := blockK 3 (K21_3 call Q D3)
noncomputable def K21_5 (call : CallR) (Q : QT) (D3 : ET) : KT := seqK (i21 7455 call (K21_4 call Q D3)) (k21 3359) (K21_4 call Q D3)
noncomputable def K21_6 (call : CallR) (Q : QT) (D3 : ET) : KT := blockK 4 (K21_5 call Q D3)
noncomputable def K21_7 (call : CallR) (Q : QT) : KT := seqK (i21 31 call (K21_0 call Q)) (k21 15) (K21_0 call Q)
noncomputable def K21_8 (call : CallR) (Q : QT) : KT := blockK 0 (K21_7 call Q)
abbrev T21_5 := Addr × Addr × Addr × Option Addr × Nat × Nat × Int
abbrev T21_3 := Addr × Addr × Addr
abbrev T21_1 := Addr × Addr × Addr × Addr × Int
def S21_6 (call : CallR) (Q : QT) (R3 : T21_3 → PH → Prop) (R5 : T21_5 → PH → Prop) (r104 r105 r106 : Addr) (l107 : Option Addr) (len108 cap109 : Nat) (x110 : Int) (σ : PH) : Prop :=
 br (decide (x110 ≥ (0 : Int))) (call 41 #[(.pointer (some r106)),(.int .i64 (256 : Int))] (fun v118 τ119 => ∃ υ120 : PH,PH.sub υ120 τ119 ∧ ∃ i121,v118 = .int .i64 i121 ∧ (2 : Int) ≠ 0 ∧ (IntKind.i64 = IntKind.i64) ∧ ∃ v122,PH.cell? υ120 (r105.add 1) = some v122 ∧ ∃ i123,v122 = .int .i64 i123 ∧ i123 ≠ 0 ∧ (IntKind.i64 = IntKind.i64) ∧ (2 : Int) ≠ 0 ∧ (IntKind.i64 = IntKind.i64) ∧ br ((Int.tmod i121 (2 : Int)) == (1 : Int)) (∀ b124 : Nat,υ120 b124 = none → iappend prog 3 (.slice l107 len108 cap109) (.slice (some ⟨b124,0,none⟩) 1 1) (fun v125 τ126 => ∃ a127 n128 c129,v125 = .slice a127 n128 c129 ∧ R5 (r104,r105,r106,a127,n128,c129,(IntKind.wrap .i64 (x110 - (1 : Int)))) τ126) (PH.set υ120 b124 (.cells #[(.int .i64 (IntKind.wrap .i64 (0 - (IntKind.wrap .i64 ((1 : Int) + (Int.tmod (IntKind.wrap .i64 (Int.tdiv i121 (2 : Int))) i123))))))] 3))) (∀ b130 : Nat,υ120 b130 = none → iappend prog 3 (.slice l107 len108 cap109) (.slice (some ⟨b130,0,none⟩) 1 1) (fun v131 τ132 => ∃ a133 n134 c135,v131 = .slice a133 n134 c135 ∧ R5 (r104,r105,r106,a133,n134,c135,(IntKind.wrap .i64 (x110 - (1 : Int)))) τ132) (PH.set υ120 b130 (.cells #[(.int .i64 (IntKind.wrap .i64 ((1 : Int) + (Int.tmod (IntKind.wrap .i64 (Int.tdiv i121 (2 : Int))) i123))))] 3)))) σ) (∃ v136,PH.cell? σ (r105.add 3) = some v136 ∧ ∃ a137 n138 c139,v136 = .slice a137 n138 c139 ∧ ∀ b140 : Nat,σ b140 = none → iappend prog 33 (.slice a137 n138 c139) (.slice (some ⟨b140,0,none⟩) 1 1) (fun v141 τ142 => ∃ a143 n144 c145,v141 = .slice a143 n144 c145 ∧ (∃ u146,PH.cell? τ142 (r105.add 3) = some u146) ∧ PH.froz τ142 (r105.add 3) = some false ∧ R3 (r104,r105,r106) (PH.setCell τ142 (r105.add 3) (.slice a143 n144 c145))) (PH.set σ b140 (.cells #[.slice l107 len108 cap109] 33)))
def S21_5 (call : CallR) (Q : QT) (R3 : T21_3 → PH → Prop) (r104 r105 r106 : Addr) (l107 : Option Addr) (len108 cap109 : Nat) (x110 : Int) (σ : PH) : Prop := iloopS (fun (R5 : T21_5 → PH → Prop) (x : T21_5) σ => S21_6 call Q R3 R5 x.1 x.2.1 x.2.2.1 x.2.2.2.1 x.2.2.2.2.1 x.2.2.2.2.2.1 x.2.2.2.2.2.2 σ) (r104,r105,r106,l107,len108,cap109,x110) σ
def S21_4 (call : CallR) (Q : QT) (R3 : T21_3 → PH → Prop) (r82 r83 r84 : Addr) (σ : PH) : Prop :=
 ∃ p88,some r84 = some p88 ∧ ∃ v89,PH.cell? σ (p88.add 1) = some v89 ∧ ∃ i90,v89 = .int .i64 i90 ∧ ∃ p91,some r84 = some p91 ∧ ∃ v92,PH.cell? σ p91 = some v92 ∧ ∃ a93 n94 c95,v92 = .slice a93 n94 c95 ∧ br (decide (i90 < (n94 : Int))) (∃ v96,PH.cell? σ (r83.add 3) = some v96 ∧ ∃ a97 n98 c99,v96 = .slice a97 n98 c99 ∧ br (decide ((n98 : Int) < (40 : Int))) (call 41 #[(.pointer (some r84)),(.int .i64 (256 : Int))] (fun v100 τ101 => ∃ υ102 : PH,PH.sub υ102 τ101 ∧ ∃ i103,v100 = .int .i64 i103 ∧ (4 : Int) ≠ 0 ∧ (IntKind.i64 = IntKind.i64) ∧ S21_5 call Q R3 r82 r83 r84 none 0 0 (Int.tmod i103 (4 : Int)) υ102) σ) (∃ v147,PH.cell? σ r83 = some v147 ∧ ∃ v148,PH.cell? σ (r83.add 1) = some v148 ∧ ∃ v149,PH.cell? σ (r83.add 2) = some v149 ∧ ∃ v150,PH.cell? σ (r83.add 3) = some v150 ∧ ∃ (i151 : Int) (i152 : Int) (a153 : Option Addr) (n154 : Nat) (c155 : Nat) (a156 : Option Addr) (n157 : Nat) (c158 : Nat),letI h901 : PH := PH.setCell σ r82 (.int .i64 i151); letI h902 : PH := PH.setCell h901 (r82.add 1) (.int .i64 i152); letI h905 : PH := PH.setCell h902 (r82.add 2) (.slice a153 n154 c155); letI h907 : PH := PH.setCell h905 (r82.add 3) (.slice a156 n157 c158); Value.agg #[v147,v148,v149,v150] = (.agg #[.int .i64 i151,.int .i64 i152,.slice a153 n154 c155,.slice a156 n157 c158]) ∧ (∃ u159,PH.cell? σ r82 = some u159) ∧ PH.froz σ r82 = some false ∧ (∃ u160,PH.cell? h901 (r82.add 1) = some u160) ∧ PH.froz h901 (r82.add 1) = some false ∧ (∃ u161,PH.cell? h902 (r82.add 2) = some u161) ∧ PH.froz h902 (r82.add 2) = some false ∧ (∃ u162,PH.cell? h905 (r82.add 3) = some u162) ∧ PH.froz h905 (r82.add 3) = some false ∧ ∃ v163,PH.cell? h907 r82 = some v163 ∧ ∃ v164,PH.cell? h907 (r82.add 1) = some v164 ∧ ∃ v165,PH.cell? h907 (r82.add 2) = some v165 ∧ ∃ v166,PH.cell? h907 (r82.add 3) = some v166 ∧ Q (.agg #[v163,v164,v165,v166]) h907)) (∃ v167,PH.cell? σ r83 = some v167 ∧ ∃ v168,PH.cell? σ (r83.add 1) = some v168 ∧ ∃ v169,PH.cell? σ (r83.add 2) = some v169 ∧ ∃ v170,PH.cell? σ (r83.add 3) = some v170 ∧ ∃ (i171 : Int) (i172 : Int) (a173 : Option Addr) (n174 : Nat) (c175 : Nat) (a176 : Option Addr) (n177 : Nat) (c178 : Nat),letI h903 : PH := PH.setCell σ r82 (.int .i64 i171); letI h904 : PH := PH.setCell h903 (r82.add 1) (.int .i64 i172); letI h906 : PH := PH.setCell h904 (r82.add 2) (.slice a173 n174 c175); letI h908 : PH := PH.setCell h906 (r82.add 3) (.slice a176 n177 c178); Value.agg #[v167,v168,v169,v170] = (.agg #[.int .i64 i171,.int .i64 i172,.slice a173 n174 c175,.slice a176 n177 c178]) ∧ (∃ u179,PH.cell? σ r82 = some u179) ∧ PH.froz σ r82 = some false ∧ (∃ u180,PH.cell? h903 (r82.add 1) = some u180) ∧ PH.froz h903 (r82.add 1) = some false ∧ (∃ u181,PH.cell? h904 (r82.add 2) = some u181) ∧ PH.froz h904 (r82.add 2) = some false ∧ (∃ u182,PH.cell? h906 (r82.add 3) = some u182) ∧ PH.froz h906 (r82.add 3) = some false ∧ ∃ v183,PH.cell? h908 r82 = some v183 ∧ ∃ v184,PH.cell? h908 (r82.add 1) = some v184 ∧ ∃ v185,PH.cell? h908 (r82.add 2) = some v185 ∧ ∃ v186,PH.cell? h908 (r82.add 3) = some v186 ∧ Q (.agg #[v183,v184,v185,v186]) h908)
def S21_3 (call : CallR) (Q : QT) (r82 r83 r84 : Addr) (σ : PH) : Prop := iloopS (fun (R3 : T21_3 → PH → Prop) (x : T21_3) σ => S21_4 call Q R3 x.1 x.2.1 x.2.2 σ) (r82,r83,r84) σ
def S21_2 (call : CallR) (Q : QT) (R1 : T21_1 → PH → Prop) (r25 r26 r27 r28 : Addr) (x29 : Int) (σ : PH) : Prop :=
 ∃ v35,PH.cell? σ (r25.add 1) = some v35 ∧ ∃ (i36 : Int),v35 = (.int .u8 i36) ∧ (12 : Int) ≠ 0 ∧ (IntKind.i64 = IntKind.i64) ∧ br (decide (x29 < (IntKind.wrap .i64 ((1 : Int) + (Int.tmod (IntKind.wrap .i64 i36) (12 : Int)))))) (call 41 #[(.pointer (some r28)),(.int .i64 (256 : Int))] (fun v37 τ38 => ∃ υ39 : PH,PH.sub υ39 τ38 ∧ ∃ i40,v37 = .int .i64 i40 ∧ ∃ v41,PH.cell? υ39 r27 = some v41 ∧ ∃ i42,v41 = .int .i64 i42 ∧ i42 ≠ 0 ∧ (IntKind.i64 = IntKind.i64) ∧ (16 : Int) ≠ 0 ∧ (IntKind.i64 = IntKind.i64) ∧ (7 : Int) ≠ 0 ∧ (IntKind.i64 = IntKind.i64) ∧ ∀ b43 : Nat,letI h901 : PH := PH.set υ39 b43 (.cells #[.int .i64 0,.int .i64 0,.int .i64 0] 50); letI p9b43 : Addr := ⟨b43,0,none⟩; letI h903 : PH := PH.setCell h901 p9b43 (.int .i64 (Int.tmod i40 i42)); letI h904 : PH := PH.setCell h903 (p9b43.add 1) (.int .i64 (0 : Int)); letI h905 : PH := PH.setCell h904 (p9b43.add 2) (.int .i64 (IntKind.wrap .i64 ((Int.tmod (IntKind.wrap .i64 (Int.tdiv i40 (16 : Int))) (7 : Int)) - (4 : Int)))); υ39 b43 = none → (∃ u44,PH.cell? h901 p9b43 = some u44) ∧ PH.froz h901 p9b43 = some false ∧ (∃ u45,PH.cell? h903 (p9b43.add 1) = some u45) ∧ PH.froz h903 (p9b43.add 1) = some false ∧ (∃ u46,PH.cell? h904 (p9b43.add 2) = some u46) ∧ PH.froz h904 (p9b43.add 2) = some false ∧ ∃ v47,PH.cell? h905 p9b43 = some v47 ∧ ∃ i48,v47 = .int .i64 i48 ∧ ∃ v49,PH.cell? h905 r27 = some v49 ∧ ∃ i50,v49 = .int .i64 i50 ∧ ∃ v51,PH.cell? h905 r27 = some v51 ∧ ∃ i52,v51 = .int .i64 i52 ∧ call 41 #[(.pointer (some r28)),(.int .i64 (256 : Int))] (fun v53 τ54 => ∃ υ55 : PH,PH.sub υ55 τ54 ∧ PH.cell? υ55 ⟨Addr.block r27,Addr.off r27,none⟩ = PH.cell? h905 ⟨Addr.block r27,Addr.off r27,none⟩ ∧ PH.cell? υ55 ⟨Addr.block r27,Addr.off r27,none⟩ = PH.cell? h905 ⟨Addr.block r27,Addr.off r27,none⟩ ∧ PH.cell? υ55 ⟨Addr.block p9b43,Addr.off p9b43,none⟩ = PH.cell? h905 ⟨Addr.block p9b43,Addr.off p9b43,none⟩ ∧ ∃ i56,v53 = .int .i64 i56 ∧ letI h902 : PH := PH.setCell υ55 (p9b43.add 1) (.int .i64 (Int.tmod (IntKind.wrap .i64 ((IntKind.wrap .i64 (i48 + 1)) + (Int.tmod i56 (IntKind.wrap .i64 (i50 - (1 : Int)))))) i52)); (IntKind.wrap .i64 (i50 - (1 : Int))) ≠ 0 ∧ (IntKind.i64 = IntKind.i64) ∧ i52 ≠ 0 ∧ (IntKind.i64 = IntKind.i64) ∧ (∃ u57,PH.cell? υ55 (p9b43.add 1) = some u57) ∧ PH.froz υ55 (p9b43.add 1) = some false ∧ ∃ v58,PH.cell? h902 (r27.add 2) = some v58 ∧ ∃ a59 n60 c61,v58 = .slice a59 n60 c61 ∧ ∃ v62,PH.cell? h902 p9b43 = some v62 ∧ ∃ v63,PH.cell? h902 (p9b43.add 1) = some v63 ∧ ∃ v64,PH.cell? h902 (p9b43.add 2) = some v64 ∧ ∃ (i65 : Int) (i66 : Int) (i67 : Int),Value.agg #[v62,v63,v64] = (.agg #[.int .i64 i65,.int .i64 i66,.int .i64 i67]) ∧ ∀ b68 : Nat,h902 b68 = none → iappend prog 50 (.slice a59 n60 c61) (.slice (some ⟨b68,0,none⟩) 1 1) (fun v69 τ70 => ∃ a71 n72 c73,v69 = .slice a71 n72 c73 ∧ (∃ u74,PH.cell? τ70 (r27.add 2) = some u74) ∧ PH.froz τ70 (r27.add 2) = some false ∧ R1 (r25,r26,r27,r28,(IntKind.wrap .i64 (x29 + 1))) (PH.setCell τ70 (r27.add 2) (.slice a71 n72 c73))) (PH.set h902 b68 (.cells #[.int .i64 i65,.int .i64 i66,.int .i64 i67] 50))) h905) σ) (∃ v75,PH.cell? σ (r27.add 2) = some v75 ∧ ∃ a76 n77 c78,v75 = .slice a76 n77 c78 ∧ ∃ v79,PH.cell? σ (r25.add 2) = some v79 ∧ ∃ (i80 : Int),v79 = (.int .u8 i80) ∧ (7 : Int) ≠ 0 ∧ (IntKind.i64 = IntKind.i64) ∧ (∃ u81,PH.cell? σ (r27.add 1) = some u81) ∧ PH.froz σ (r27.add 1) = some false ∧ S21_3 call Q r26 r27 r28 (PH.setCell σ (r27.add 1) (.int .i64 (IntKind.wrap .i64 ((n77 : Int) + (Int.tmod (IntKind.wrap .i64 i80) (7 : Int)))))))
def S21_1 (call : CallR) (Q : QT) (r25 r26 r27 r28 : Addr) (x29 : Int) (σ : PH) : Prop := iloopS (fun (R1 : T21_1 → PH → Prop) (x : T21_1) σ => S21_2 call Q R1 x.1 x.2.1 x.2.2.1 x.2.2.2.1 x.2.2.2.2 σ) (r25,r26,r27,r28,x29) σ
def S21_0 (call : CallR) (Q : QT) (i1 i2 i3 : Int) (a4 : Option Addr) (n5 c6 : Nat) (σ : PH) : Prop :=
 ∀ b7 : Nat,letI h901 : PH := PH.set σ b7 (.cells #[(.int .u8 i1),(.int .u8 i2),(.int .u8 i3),.slice a4 n5 c6] 25); letI p9b7 : Addr := ⟨b7,0,none⟩; σ b7 = none → ∀ b8 : Nat,letI h902 : PH := PH.set h901 b8 (.cells #[.int .i64 0,.int .i64 0,.slice none 0 0,.slice none 0 0] 29); h901 b8 = none → ∃ v9,PH.cell? h902 (p9b7.add 0) = some v9 ∧ ∃ (i10 : Int),v9 = (.int .u8 i10) ∧ (5 : Int) ≠ 0 ∧ (IntKind.i64 = IntKind.i64) ∧ ∀ b11 : Nat,letI h903 : PH := PH.set h902 b11 (.cells #[.int .i64 0,.int .i64 0,.slice none 0 0,.slice none 0 0] 29); letI p9b11 : Addr := ⟨b11,0,none⟩; letI h904 : PH := PH.setCell h903 p9b11 (.int .i64 (IntKind.wrap .i64 ((2 : Int) + (Int.tmod (IntKind.wrap .i64 i10) (5 : Int))))); letI h905 : PH := PH.setCell h904 (p9b11.add 1) (.int .i64 (0 : Int)); letI h906 : PH := PH.setCell h905 (p9b11.add 2) (.slice none 0 0); letI h907 : PH := PH.setCell h906 (p9b11.add 3) (.slice none 0 0); h902 b11 = none → (∃ u12,PH.cell? h903 p9b11 = some u12) ∧ PH.froz h903 p9b11 = some false ∧ (∃ u13,PH.cell? h904 (p9b11.add 1) = some u13) ∧ PH.froz h904 (p9b11.add 1) = some false ∧ (∃ u14,PH.cell? h905 (p9b11.add 2) = some u14) ∧ PH.froz h905 (p9b11.add 2) = some false ∧ (∃ u15,PH.cell? h906 (p9b11.add 3) = some u15) ∧ PH.froz h906 (p9b11.add 3) = some false ∧ ∃ v16,PH.cell? h907 (p9b7.add 3) = some v16 ∧ ∃ a17 n18 c19,v16 = .slice a17 n18 c19 ∧ ∃ v20,PH.cell? h907 (p9b7.add 3) = some v20 ∧ ∃ a21 n22 c23,v20 = .slice a21 n22 c23 ∧ 0 ≤ (if (300 : Int) < (n22 : Int) then (300 : Int) else (n22 : Int)) ∧ (if (300 : Int) < (n22 : Int) then (300 : Int) else (n22 : Int)) ≤ (c19 : Int) ∧ ∀ b24 : Nat,h907 b24 = none → S21_1 call Q p9b7 (⟨b8,0,none⟩ : Addr) p9b11 (⟨b24,0,none⟩ : Addr) (0 : Int) (PH.set h907 b24 (.cells #[(.slice a17 (Int.toNat (if (300 : Int) < (n22 : Int) then (300 : Int) else (n22 : Int))) c19),.int .i64 0] 90))
noncomputable def M21_5 (x : T21_5) : Env := ([oo,oo,some (.pointer (some x.1)),some (.pointer (some x.2.1)),some (.pointer (some x.2.2.1)),oo,oo,oo,some (.slice x.2.2.2.1 x.2.2.2.2.1 x.2.2.2.2.2.1),some (.int .i64 x.2.2.2.2.2.2)] ++ rp 116)
noncomputable def M21_3 (x : T21_3) : Env := ([oo,oo,some (.pointer (some x.1)),some (.pointer (some x.2.1)),some (.pointer (some x.2.2))] ++ rp 121)
noncomputable def M21_1 (x : T21_1) : Env := ([oo,some (.pointer (some x.1)),some (.pointer (some x.2.1)),some (.pointer (some x.2.2.1)),some (.pointer (some x.2.2.2.1)),some (.int .i64 x.2.2.2.2)] ++ rp 120)
noncomputable def L21_5 (call : CallR) (Q : QT) (D3 : ET) (r104 r105 r106 : Addr) (l107 : Option Addr) (len108 cap109 : Nat) (x110 : Int) : PH → Prop := iloop (i21 38175 call) (k21 21791) (K21_6 call Q D3) (M21_5 (r104,r105,r106,l107,len108,cap109,x110))
noncomputable def L21_3 (call : CallR) (Q : QT) (r82 r83 r84 : Addr) : PH → Prop := iloop (i21 287 call) (k21 159) (K21_2 call Q) (M21_3 (r82,r83,r84))
noncomputable def L21_1 (call : CallR) (Q : QT) (r25 r26 r27 r28 : Addr) (x29 : Int) : PH → Prop := iloop (i21 151 call) (k21 87) (K21_8 call Q) (M21_1 (r25,r26,r27,r28,x29))
theorem E21_5 (call : CallR) (Q : QT) (D3 : ET) : L21_5 call Q D3 = S21_5 call Q (fun y => D3 (M21_3 y)) := by
 repeat funext _
 refine iloop_inv M21_5 (fun e => (va (gv e 2),va (gv e 3),va (gv e 4),sa (gv e 8),sl (gv e 8),sc (gv e 8),vi (gv e 9))) (fun _ => rfl) _ _ _ _ (fun D5 x σ => ?_) _ _
 kernel_rfl
theorem E21_3 (call : CallR) (Q : QT) : L21_3 call Q = S21_3 call Q := by
 repeat funext _
 refine iloop_inv M21_3 (fun e => (va (gv e 2),va (gv e 3),va (gv e 4))) (fun _ => rfl) _ _ _ _ (fun D3 x σ => ?_) _ _
 rw [S21_4,← E21_5 call Q D3]
 kernel_rfl
theorem E21_1 (call : CallR) (Q : QT) : L21_1 call Q = S21_1 call Q := by
 repeat funext _
 refine iloop_inv M21_1 (fun e => (va (gv e 1),va (gv e 2),va (gv e 3),va (gv e 4),vi (gv e 5))) (fun _ => rfl) _ _ _ _ (fun D1 x σ => ?_) _ _
 rw [S21_2,← E21_3 call Q]
 kernel_rfl
theorem E21_0 (call : CallR) (Q : QT) (i1 i2 i3 : Int) (a4 : Option Addr) (n5 c6 : Nat) (σ : PH) : ibody prog anns call 21 #[(.agg #[(.int .u8 i1),(.int .u8 i2),(.int .u8 i3),(.slice a4 n5 c6)])] Q σ = S21_0 call Q i1 i2 i3 a4 n5 c6 σ := by
 rw [S21_0,← E21_1 call Q]
 kernel_rfl
abbrev T26_7 := Addr × Option Addr × Nat × Nat × Bool × Int × Int × Bool × Option Addr × Nat × Nat × Int × Int × Option Addr × Nat × Nat × Int × Int
abbrev T26_5 := Addr × Option Addr × Nat × Nat × Bool × Option Addr × Nat × Nat × Int × Int
abbrev T26_9 := Option Addr × Nat × Nat × Option Addr × Nat × Nat × Int × Int
abbrev T26_3 := Addr × Option Addr × Nat × Nat × Bool
abbrev T26_1 := Addr × Option Addr × Nat × Nat × Option Addr × Nat × Nat × Int × Int
noncomputable def code28 : Code := (Try.f28.body).getD .skip
noncomputable def i28 (p : Nat) (call : CallR) (K : IX → Env → PH → Prop) (e : Env) : PH → Prop := icode prog call (nav (pp p) code28) (anav (pp p) an28) K e
def k28 (p : Nat) : Env → Env := Ann.cut (anav (pp p) an28)
noncomputable def K28_0 (_ : CallR) (Q : QT) : KT := finK prog Try.f28 Q
noncomputable def K28_1 (call : CallR) (Q : QT) : KT := seqK (i28 7 call (K28_0 call Q)) (k28 3) (K28_0 call Q)
noncomputable def K28_2 (call : CallR) (Q : QT) : KT := blockK 0 (K28_1 call Q)
abbrev T28_1 := Int × Option Addr × Nat × Nat × Int × Int
def S28_2 (call : CallR) (Q : QT) (R1 : T28_1 → PH → Prop) (x5 : Int) (l6 : Option Addr) (len7 cap8 : Nat) (x9 x10 : Int) (σ : PH) : Prop :=
 br (decide (x10 < x9)) (∃ p17,l6 = some p17 ∧ 0 ≤ x10 ∧ x10 < (len7 : Int) ∧ ∃ v18,PH.cell? σ (p17.add (x10.toNat * 1)) = some v18 ∧ ∃ i19,v18 = .int .i64 i19 ∧ br (i19 == x5) (Q (.bool true) σ) (R1 (x5,l6,len7,cap8,x9,(IntKind.wrap .i64 (x10 + 1))) σ)) (Q (.bool false) σ)
def S28_1 (call : CallR) (Q : QT) (x5 : Int) (l6 : Option Addr) (len7 cap8 : Nat) (x9 x10 : Int) (σ : PH) : Prop := iloopS (fun (R1 : T28_1 → PH → Prop) (x : T28_1) σ => S28_2 call Q R1 x.1 x.2.1 x.2.2.1 x.2.2.2.1 x.2.2.2.2.1 x.2.2.2.2.2 σ) (x5,l6,len7,cap8,x9,x10) σ
def S28_0 (call : CallR) (Q : QT) (a1 : Option Addr) (n2 c3 : Nat) (i4 : Int) (σ : PH) : Prop :=
 S28_1 call Q i4 a1 n2 c3 (n2 : Int) (0 : Int) σ
noncomputable def M28_1 (x : T28_1) : Env := ([oo,some (.int .i64 x.1),oo,oo,oo,oo,oo,some (.slice x.2.1 x.2.2.1 x.2.2.2.1),some (.int .i64 x.2.2.2.2.1),some (.int .i64 x.2.2.2.2.2)] ++ rp 7)
noncomputable def L28_1 (call : CallR) (Q : QT) (x5 : Int) (l6 : Option Addr) (len7 cap8 : Nat) (x9 x10 : Int) : PH → Prop := iloop (i28 37 call) (k28 21) (K28_2 call Q) (M28_1 (x5,l6,len7,cap8,x9,x10))
theorem E28_1 (call : CallR) (Q : QT) : L28_1 call Q = S28_1 call Q := by
 repeat funext _
 refine iloop_inv M28_1 (fun e => (vi (gv e 1),sa (gv e 7),sl (gv e 7),sc (gv e 7),vi (gv e 8),vi (gv e 9))) (fun _ => rfl) _ _ _ _ (fun D1 x σ => ?_) _ _
 kernel_rfl
theorem E28_0 (call : CallR) (Q : QT) (a1 : Option Addr) (n2 c3 : Nat) (i4 : Int) (σ : PH) : ibody prog anns call 28 #[(.slice a1 n2 c3),(.int .i64 i4)] Q σ = S28_0 call Q a1 n2 c3 i4 σ := by
 rw [S28_0,← E28_1 call Q]
 kernel_rfl
abbrev T32_1 := Option Addr × Int
abbrev T34_3 := Int × Option Addr × Nat × Nat × Option Addr × Nat × Nat × Int × Bool × Option Addr × Nat × Nat × Int × Int
abbrev T34_1 := Int × Option Addr × Nat × Nat × Option Addr × Nat × Nat × Int
def S41_0 (call : CallR) (Q : QT) (p1 : Option Addr) (i2 : Int) (σ : PH) : Prop :=
 ∃ p3,p1 = some p3 ∧ ∃ v4,PH.cell? σ (p3.add 1) = some v4 ∧ ∃ i5,v4 = .int .i64 i5 ∧ ∃ p6,p1 = some p6 ∧ ∃ v7,PH.cell? σ p6 = some v7 ∧ ∃ a8 n9 c10,v7 = .slice a8 n9 c10 ∧ br (decide (i5 ≥ (n9 : Int))) (Q (.int .i64 (0 : Int)) σ) (br (decide (i2 < (1 : Int))) (Q (.int .i64 (0 : Int)) σ) (∃ p11,p1 = some p11 ∧ ∃ v12,PH.cell? σ (p11.add 1) = some v12 ∧ ∃ i13,v12 = .int .i64 i13 ∧ ∃ p14,letI h901 : PH := PH.setCell σ (p14.add 1) (.int .i64 (IntKind.wrap .i64 (i13 + 1))); p1 = some p14 ∧ (∃ u15,PH.cell? σ (p14.add 1) = some u15) ∧ PH.froz σ (p14.add 1) = some false ∧ ∃ p16,p1 = some p16 ∧ ∃ v17,PH.cell? h901 p16 = some v17 ∧ ∃ a18 n19 c20,v17 = .slice a18 n19 c20 ∧ ∃ p21,p1 = some p21 ∧ ∃ v22,PH.cell? h901 (p21.add 1) = some v22 ∧ ∃ i23,v22 = .int .i64 i23 ∧ ∃ p24,a18 = some p24 ∧ 0 ≤ (IntKind.wrap .i64 (i23 - (1 : Int))) ∧ (IntKind.wrap .i64 (i23 - (1 : Int))) < (n19 : Int) ∧ ∃ v25,PH.cell? h901 (p24.add (Int.toNat (IntKind.wrap .i64 (i23 - (1 : Int))) * 1)) = some v25 ∧ ∃ (i26 : Int),v25 = (.int .u8 i26) ∧ i2 ≠ 0 ∧ (IntKind.i64 = IntKind.i64) ∧ Q (.int .i64 (Int.tmod (IntKind.wrap .i64 i26) i2)) h901))
theorem E41_0 (call : CallR) (Q : QT) (p1 : Option Addr) (i2 : Int) (σ : PH) : ibody prog anns call 41 #[(.pointer p1),(.int .i64 i2)] Q σ = S41_0 call Q p1 i2 σ := by
 kernel_rfl
abbrev T45_1 := Addr × Option Addr × Nat × Nat × Option Addr × Nat × Nat × Int × Int
abbrev T46_5 := Option Addr × Option Addr × Nat × Nat × Option Addr × Nat × Nat × Option Addr × Nat × Nat × Int × Int
abbrev T46_3 := Option Addr × Option Addr × Nat × Nat × Option Addr × Nat × Nat × Int × Int
abbrev T46_1 := Option Addr × Option Addr × Nat × Nat × Int × Int
abbrev T47_1 := Int × Option Addr × Nat × Nat × Int × Int
abbrev T63_1 := Option Addr × Option Addr × Nat × Nat × Int × Int
abbrev T64_5 := Int × Option Addr × Nat × Nat × Option Addr × Nat × Nat × Option Addr × Nat × Nat × Int × Int × Option Addr × Nat × Nat × Int × Int
abbrev T64_9 := Option Addr × Nat × Nat × Option Addr × Nat × Nat × Int × Option Addr × Nat × Nat × Int
abbrev T64_7 := Int × Option Addr × Nat × Nat × Option Addr × Nat × Nat × Int × Int
abbrev T64_3 := Int × Option Addr × Nat × Nat × Option Addr × Nat × Nat × Option Addr × Nat × Nat × Int × Int
abbrev T64_1 := Int × Option Addr × Nat × Nat × Option Addr × Nat × Nat × Option Addr × Nat × Nat × Int × Int
abbrev T85_1 := Addr × Option Addr × Nat × Nat × Option Addr × Nat × Nat × Option Addr × Nat × Nat × Option Addr × Nat × Nat × Int × Int
abbrev T86_3 := Addr × Option Addr × Nat × Nat × Option Addr × Nat × Nat × Int × Int
abbrev T86_1 := Addr × Option Addr × Nat × Nat × Option Addr × Nat × Nat × Option Addr × Nat × Nat × Int × Int
noncomputable def code36 : Code := (Try.f36.body).getD .skip
noncomputable def i36 (p : Nat) (call : CallR) (K : IX → Env → PH → Prop) (e : Env) : PH → Prop := icode prog call (nav (pp p) code36) (anav (pp p) an36) K e
def k36 (p : Nat) : Env → Env := Ann.cut (anav (pp p) an36)
noncomputable def K36_0 (_ : CallR) (Q : QT) : KT := finK prog Try.f36 Q
noncomputable def K36_1 (call : CallR) (Q : QT) : KT := seqK (i36 15 call (K36_0 call Q)) (k36 7) (K36_0 call Q)
noncomputable def K36_2 (call : CallR) (Q : QT) : KT := blockK 0 (K36_1 call Q)
abbrev T36_1 := Addr × Option Addr × Nat × Nat × Int × Int
def S36_2 (call : CallR) (Q : QT) (R1 : T36_1 → PH → Prop) (r43 : Addr) (l44 : Option Addr) (len45 cap46 : Nat) (x47 x48 : Int) (σ : PH) : Prop :=
 br (decide (x48 < x47)) (∃ p55,l44 = some p55 ∧ 0 ≤ x48 ∧ x48 < (len45 : Int) ∧ ∃ v56,PH.cell? σ (p55.add (x48.toNat * 1)) = some v56 ∧ ∃ a57 n58 c59,v56 = .slice a57 n58 c59 ∧ call 50 #[.slice a57 n58 c59] (fun v60 τ61 => ∃ υ62 : PH,PH.sub υ62 τ61 ∧ ∃ (a63 : Option Addr) (n64 : Nat) (c65 : Nat) (q66 : Bool),v60 = (.tuple #[.slice a63 n64 c65,(.bool q66)]) ∧ br (!q66) (R1 (r43,l44,len45,cap46,x47,(IntKind.wrap .i64 (x48 + 1))) υ62) (call 51 #[(.pointer (some r43)),.int .i64 x48] (fun v67 τ68 => ∃ υ69 : PH,PH.sub υ69 τ68 ∧ ∃ i70,v67 = .int .i64 i70 ∧ ∀ b71 : Nat,letI h901 : PH := PH.set υ69 b71 (.cells #[.slice a63 n64 c65,.int .i64 i70,.slice none 0 0] 102); υ69 b71 = none → br ((n64 : Int) == (0 : Int)) (∃ p72,some r43 = some p72 ∧ (∃ u73,PH.cell? h901 (p72.add 16) = some u73) ∧ PH.froz h901 (p72.add 16) = some false ∧ R1 (r43,l44,len45,cap46,x47,(IntKind.wrap .i64 (x48 + 1))) (PH.setCell h901 (p72.add 16) (.pointer (some ⟨b71,0,none⟩)))) (br ((n64 : Int) == (1 : Int)) (∃ p74,some r43 = some p74 ∧ ∃ v75,PH.cell? h901 (p74.add 17) = some v75 ∧ ∃ a76 n77 c78,v75 = .slice a76 n77 c78 ∧ ∀ b79 : Nat,h901 b79 = none → iappend prog 84 (.slice a76 n77 c78) (.slice (some ⟨b79,0,none⟩) 1 1) (fun v80 τ81 => ∃ a82 n83 c84,v80 = .slice a82 n83 c84 ∧ ∃ p85,some r43 = some p85 ∧ (∃ u86,PH.cell? τ81 (p85.add 17) = some u86) ∧ PH.froz τ81 (p85.add 17) = some false ∧ R1 (r43,l44,len45,cap46,x47,(IntKind.wrap .i64 (x48 + 1))) (PH.setCell τ81 (p85.add 17) (.slice a82 n83 c84))) (PH.set h901 b79 (.cells #[(.pointer (some ⟨b71,0,none⟩))] 84))) (call 52 #[(.pointer (some r43)),(.pointer (some ⟨b71,0,none⟩))] (fun v87 τ88 => ∃ υ89 : PH,PH.sub υ89 τ88 ∧ v87 = (.tuple #[]) ∧ R1 (r43,l44,len45,cap46,x47,(IntKind.wrap .i64 (x48 + 1))) υ89) h901))) υ62)) σ) (Q (.pointer (some r43)) σ)
def S36_1 (call : CallR) (Q : QT) (r43 : Addr) (l44 : Option Addr) (len45 cap46 : Nat) (x47 x48 : Int) (σ : PH) : Prop := iloopS (fun (R1 : T36_1 → PH → Prop) (x : T36_1) σ => S36_2 call Q R1 x.1 x.2.1 x.2.2.1 x.2.2.2.1 x.2.2.2.2.1 x.2.2.2.2.2 σ) (r43,l44,len45,cap46,x47,x48) σ
def S36_0 (call : CallR) (Q : QT) (i1 i2 : Int) (a3 : Option Addr) (n4 c5 : Nat) (a6 : Option Addr) (n7 c8 : Nat) (σ : PH) : Prop :=
 ∀ b9 : Nat,letI h901 : PH := PH.set σ b9 (.cells #[.int .i64 i1,.int .i64 i2,.slice a3 n4 c5,.slice a6 n7 c8] 29); letI p9b9 : Addr := ⟨b9,0,none⟩; σ b9 = none → ∃ v10,PH.cell? h901 p9b9 = some v10 ∧ ∃ v11,PH.cell? h901 (p9b9.add 1) = some v11 ∧ ∃ v12,PH.cell? h901 (p9b9.add 2) = some v12 ∧ ∃ v13,PH.cell? h901 (p9b9.add 3) = some v13 ∧ ∃ (i14 : Int) (i15 : Int) (a16 : Option Addr) (n17 : Nat) (c18 : Nat) (a19 : Option Addr) (n20 : Nat) (c21 : Nat),Value.agg #[v10,v11,v12,v13] = (.agg #[.int .i64 i14,.int .i64 i15,.slice a16 n17 c18,.slice a19 n20 c21]) ∧ ∀ b22 : Nat,letI h902 : PH := PH.set h901 b22 (.map #[] 0); h901 b22 = none → ∃ v23,PH.cell? h902 (p9b9.add 1) = some v23 ∧ ∃ i24,v23 = .int .i64 i24 ∧ 0 ≤ (IntKind.wrap .i64 ((2 : Int) * i24)) ∧ (IntKind.wrap .i64 ((2 : Int) * i24)) ≤ (IntKind.wrap .i64 ((2 : Int) * i24)) ∧ (24 : Int) * (IntKind.wrap .i64 ((2 : Int) * i24)) ≤ 2 ^ 47 ∧ (IntKind.wrap .i64 ((2 : Int) * i24)) < 2 ^ 62 ∧ ∀ b25 : Nat,letI h903 : PH := PH.set h902 b25 (.cells (zeros (.slice none 0 0) (Int.toNat (IntKind.wrap .i64 ((2 : Int) * i24)))) 33); h902 b25 = none → ∃ v26,PH.cell? h903 (p9b9.add 1) = some v26 ∧ ∃ i27,v26 = .int .i64 i27 ∧ 0 ≤ i27 ∧ i27 ≤ i27 ∧ (8 : Int) * i27 ≤ 2 ^ 47 ∧ i27 < 2 ^ 62 ∧ ∀ b28 : Nat,letI h904 : PH := PH.set h903 b28 (.cells (zeros (.int .i64 (0 : Int)) (Int.toNat i27)) 3); h903 b28 = none → ∃ v29,PH.cell? h904 (p9b9.add 1) = some v29 ∧ ∃ i30,v29 = .int .i64 i30 ∧ 0 ≤ i30 ∧ i30 ≤ i30 ∧ (8 : Int) * i30 ≤ 2 ^ 47 ∧ i30 < 2 ^ 62 ∧ ∀ b31 : Nat,letI h905 : PH := PH.set h904 b31 (.cells (zeros (.int .i64 (0 : Int)) (Int.toNat i30)) 3); h904 b31 = none → ∃ v32,PH.cell? h905 (p9b9.add 1) = some v32 ∧ ∃ i33,v32 = .int .i64 i33 ∧ 0 ≤ i33 ∧ i33 ≤ i33 ∧ (8 : Int) * i33 ≤ 2 ^ 47 ∧ i33 < 2 ^ 62 ∧ ∀ b34 : Nat,letI h906 : PH := PH.set h905 b34 (.cells (zeros (.pointer none) (Int.toNat i33)) 84); h905 b34 = none → ∃ v35,PH.cell? h906 (p9b9.add 1) = some v35 ∧ ∃ i36,v35 = .int .i64 i36 ∧ 0 ≤ i36 ∧ i36 ≤ i36 ∧ (8 : Int) * i36 ≤ 2 ^ 47 ∧ i36 < 2 ^ 62 ∧ ∀ b37 : Nat,letI h907 : PH := PH.set h906 b37 (.cells (zeros (.float .f64 0) (Int.toNat i36)) 83); h906 b37 = none → ∀ b38 : Nat,letI h908 : PH := PH.set h907 b38 (.cells #[.int .i64 i14,.int .i64 i15,.slice a16 n17 c18,.slice a19 n20 c21,.slice none 0 0,(.map (some b22)),.slice none 0 0,(.slice (some ⟨b25,0,none⟩) (Int.toNat (IntKind.wrap .i64 ((2 : Int) * i24))) (Int.toNat (IntKind.wrap .i64 ((2 : Int) * i24)))),(.slice (some ⟨b28,0,none⟩) (Int.toNat i27) (Int.toNat i27)),(.slice (some ⟨b31,0,none⟩) (Int.toNat i30) (Int.toNat i30)),(.slice (some ⟨b34,0,none⟩) (Int.toNat i33) (Int.toNat i33)),.slice none 0 0,.slice none 0 0,.int .i64 0,(.slice (some ⟨b37,0,none⟩) (Int.toNat i36) (Int.toNat i36)),(.float .f64 4607182418800017408),.pointer none,.slice none 0 0] 86); h907 b38 = none → ∃ v39,PH.cell? h908 (p9b9.add 3) = some v39 ∧ ∃ a40 n41 c42,v39 = .slice a40 n41 c42 ∧ S36_1 call Q (⟨b38,0,none⟩ : Addr) a40 n41 c42 (n41 : Int) (0 : Int) h908
noncomputable def M36_1 (x : T36_1) : Env := ([oo,oo,oo,some (.pointer (some x.1)),oo,oo,oo,oo,oo,oo,oo,oo,oo,oo,oo,oo,oo,oo,oo,oo,oo,oo,oo,oo,oo,oo,oo,oo,oo,oo,some (.slice x.2.1 x.2.2.1 x.2.2.2.1),some (.int .i64 x.2.2.2.2.1),some (.int .i64 x.2.2.2.2.2)] ++ rp 42)
noncomputable def L36_1 (call : CallR) (Q : QT) (r43 : Addr) (l44 : Option Addr) (len45 cap46 : Nat) (x47 x48 : Int) : PH → Prop := iloop (i36 75 call) (k36 43) (K36_2 call Q) (M36_1 (r43,l44,len45,cap46,x47,x48))
theorem E36_1 (call : CallR) (Q : QT) : L36_1 call Q = S36_1 call Q := by
 repeat funext _
 refine iloop_inv M36_1 (fun e => (va (gv e 3),sa (gv e 30),sl (gv e 30),sc (gv e 30),vi (gv e 31),vi (gv e 32))) (fun _ => rfl) _ _ _ _ (fun D1 x σ => ?_) _ _
 kernel_rfl
theorem E36_0 (call : CallR) (Q : QT) (i1 i2 : Int) (a3 : Option Addr) (n4 c5 : Nat) (a6 : Option Addr) (n7 c8 : Nat) (σ : PH) : ibody prog anns call 36 #[(.agg #[(.int .i64 i1),(.int .i64 i2),(.slice a3 n4 c5),(.slice a6 n7 c8)])] Q σ = S36_0 call Q i1 i2 a3 n4 c5 a6 n7 c8 σ := by
 rw [S36_0,← E36_1 call Q]
 kernel_rfl
noncomputable def code37 : Code := (Try.f37.body).getD .skip
noncomputable def i37 (p : Nat) (call : CallR) (K : IX → Env → PH → Prop) (e : Env) : PH → Prop := icode prog call (nav (pp p) code37) (anav (pp p) an37) K e
def k37 (p : Nat) : Env → Env := Ann.cut (anav (pp p) an37)
noncomputable def K37_0 (_ : CallR) (Q : QT) : KT := finK prog Try.f37 Q
noncomputable def K37_1 (call : CallR) (Q : QT) : KT := seqK (i37 15 call (K37_0 call Q)) (k37 7) (K37_0 call Q)
noncomputable def K37_2 (call : CallR) (Q : QT) : KT := blockK 0 (K37_1 call Q)
abbrev T37_1 := Option Addr × Option Addr × Nat × Nat × Int × Int
def S37_2 (call : CallR) (Q : QT) (R1 : T37_1 → PH → Prop) (r49 l50 : Option Addr) (len51 cap52 : Nat) (x53 x54 : Int) (σ : PH) : Prop :=
 br (decide (x54 < x53)) (∃ p61,l50 = some p61 ∧ 0 ≤ x54 ∧ x54 < (len51 : Int) ∧ ∃ v62,PH.cell? σ (p61.add (x54.toNat * 1)) = some v62 ∧ ∃ p63,v62 = .pointer p63 ∧ ∃ p64,p63 = some p64 ∧ ∃ v65,PH.cell? σ p64 = some v65 ∧ ∃ a66 n67 c68,v65 = .slice a66 n67 c68 ∧ ∃ p69,a66 = some p69 ∧ 0 ≤ (0 : Int) ∧ (0 : Int) < (n67 : Int) ∧ ∃ v70,PH.cell? σ (p69.add (Int.toNat (0 : Int) * 1)) = some v70 ∧ ∃ i71,v70 = .int .i64 i71 ∧ call 53 #[.pointer r49,.int .i64 i71] (fun v72 τ73 => ∃ υ74 : PH,PH.sub υ74 τ73 ∧ ∃ i75,v72 = .int .i64 i75 ∧ br (i75 == (0 : Int)) (∃ p76,p63 = some p76 ∧ ∃ v77,PH.cell? υ74 p76 = some v77 ∧ ∃ a78 n79 c80,v77 = .slice a78 n79 c80 ∧ ∃ p81,a78 = some p81 ∧ 0 ≤ (0 : Int) ∧ (0 : Int) < (n79 : Int) ∧ ∃ v82,PH.cell? υ74 (p81.add (Int.toNat (0 : Int) * 1)) = some v82 ∧ ∃ i83,v82 = .int .i64 i83 ∧ call 54 #[.pointer r49,.int .i64 i83,.pointer p63] (fun v84 τ85 => ∃ υ86 : PH,PH.sub υ86 τ85 ∧ v84 = (.tuple #[]) ∧ R1 (r49,l50,len51,cap52,x53,(IntKind.wrap .i64 (x54 + 1))) υ86) υ74) (br (i75 == ((-1) : Int)) (call 55 #[.pointer r49,.pointer p63] (fun v87 τ88 => ∃ υ89 : PH,PH.sub υ89 τ88 ∧ v87 = (.tuple #[]) ∧ Q (.bool false) υ89) υ74) (R1 (r49,l50,len51,cap52,x53,(IntKind.wrap .i64 (x54 + 1))) υ74))) σ) (call 56 #[.pointer r49,(.func (.func 57) #[.pointer r49] #[])] (fun v90 τ91 => ∃ υ92 : PH,PH.sub υ92 τ91 ∧ ∃ (q93 : Bool),v90 = (.bool q93) ∧ Q (.bool q93) υ92) σ)
def S37_1 (call : CallR) (Q : QT) (r49 l50 : Option Addr) (len51 cap52 : Nat) (x53 x54 : Int) (σ : PH) : Prop := iloopS (fun (R1 : T37_1 → PH → Prop) (x : T37_1) σ => S37_2 call Q R1 x.1 x.2.1 x.2.2.1 x.2.2.2.1 x.2.2.2.2.1 x.2.2.2.2.2 σ) (r49,l50,len51,cap52,x53,x54) σ
def S37_0 (call : CallR) (Q : QT) (p1 : Option Addr) (σ : PH) : Prop :=
 ∃ p2,p1 = some p2 ∧ ∃ v3,PH.cell? σ (p2.add 16) = some v3 ∧ ∃ p4,v3 = .pointer p4 ∧ br (!(p4).isNone) (∃ p5,p1 = some p5 ∧ ∃ v6,PH.cell? σ (p5.add 4) = some v6 ∧ ∃ a7 n8 c9,v6 = .slice a7 n8 c9 ∧ ∃ p10,p1 = some p10 ∧ ∃ v11,PH.cell? σ (p10.add 4) = some v11 ∧ ∃ a12 n13 c14,v11 = .slice a12 n13 c14 ∧ ∃ p15,p1 = some p15 ∧ ∃ v16,PH.cell? σ (p15.add 16) = some v16 ∧ ∃ p17,v16 = .pointer p17 ∧ ∃ p18,p17 = some p18 ∧ ∃ v19,PH.cell? σ (p18.add 1) = some v19 ∧ ∃ i20,v19 = .int .i64 i20 ∧ ∃ p21,a12 = some p21 ∧ 0 ≤ i20 ∧ i20 < (n13 : Int) ∧ ∃ v22,PH.cell? σ (p21.add (Int.toNat i20 * 6)) = some v22 ∧ ∃ v23,PH.cell? σ ((p21.add (Int.toNat i20 * 6)).add 1) = some v23 ∧ ∃ v24,PH.cell? σ ((p21.add (Int.toNat i20 * 6)).add 2) = some v24 ∧ ∃ v25,PH.cell? σ ((p21.add (Int.toNat i20 * 6)).add 3) = some v25 ∧ ∃ v26,PH.cell? σ ((p21.add (Int.toNat i20 * 6)).add 4) = some v26 ∧ ∃ v27,PH.cell? σ ((p21.add (Int.toNat i20 * 6)).add 5) = some v27 ∧ ∃ (i28 : Int) (i29 : Int) (a30 : Option Addr) (n31 : Nat) (c32 : Nat) (i33 : Int) (i34 : Int) (i35 : Int),Value.agg #[v22,v23,v24,v25,v26,v27] = (.agg #[.int .i64 i28,.int .i64 i29,.slice a30 n31 c32,.int .i64 i33,.int .i64 i34,.int .i64 i35]) ∧ ∀ b36 : Nat,σ b36 = none → iappend prog 95 (.slice a7 n8 c9) (.slice (some ⟨b36,0,none⟩) 1 1) (fun v37 τ38 => ∃ a39 n40 c41,v37 = .slice a39 n40 c41 ∧ ∃ p42,p1 = some p42 ∧ (∃ u43,PH.cell? τ38 (p42.add 4) = some u43) ∧ PH.froz τ38 (p42.add 4) = some false ∧ Q (.bool false) (PH.setCell τ38 (p42.add 4) (.slice a39 n40 c41))) (PH.set σ b36 (.cells #[.int .i64 i28,.int .i64 i29,.slice a30 n31 c32,.int .i64 i33,.int .i64 i34,.int .i64 i35] 95))) (∃ p44,p1 = some p44 ∧ ∃ v45,PH.cell? σ (p44.add 17) = some v45 ∧ ∃ a46 n47 c48,v45 = .slice a46 n47 c48 ∧ S37_1 call Q p1 a46 n47 c48 (n47 : Int) (0 : Int) σ)
noncomputable def M37_1 (x : T37_1) : Env := ([some (.pointer x.1),oo,oo,oo,oo,oo,oo,oo,oo,oo,oo,oo,oo,oo,oo,oo,oo,oo,oo,oo,oo,oo,oo,oo,oo,oo,oo,oo,oo,oo,oo,oo,oo,oo,oo,some (.slice x.2.1 x.2.2.1 x.2.2.2.1),some (.int .i64 x.2.2.2.2.1),some (.int .i64 x.2.2.2.2.2)] ++ rp 32)
noncomputable def L37_1 (call : CallR) (Q : QT) (r49 l50 : Option Addr) (len51 cap52 : Nat) (x53 x54 : Int) : PH → Prop := iloop (i37 75 call) (k37 43) (K37_2 call Q) (M37_1 (r49,l50,len51,cap52,x53,x54))
theorem E37_1 (call : CallR) (Q : QT) : L37_1 call Q = S37_1 call Q := by
 repeat funext _
 refine iloop_inv M37_1 (fun e => (vp (gv e 0),sa (gv e 35),sl (gv e 35),sc (gv e 35),vi (gv e 36),vi (gv e 37))) (fun _ => rfl) _ _ _ _ (fun D1 x σ => ?_) _ _
 kernel_rfl
theorem E37_0 (call : CallR) (Q : QT) (p1 : Option Addr) (σ : PH) : ibody prog anns call 37 #[(.pointer p1)] Q σ = S37_0 call Q p1 σ := by
 rw [S37_0,← E37_1 call Q]
 kernel_rfl
noncomputable def code38 : Code := (Try.f38.body).getD .skip
noncomputable def i38 (p : Nat) (call : CallR) (K : IX → Env → PH → Prop) (e : Env) : PH → Prop := icode prog call (nav (pp p) code38) (anav (pp p) an38) K e
def k38 (p : Nat) : Env → Env := Ann.cut (anav (pp p) an38)
noncomputable def K38_0 (_ : CallR) (Q : QT) : KT := finK prog Try.f38 Q
noncomputable def K38_1 (call : CallR) (Q : QT) : KT := seqK (i38 31 call (K38_0 call Q)) (k38 15) (K38_0 call Q)
noncomputable def K38_2 (call : CallR) (Q : QT) : KT := blockK 0 (K38_1 call Q)
abbrev T38_1 := Option Addr × Addr × Addr × Option Addr × Nat × Nat × Int × Int
def S38_2 (call : CallR) (Q : QT) (R1 : T38_1 → PH → Prop) (r14 : Option Addr) (r15 r16 : Addr) (l17 : Option Addr) (len18 cap19 : Nat) (x20 x21 : Int) (σ : PH) : Prop :=
 br (decide (x21 < x20)) (∃ v30,PH.cell? σ r16 = some v30 ∧ ∃ a31 n32 c33,v30 = .slice a31 n32 c33 ∧ ∃ p34,r14 = some p34 ∧ ∃ v35,PH.cell? σ (p34.add 8) = some v35 ∧ ∃ a36 n37 c38,v35 = .slice a36 n37 c38 ∧ ∃ p39,a36 = some p39 ∧ 0 ≤ x21 ∧ x21 < (n37 : Int) ∧ ∃ v40,PH.cell? σ (p39.add (x21.toNat * 1)) = some v40 ∧ ∃ i41,v40 = .int .i64 i41 ∧ ∃ p42,letI h901 : PH := PH.setCell σ (p42.add (x21.toNat * 1)) (.bool (decide (i41 > (0 : Int)))); a31 = some p42 ∧ 0 ≤ x21 ∧ x21 < (n32 : Int) ∧ (∃ u43,PH.cell? σ (p42.add (x21.toNat * 1)) = some u43) ∧ PH.froz σ (p42.add (x21.toNat * 1)) = some false ∧ ∃ (i44 : Int) (i45 : Int) (i46 : Int) (q47 : Bool),∃ bs48 : List Nat,∃ p49,r14 = some p49 ∧ ∃ v50,PH.cell? h901 p49 = some v50 ∧ ∃ v51,PH.cell? h901 (p49.add 1) = some v51 ∧ ∃ v52,PH.cell? h901 (p49.add 2) = some v52 ∧ ∃ v53,PH.cell? h901 (p49.add 3) = some v53 ∧ ∃ (i54 : Int) (i55 : Int) (a56 : Option Addr) (n57 : Nat) (c58 : Nat) (a59 : Option Addr) (n60 : Nat) (c61 : Nat),Value.agg #[v50,v51,v52,v53] = (.agg #[.int .i64 i54,.int .i64 i55,.slice a56 n57 c58,.slice a59 n60 c61]) ∧ ∃ p62,r14 = some p62 ∧ ∃ v63,PH.cell? h901 (p62.add 8) = some v63 ∧ ∃ a64 n65 c66,v63 = .slice a64 n65 c66 ∧ ∃ p67,a64 = some p67 ∧ 0 ≤ x21 ∧ x21 < (n65 : Int) ∧ ∃ v68,PH.cell? h901 (p67.add (x21.toNat * 1)) = some v68 ∧ ∃ i69,v68 = .int .i64 i69 ∧ quiet call 58 #[(.agg #[.int .i64 i54,.int .i64 i55,.slice a56 n57 c58,.slice a59 n60 c61]),(.int .i64 (IntKind.wrap .i64 (i69 * (IntKind.wrap .i64 (x21 + 1)))))] (.tuple #[(.agg #[.int .i64 i44,.int .i64 i45,.int .i64 i46]),(.bool q47)]) bs48 h901 ∧ ∀ b70 : Nat,letI h902 : PH := PH.set h901 b70 (.cells #[.int .i64 0,.int .i64 0,.int .i64 0] 50); letI p9b70 : Addr := ⟨b70,0,none⟩; letI h904 : PH := PH.setCell h902 p9b70 (.int .i64 i44); letI h905 : PH := PH.setCell h904 (p9b70.add 1) (.int .i64 i45); letI h906 : PH := PH.setCell h905 (p9b70.add 2) (.int .i64 i46); h901 b70 = none → (∃ u71,PH.cell? h902 p9b70 = some u71) ∧ PH.froz h902 p9b70 = some false ∧ (∃ u72,PH.cell? h904 (p9b70.add 1) = some u72) ∧ PH.froz h904 (p9b70.add 1) = some false ∧ (∃ u73,PH.cell? h905 (p9b70.add 2) = some u73) ∧ PH.froz h905 (p9b70.add 2) = some false ∧ br q47 (∃ v74,PH.cell? h906 p9b70 = some v74 ∧ ∃ v75,PH.cell? h906 (p9b70.add 1) = some v75 ∧ ∃ v76,PH.cell? h906 (p9b70.add 2) = some v76 ∧ ∃ (i77 : Int) (i78 : Int) (i79 : Int),Value.agg #[v74,v75,v76] = (.agg #[.int .i64 i77,.int .i64 i78,.int .i64 i79]) ∧ ∀ b80 : Nat,h906 b80 = none → iappend prog 50 (.slice l17 len18 cap19) (.slice (some ⟨b80,0,none⟩) 1 1) (fun v81 τ82 => ∃ a83 n84 c85,v81 = .slice a83 n84 c85 ∧ R1 (r14,r15,r16,a83,n84,c85,x20,(IntKind.wrap .i64 (x21 + 1))) τ82) (PH.set h906 b80 (.cells #[.int .i64 i77,.int .i64 i78,.int .i64 i79] 50))) (R1 (r14,r15,r16,l17,len18,cap19,x20,(IntKind.wrap .i64 (x21 + 1))) h906)) (∃ p86,r14 = some p86 ∧ ∃ v87,PH.cell? σ p86 = some v87 ∧ ∃ i88,v87 = .int .i64 i88 ∧ call 59 #[.int .i64 i88,.slice l17 len18 cap19] (fun v89 τ90 => ∃ υ91 : PH,PH.sub υ91 τ90 ∧ ∃ (a92 : Option Addr) (n93 : Nat) (c94 : Nat) (a95 : Option Addr) (n96 : Nat) (c97 : Nat) (q98 : Bool),letI h903 : PH := PH.setCell υ91 (r16.add 1) (.slice a92 n93 c94); v89 = (.tuple #[.slice a92 n93 c94,.slice a95 n96 c97,(.bool q98)]) ∧ (∃ u99,PH.cell? υ91 (r16.add 1) = some u99) ∧ PH.froz υ91 (r16.add 1) = some false ∧ ∃ v100,PH.cell? h903 r16 = some v100 ∧ ∃ v101,PH.cell? h903 (r16.add 1) = some v101 ∧ ∃ (a102 : Option Addr) (n103 : Nat) (c104 : Nat) (a105 : Option Addr) (n106 : Nat) (c107 : Nat),letI h907 : PH := PH.setCell h903 r15 (.slice a102 n103 c104); letI h908 : PH := PH.setCell h907 (r15.add 1) (.slice a105 n106 c107); Value.agg #[v100,v101] = (.agg #[.slice a102 n103 c104,.slice a105 n106 c107]) ∧ (∃ u108,PH.cell? h903 r15 = some u108) ∧ PH.froz h903 r15 = some false ∧ (∃ u109,PH.cell? h907 (r15.add 1) = some u109) ∧ PH.froz h907 (r15.add 1) = some false ∧ ∃ v110,PH.cell? h908 r15 = some v110 ∧ ∃ v111,PH.cell? h908 (r15.add 1) = some v111 ∧ Q (.agg #[v110,v111]) h908) σ)
def S38_1 (call : CallR) (Q : QT) (r14 : Option Addr) (r15 r16 : Addr) (l17 : Option Addr) (len18 cap19 : Nat) (x20 x21 : Int) (σ : PH) : Prop := iloopS (fun (R1 : T38_1 → PH → Prop) (x : T38_1) σ => S38_2 call Q R1 x.1 x.2.1 x.2.2.1 x.2.2.2.1 x.2.2.2.2.1 x.2.2.2.2.2.1 x.2.2.2.2.2.2.1 x.2.2.2.2.2.2.2 σ) (r14,r15,r16,l17,len18,cap19,x20,x21) σ
def S38_0 (call : CallR) (Q : QT) (p1 : Option Addr) (σ : PH) : Prop :=
 ∀ b2 : Nat,letI h901 : PH := PH.set σ b2 (.cells #[.slice none 0 0,.slice none 0 0] 35); σ b2 = none → ∃ p3,p1 = some p3 ∧ ∃ v4,PH.cell? h901 (p3.add 1) = some v4 ∧ ∃ i5,v4 = .int .i64 i5 ∧ 0 ≤ i5 ∧ i5 ≤ i5 ∧ (1 : Int) * i5 ≤ 2 ^ 47 ∧ i5 < 2 ^ 62 ∧ ∀ b6 : Nat,letI h902 : PH := PH.set h901 b6 (.cells (zeros (.bool false) (Int.toNat i5)) 4); h901 b6 = none → ∀ b7 : Nat,letI h903 : PH := PH.set h902 b7 (.cells #[.slice none 0 0,.slice none 0 0] 35); letI p9b7 : Addr := ⟨b7,0,none⟩; letI h904 : PH := PH.setCell h903 p9b7 (.slice (some ⟨b6,0,none⟩) (Int.toNat i5) (Int.toNat i5)); letI h905 : PH := PH.setCell h904 (p9b7.add 1) (.slice none 0 0); h902 b7 = none → (∃ u8,PH.cell? h903 p9b7 = some u8) ∧ PH.froz h903 p9b7 = some false ∧ (∃ u9,PH.cell? h904 (p9b7.add 1) = some u9) ∧ PH.froz h904 (p9b7.add 1) = some false ∧ ∃ v10,PH.cell? h905 p9b7 = some v10 ∧ ∃ a11 n12 c13,v10 = .slice a11 n12 c13 ∧ S38_1 call Q p1 (⟨b2,0,none⟩ : Addr) p9b7 none 0 0 (n12 : Int) (0 : Int) h905
noncomputable def M38_1 (x : T38_1) : Env := ([some (.pointer x.1),oo,some (.pointer (some x.2.1)),some (.pointer (some x.2.2.1)),some (.slice x.2.2.2.1 x.2.2.2.2.1 x.2.2.2.2.2.1),oo,oo,oo,oo,oo,oo,oo,oo,oo,oo,oo,oo,some (.int .i64 x.2.2.2.2.2.2.1),some (.int .i64 x.2.2.2.2.2.2.2)] ++ rp 51)
noncomputable def L38_1 (call : CallR) (Q : QT) (r14 : Option Addr) (r15 r16 : Addr) (l17 : Option Addr) (len18 cap19 : Nat) (x20 x21 : Int) : PH → Prop := iloop (i38 151 call) (k38 87) (K38_2 call Q) (M38_1 (r14,r15,r16,l17,len18,cap19,x20,x21))
theorem E38_1 (call : CallR) (Q : QT) : L38_1 call Q = S38_1 call Q := by
 repeat funext _
 refine iloop_inv M38_1 (fun e => (vp (gv e 0),va (gv e 2),va (gv e 3),sa (gv e 4),sl (gv e 4),sc (gv e 4),vi (gv e 17),vi (gv e 18))) (fun _ => rfl) _ _ _ _ (fun D1 x σ => ?_) _ _
 kernel_rfl
theorem E38_0 (call : CallR) (Q : QT) (p1 : Option Addr) (σ : PH) : ibody prog anns call 38 #[(.pointer p1)] Q σ = S38_0 call Q p1 σ := by
 rw [S38_0,← E38_1 call Q]
 kernel_rfl
abbrev T39_3 := Addr × Option Addr × Nat × Nat × Int × Int
abbrev T39_1 := Addr × Addr × Option Addr × Nat × Nat × Int × Int
def S42_0 (call : CallR) (Q : QT) (i1 : Int) (r2 : Addr) (σ : PH) : Prop :=
 br (i1 == (0 : Int)) (Q (.bool false) σ) (∃ v3,PH.cell? σ r2 = some v3 ∧ ∃ a4 n5 c6,v3 = .slice a4 n5 c6 ∧ br (decide (i1 > (n5 : Int))) (Q (.bool false) σ) (∃ v7,PH.cell? σ r2 = some v7 ∧ ∃ a8 n9 c10,v7 = .slice a8 n9 c10 ∧ br (decide (i1 < (IntKind.wrap .i64 (0 - (n9 : Int))))) (Q (.bool false) σ) (br (decide (i1 < (0 : Int))) (∃ v11,PH.cell? σ r2 = some v11 ∧ ∃ a12 n13 c14,v11 = .slice a12 n13 c14 ∧ ∃ p15,a12 = some p15 ∧ 0 ≤ (IntKind.wrap .i64 ((IntKind.wrap .i64 (0 - i1)) - (1 : Int))) ∧ (IntKind.wrap .i64 ((IntKind.wrap .i64 (0 - i1)) - (1 : Int))) < (n13 : Int) ∧ ∃ v16,PH.cell? σ (p15.add (Int.toNat (IntKind.wrap .i64 ((IntKind.wrap .i64 (0 - i1)) - (1 : Int))) * 1)) = some v16 ∧ ∃ i17,v16 = .int .i64 i17 ∧ br (i17 == (IntKind.wrap .i64 (0 - ((-1) : Int)))) (Q (.bool false) σ) (∃ v18,PH.cell? σ r2 = some v18 ∧ ∃ a19 n20 c21,v18 = .slice a19 n20 c21 ∧ ∃ p22,a19 = some p22 ∧ 0 ≤ (IntKind.wrap .i64 ((IntKind.wrap .i64 (0 - i1)) - (1 : Int))) ∧ (IntKind.wrap .i64 ((IntKind.wrap .i64 (0 - i1)) - (1 : Int))) < (n20 : Int) ∧ (∃ u23,PH.cell? σ (p22.add (Int.toNat (IntKind.wrap .i64 ((IntKind.wrap .i64 (0 - i1)) - (1 : Int))) * 1)) = some u23) ∧ PH.froz σ (p22.add (Int.toNat (IntKind.wrap .i64 ((IntKind.wrap .i64 (0 - i1)) - (1 : Int))) * 1)) = some false ∧ Q (.bool true) (PH.setCell σ (p22.add (Int.toNat (IntKind.wrap .i64 ((IntKind.wrap .i64 (0 - i1)) - (1 : Int))) * 1)) (.int .i64 ((-1) : Int))))) (∃ v24,PH.cell? σ r2 = some v24 ∧ ∃ a25 n26 c27,v24 = .slice a25 n26 c27 ∧ ∃ p28,a25 = some p28 ∧ 0 ≤ (IntKind.wrap .i64 (i1 - (1 : Int))) ∧ (IntKind.wrap .i64 (i1 - (1 : Int))) < (n26 : Int) ∧ ∃ v29,PH.cell? σ (p28.add (Int.toNat (IntKind.wrap .i64 (i1 - (1 : Int))) * 1)) = some v29 ∧ ∃ i30,v29 = .int .i64 i30 ∧ br (i30 == (IntKind.wrap .i64 (0 - (1 : Int)))) (Q (.bool false) σ) (∃ v31,PH.cell? σ r2 = some v31 ∧ ∃ a32 n33 c34,v31 = .slice a32 n33 c34 ∧ ∃ p35,a32 = some p35 ∧ 0 ≤ (IntKind.wrap .i64 (i1 - (1 : Int))) ∧ (IntKind.wrap .i64 (i1 - (1 : Int))) < (n33 : Int) ∧ (∃ u36,PH.cell? σ (p35.add (Int.toNat (IntKind.wrap .i64 (i1 - (1 : Int))) * 1)) = some u36) ∧ PH.froz σ (p35.add (Int.toNat (IntKind.wrap .i64 (i1 - (1 : Int))) * 1)) = some false ∧ Q (.bool true) (PH.setCell σ (p35.add (Int.toNat (IntKind.wrap .i64 (i1 - (1 : Int))) * 1)) (.int .i64 (1 : Int))))))))
theorem E42_0 (call : CallR) (Q : QT) (i1 : Int) (r2 : Addr) (σ : PH) : ibody prog anns call 42 #[(.int .i64 i1),(.pointer (some r2))] Q σ = S42_0 call Q i1 r2 σ := by
 kernel_rfl
def S43_0 (call : CallR) (Q : QT) (a1 : Option Addr) (n2 c3 : Nat) (i4 : Int) (σ : PH) : Prop :=
 br (decide (i4 > (0 : Int))) (br (decide (i4 ≤ (n2 : Int))) (∃ p5,a1 = some p5 ∧ 0 ≤ (IntKind.wrap .i64 (i4 - (1 : Int))) ∧ (IntKind.wrap .i64 (i4 - (1 : Int))) < (n2 : Int) ∧ ∃ v6,PH.cell? σ (p5.add (Int.toNat (IntKind.wrap .i64 (i4 - (1 : Int))) * 1)) = some v6 ∧ ∃ i7,v6 = .int .i64 i7 ∧ Q (.int .i64 i7) σ) (br (decide (i4 < (0 : Int))) (br (decide ((IntKind.wrap .i64 (0 - i4)) ≤ (n2 : Int))) (∃ p8,a1 = some p8 ∧ 0 ≤ (IntKind.wrap .i64 ((IntKind.wrap .i64 (0 - i4)) - (1 : Int))) ∧ (IntKind.wrap .i64 ((IntKind.wrap .i64 (0 - i4)) - (1 : Int))) < (n2 : Int) ∧ ∃ v9,PH.cell? σ (p8.add (Int.toNat (IntKind.wrap .i64 ((IntKind.wrap .i64 (0 - i4)) - (1 : Int))) * 1)) = some v9 ∧ ∃ i10,v9 = .int .i64 i10 ∧ Q (.int .i64 (IntKind.wrap .i64 (0 - i10))) σ) (Q (.int .i64 (0 : Int)) σ)) (Q (.int .i64 (0 : Int)) σ))) (br (decide (i4 < (0 : Int))) (br (decide ((IntKind.wrap .i64 (0 - i4)) ≤ (n2 : Int))) (∃ p11,a1 = some p11 ∧ 0 ≤ (IntKind.wrap .i64 ((IntKind.wrap .i64 (0 - i4)) - (1 : Int))) ∧ (IntKind.wrap .i64 ((IntKind.wrap .i64 (0 - i4)) - (1 : Int))) < (n2 : Int) ∧ ∃ v12,PH.cell? σ (p11.add (Int.toNat (IntKind.wrap .i64 ((IntKind.wrap .i64 (0 - i4)) - (1 : Int))) * 1)) = some v12 ∧ ∃ i13,v12 = .int .i64 i13 ∧ Q (.int .i64 (IntKind.wrap .i64 (0 - i13))) σ) (Q (.int .i64 (0 : Int)) σ)) (Q (.int .i64 (0 : Int)) σ))
theorem E43_0 (call : CallR) (Q : QT) (a1 : Option Addr) (n2 c3 : Nat) (i4 : Int) (σ : PH) : ibody prog anns call 43 #[(.slice a1 n2 c3),(.int .i64 i4)] Q σ = S43_0 call Q a1 n2 c3 i4 σ := by
 kernel_rfl
end Go.Proofs.Ythfnjogadngfiaa
