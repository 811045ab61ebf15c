/- A part of the proof: see the last text, YthfnjogadngfiaaXh15. -/
import Derived.Test.YthfnjogadngfiaaXh6
set_option maxRecDepth 100000
set_option linter.unusedVariables false
set_option linter.unusedSimpArgs false
namespace Go.Proofs.Ythfnjogadngfiaa
open Go.Sl
noncomputable def code6:Code:=(Try.f6.body).getD .skip
noncomputable def i6 (p:Nat) (call:CallR) (K:IX→Env→PH→Prop) (e:Env):PH→Prop:=icode prog call (nav (pp p) code6) (anav (pp p) an6) K e
def k6 (p:Nat):Env→Env:=Ann.cut (anav (pp p) an6)
noncomputable def K6_0 (_:CallR) (Q:QT):KT:=finK prog Try.f6 Q
noncomputable def K6_1 (call:CallR) (Q:QT):KT:=seqK (i6 127 call (K6_0 call Q)) (k6 63) (K6_0 call Q)
noncomputable def K6_2 (call:CallR) (Q:QT):KT:=blockK 4 (K6_1 call Q)
noncomputable def K6_3 (call:CallR) (Q:QT):KT:=seqK (i6 63 call (K6_0 call Q)) (k6 31) (K6_0 call Q)
noncomputable def K6_4 (call:CallR) (Q:QT):KT:=blockK 2 (K6_3 call Q)
noncomputable def K6_5 (call:CallR) (Q:QT):KT:=seqK (i6 31 call (K6_0 call Q)) (k6 15) (K6_0 call Q)
noncomputable def K6_6 (call:CallR) (Q:QT):KT:=blockK 0 (K6_5 call Q)
abbrev T6_5:=Addr × Addr × Option Addr × Nat × Nat × Int × Int
abbrev T6_3:=Option Addr × Nat × Nat × Addr × Addr × Int × Int
abbrev T6_1:=Option Addr × Nat × Nat × Option Addr × Nat × Nat × Addr × Addr × Int × Int
def S6_6 (call:CallR) (Q:QT) (R5:T6_5→PH→Prop) (r205 r206:Addr) (l207:Option Addr) (len208 cap209:Nat) (x210 x211:Int) (σ:PH):Prop :=
 br (decide (x211 < x210)) (∃ p219,l207=some p219∧0≤x211∧x211 < (len208:Int)∧∃ v220,PH.cell? σ (p219.add (x211.toNat * 1))=some v220∧∃ a221 n222 c223,v220=.slice a221 n222 c223∧∃ v224,PH.cell? σ r206=some v224∧∃ v225,PH.cell? σ (r206.add 1)=some v225∧∃ (a226:Option Addr) (n227:Nat) (c228:Nat) (a229:Option Addr) (n230:Nat) (c231:Nat),Value.agg #[v224,v225]=(.agg #[.slice a226 n227 c228,.slice a229 n230 c231])∧call 23 #[.slice a221 n222 c223,(.agg #[.slice a226 n227 c228,.slice a229 n230 c231])] (fun v232 τ233 => ∃ υ234:PH,PH.sub υ234 τ233∧∃ (q235:Bool),v232=(.bool q235)∧br (!q235) (∃ v236,PH.cell? υ234 (r205.add 1)=some v236∧∃ i237,v236=.int .i64 i237∧i237 ≠ 0∧(IntKind.i64=IntKind.i64)∧∃ v238,PH.cell? υ234 r206=some v238∧∃ a239 n240 c241,v238=.slice a239 n240 c241∧∃ p242,a239=some p242∧0≤(Int.tmod (IntKind.wrap .i64 ((IntKind.wrap .i64 ((7:Int) * x211)) + (3:Int))) i237)∧(Int.tmod (IntKind.wrap .i64 ((IntKind.wrap .i64 ((7:Int) * x211)) + (3:Int))) i237) < (n240:Int)∧∃ v243,PH.cell? υ234 (p242.add (Int.toNat (Int.tmod (IntKind.wrap .i64 ((IntKind.wrap .i64 ((7:Int) * x211)) + (3:Int))) i237) * 1))=some v243∧∃ (q244:Bool),v243=(.bool q244)∧br (!q244) (∃ v245,PH.cell? υ234 (r205.add 3)=some v245∧∃ a246 n247 c248,v245=.slice a246 n247 c248∧(∀ p:Addr,none=some p→¬ p.block=Addr.block (r205.add 3))∧iappend prog 3 (.slice none 0 0) (.slice a221 n222 c223) (fun v249 τ250 => ∃ a251 n252 c253,v249=.slice a251 n252 c253∧∀ b254:Nat,τ250 b254=none→(∀ p:Addr,a251=some p→¬ p.block=Addr.block (r205.add 3))∧iappend prog 3 (.slice a251 n252 c253) (.slice (some ⟨b254,0,none⟩) 1 1) (fun v255 τ256 => ∃ a257 n258 c259,v255=.slice a257 n258 c259∧∃ p260,a246=some p260∧0≤x211∧x211 < (n247:Int)∧(∃ u261,PH.cell? τ256 (p260.add (x211.toNat * 1))=some u261)∧PH.froz τ256 (p260.add (x211.toNat * 1))=some false∧R5 (r205,r206,l207,len208,cap209,x210,(IntKind.wrap .i64 (x211 + 1))) (PH.setCell τ256 (p260.add (x211.toNat * 1)) (.slice a257 n258 c259))) (PH.set τ250 b254 (.cells #[(.int .i64 (IntKind.wrap .i64 (0 - (IntKind.wrap .i64 ((Int.tmod (IntKind.wrap .i64 ((IntKind.wrap .i64 ((7:Int) * x211)) + (3:Int))) i237) + 1)))))] 3))) υ234) (∃ v262,PH.cell? υ234 (r205.add 3)=some v262∧∃ a263 n264 c265,v262=.slice a263 n264 c265∧(∀ p:Addr,none=some p→¬ p.block=Addr.block (r205.add 3))∧iappend prog 3 (.slice none 0 0) (.slice a221 n222 c223) (fun v266 τ267 => ∃ a268 n269 c270,v266=.slice a268 n269 c270∧∀ b271:Nat,τ267 b271=none→(∀ p:Addr,a268=some p→¬ p.block=Addr.block (r205.add 3))∧iappend prog 3 (.slice a268 n269 c270) (.slice (some ⟨b271,0,none⟩) 1 1) (fun v272 τ273 => ∃ a274 n275 c276,v272=.slice a274 n275 c276∧∃ p277,a263=some p277∧0≤x211∧x211 < (n264:Int)∧(∃ u278,PH.cell? τ273 (p277.add (x211.toNat * 1))=some u278)∧PH.froz τ273 (p277.add (x211.toNat * 1))=some false∧R5 (r205,r206,l207,len208,cap209,x210,(IntKind.wrap .i64 (x211 + 1))) (PH.setCell τ273 (p277.add (x211.toNat * 1)) (.slice a274 n275 c276))) (PH.set τ267 b271 (.cells #[(.int .i64 (IntKind.wrap .i64 ((Int.tmod (IntKind.wrap .i64 ((IntKind.wrap .i64 ((7:Int) * x211)) + (3:Int))) i237) + 1)))] 3))) υ234)) (R5 (r205,r206,l207,len208,cap209,x210,(IntKind.wrap .i64 (x211 + 1))) υ234)) σ) (∃ v279,PH.cell? σ r205=some v279∧∃ v280,PH.cell? σ (r205.add 1)=some v280∧∃ v281,PH.cell? σ (r205.add 2)=some v281∧∃ v282,PH.cell? σ (r205.add 3)=some v282∧∃ (i283:Int) (i284:Int) (a285:Option Addr) (n286:Nat) (c287:Nat) (a288:Option Addr) (n289:Nat) (c290:Nat),Value.agg #[v279,v280,v281,v282]=(.agg #[.int .i64 i283,.int .i64 i284,.slice a285 n286 c287,.slice a288 n289 c290])∧call 17 #[(.agg #[.int .i64 i283,.int .i64 i284,.slice a285 n286 c287,.slice a288 n289 c290])] (fun v291 τ292 => ∃ υ293:PH,PH.sub υ293 τ292∧∃ (a294:Option Addr) (n295:Nat) (c296:Nat) (a297:Option Addr) (n298:Nat) (c299:Nat) (a300:Option Addr) (n301:Nat) (c302:Nat) (q303:Bool),v291=(.tuple #[(.agg #[.slice a294 n295 c296,.slice a297 n298 c299]),.slice a300 n301 c302,(.bool q303)])∧∀ b304:Nat,letI h901:PH:=PH.set υ293 b304 (.cells #[.slice none 0 0,.slice none 0 0] 35); letI p9b304:Addr:=⟨b304,0,none⟩; letI h902:PH:=PH.setCell h901 p9b304 (.slice a294 n295 c296); letI h903:PH:=PH.setCell h902 (p9b304.add 1) (.slice a297 n298 c299); υ293 b304=none→(∃ u305,PH.cell? h901 p9b304=some u305)∧PH.froz h901 p9b304=some false∧(∃ u306,PH.cell? h902 (p9b304.add 1)=some u306)∧PH.froz h902 (p9b304.add 1)=some false∧br q303 (∃ v307,PH.cell? h903 r205=some v307∧∃ v308,PH.cell? h903 (r205.add 1)=some v308∧∃ v309,PH.cell? h903 (r205.add 2)=some v309∧∃ v310,PH.cell? h903 (r205.add 3)=some v310∧∃ (i311:Int) (i312:Int) (a313:Option Addr) (n314:Nat) (c315:Nat) (a316:Option Addr) (n317:Nat) (c318:Nat),Value.agg #[v307,v308,v309,v310]=(.agg #[.int .i64 i311,.int .i64 i312,.slice a313 n314 c315,.slice a316 n317 c318])∧∃ v319,PH.cell? h903 p9b304=some v319∧∃ v320,PH.cell? h903 (p9b304.add 1)=some v320∧∃ (a321:Option Addr) (n322:Nat) (c323:Nat) (a324:Option Addr) (n325:Nat) (c326:Nat),Value.agg #[v319,v320]=(.agg #[.slice a321 n322 c323,.slice a324 n325 c326])∧call 18 #[(.agg #[.int .i64 i311,.int .i64 i312,.slice a313 n314 c315,.slice a316 n317 c318]),(.agg #[.slice a321 n322 c323,.slice a324 n325 c326]),.slice a300 n301 c302,(.bool q303)] (fun v327 τ328 => ∃ υ329:PH,PH.sub υ329 τ328∧∃ (q330:Bool),v327=(.bool q330)∧br q330 (call 20 #[] (fun v331 τ332 => ∃ υ333:PH,PH.sub υ333 τ332∧∃ (q334:Bool),v331=(.bool q334)∧Q (.bool q334) υ333) υ329) (Q (.bool false) υ329)) h903) (Q (.bool false) h903)) σ)
def S6_5 (call:CallR) (Q:QT) (r205 r206:Addr) (l207:Option Addr) (len208 cap209:Nat) (x210 x211:Int) (σ:PH):Prop:=iloopS (fun (R5:T6_5→PH→Prop) (x:T6_5) σ => S6_6 call Q R5 x.1 x.2.1 x.2.2.1 x.2.2.2.1 x.2.2.2.2.1 x.2.2.2.2.2.1 x.2.2.2.2.2.2 σ) (r205,r206,l207,len208,cap209,x210,x211) σ
def S6_4 (call:CallR) (Q:QT) (R3:T6_3→PH→Prop) (l86:Option Addr) (len87 cap88:Nat) (r89 r90:Addr) (x91 x92:Int) (σ:PH):Prop :=
 br (decide (x92 < x91)) (∃ v100,PH.cell? σ r90=some v100∧∃ a101 n102 c103,v100=.slice a101 n102 c103∧br (decide (x92 < (len87:Int))) (∃ p104,l86=some p104∧0≤x92∧x92 < (len87:Int)∧∃ v105,PH.cell? σ (p104.add (x92.toNat * 1))=some v105∧∃ (q106:Bool),v105=(.bool q106)∧∃ p107,letI h902:PH:=PH.setCell σ (p107.add (x92.toNat * 1)) (.bool q106); a101=some p107∧0≤x92∧x92 < (n102:Int)∧(∃ u108,PH.cell? σ (p107.add (x92.toNat * 1))=some u108)∧PH.froz σ (p107.add (x92.toNat * 1))=some false∧∃ v109,PH.cell? h902 (r89.add 2)=some v109∧∃ a110 n111 c112,v109=.slice a110 n111 c112∧br (decide (x92 < (n111:Int))) (∃ v113,PH.cell? h902 r90=some v113∧∃ a114 n115 c116,v113=.slice a114 n115 c116∧∃ v117,PH.cell? h902 (r90.add 1)=some v117∧∃ a118 n119 c120,v117=.slice a118 n119 c120∧∃ v121,PH.cell? h902 (r89.add 2)=some v121∧∃ a122 n123 c124,v121=.slice a122 n123 c124∧∃ p125,a122=some p125∧0≤x92∧x92 < (n123:Int)∧∃ v126,PH.cell? h902 (p125.add (Int.toNat x92 * 3))=some v126∧∃ i127,v126=.int .i64 i127∧∃ p128,a118=some p128∧0≤i127∧i127 < (n119:Int)∧∃ v129,PH.cell? h902 (p128.add (i127.toNat * 1))=some v129∧∃ i130,v129=.int .i64 i130∧∃ v131,PH.cell? h902 (r90.add 1)=some v131∧∃ a132 n133 c134,v131=.slice a132 n133 c134∧∃ v135,PH.cell? h902 (r89.add 2)=some v135∧∃ a136 n137 c138,v135=.slice a136 n137 c138∧∃ p139,a136=some p139∧0≤x92∧x92 < (n137:Int)∧∃ v140,PH.cell? h902 ((p139.add (Int.toNat x92 * 3)).add 1)=some v140∧∃ i141,v140=.int .i64 i141∧∃ p142,a132=some p142∧0≤i141∧i141 < (n133:Int)∧∃ v143,PH.cell? h902 (p142.add (i141.toNat * 1))=some v143∧∃ i144,v143=.int .i64 i144∧∃ v145,PH.cell? h902 (r89.add 2)=some v145∧∃ a146 n147 c148,v145=.slice a146 n147 c148∧∃ p149,a146=some p149∧0≤x92∧x92 < (n147:Int)∧∃ v150,PH.cell? h902 ((p149.add (Int.toNat x92 * 3)).add 2)=some v150∧∃ i151,v150=.int .i64 i151∧∃ p152,a114=some p152∧0≤x92∧x92 < (n115:Int)∧(∃ u153,PH.cell? h902 (p152.add (x92.toNat * 1))=some u153)∧PH.froz h902 (p152.add (x92.toNat * 1))=some false∧R3 (l86,len87,cap88,r89,r90,x91,(IntKind.wrap .i64 (x92 + 1))) (PH.setCell h902 (p152.add (x92.toNat * 1)) (.bool (decide ((IntKind.wrap .i64 (i130 - i144))≤i151))))) (R3 (l86,len87,cap88,r89,r90,x91,(IntKind.wrap .i64 (x92 + 1))) h902)) (∃ p154,letI h901:PH:=PH.setCell σ (p154.add (x92.toNat * 1)) (.bool false); a101=some p154∧0≤x92∧x92 < (n102:Int)∧(∃ u155,PH.cell? σ (p154.add (x92.toNat * 1))=some u155)∧PH.froz σ (p154.add (x92.toNat * 1))=some false∧∃ v156,PH.cell? h901 (r89.add 2)=some v156∧∃ a157 n158 c159,v156=.slice a157 n158 c159∧br (decide (x92 < (n158:Int))) (∃ v160,PH.cell? h901 r90=some v160∧∃ a161 n162 c163,v160=.slice a161 n162 c163∧∃ v164,PH.cell? h901 (r90.add 1)=some v164∧∃ a165 n166 c167,v164=.slice a165 n166 c167∧∃ v168,PH.cell? h901 (r89.add 2)=some v168∧∃ a169 n170 c171,v168=.slice a169 n170 c171∧∃ p172,a169=some p172∧0≤x92∧x92 < (n170:Int)∧∃ v173,PH.cell? h901 (p172.add (Int.toNat x92 * 3))=some v173∧∃ i174,v173=.int .i64 i174∧∃ p175,a165=some p175∧0≤i174∧i174 < (n166:Int)∧∃ v176,PH.cell? h901 (p175.add (i174.toNat * 1))=some v176∧∃ i177,v176=.int .i64 i177∧∃ v178,PH.cell? h901 (r90.add 1)=some v178∧∃ a179 n180 c181,v178=.slice a179 n180 c181∧∃ v182,PH.cell? h901 (r89.add 2)=some v182∧∃ a183 n184 c185,v182=.slice a183 n184 c185∧∃ p186,a183=some p186∧0≤x92∧x92 < (n184:Int)∧∃ v187,PH.cell? h901 ((p186.add (Int.toNat x92 * 3)).add 1)=some v187∧∃ i188,v187=.int .i64 i188∧∃ p189,a179=some p189∧0≤i188∧i188 < (n180:Int)∧∃ v190,PH.cell? h901 (p189.add (i188.toNat * 1))=some v190∧∃ i191,v190=.int .i64 i191∧∃ v192,PH.cell? h901 (r89.add 2)=some v192∧∃ a193 n194 c195,v192=.slice a193 n194 c195∧∃ p196,a193=some p196∧0≤x92∧x92 < (n194:Int)∧∃ v197,PH.cell? h901 ((p196.add (Int.toNat x92 * 3)).add 2)=some v197∧∃ i198,v197=.int .i64 i198∧∃ p199,a161=some p199∧0≤x92∧x92 < (n162:Int)∧(∃ u200,PH.cell? h901 (p199.add (x92.toNat * 1))=some u200)∧PH.froz h901 (p199.add (x92.toNat * 1))=some false∧R3 (l86,len87,cap88,r89,r90,x91,(IntKind.wrap .i64 (x92 + 1))) (PH.setCell h901 (p199.add (x92.toNat * 1)) (.bool (decide ((IntKind.wrap .i64 (i177 - i191))≤i198))))) (R3 (l86,len87,cap88,r89,r90,x91,(IntKind.wrap .i64 (x92 + 1))) h901))) (∃ v201,PH.cell? σ (r89.add 3)=some v201∧∃ a202 n203 c204,v201=.slice a202 n203 c204∧S6_5 call Q r89 r90 a202 n203 c204 (n203:Int) (0:Int) σ)
def S6_3 (call:CallR) (Q:QT) (l86:Option Addr) (len87 cap88:Nat) (r89 r90:Addr) (x91 x92:Int) (σ:PH):Prop:=iloopS (fun (R3:T6_3→PH→Prop) (x:T6_3) σ => S6_4 call Q R3 x.1 x.2.1 x.2.2.1 x.2.2.2.1 x.2.2.2.2.1 x.2.2.2.2.2.1 x.2.2.2.2.2.2 σ) (l86,len87,cap88,r89,r90,x91,x92) σ
def S6_2 (call:CallR) (Q:QT) (R1:T6_1→PH→Prop) (l53:Option Addr) (len54 cap55:Nat) (l56:Option Addr) (len57 cap58:Nat) (r59 r60:Addr) (x61 x62:Int) (σ:PH):Prop :=
 br (decide (x62 < x61)) (br (decide (x62 < (len54:Int))) (∃ v73,PH.cell? σ (r60.add 1)=some v73∧∃ a74 n75 c76,v73=.slice a74 n75 c76∧∃ p77,l53=some p77∧0≤x62∧x62 < (len54:Int)∧∃ v78,PH.cell? σ (p77.add (x62.toNat * 1))=some v78∧∃ (i79:Int),v78=(.int .i8 i79)∧∃ p80,a74=some p80∧0≤x62∧x62 < (n75:Int)∧(∃ u81,PH.cell? σ (p80.add (x62.toNat * 1))=some u81)∧PH.froz σ (p80.add (x62.toNat * 1))=some false∧R1 (l53,len54,cap55,l56,len57,cap58,r59,r60,x61,(IntKind.wrap .i64 (x62 + 1))) (PH.setCell σ (p80.add (x62.toNat * 1)) (.int .i64 (IntKind.wrap .i64 i79)))) (R1 (l53,len54,cap55,l56,len57,cap58,r59,r60,x61,(IntKind.wrap .i64 (x62 + 1))) σ)) (∃ v82,PH.cell? σ r60=some v82∧∃ a83 n84 c85,v82=.slice a83 n84 c85∧S6_3 call Q l56 len57 cap58 r59 r60 (n84:Int) (0:Int) σ)
def S6_1 (call:CallR) (Q:QT) (l53:Option Addr) (len54 cap55:Nat) (l56:Option Addr) (len57 cap58:Nat) (r59 r60:Addr) (x61 x62:Int) (σ:PH):Prop:=iloopS (fun (R1:T6_1→PH→Prop) (x:T6_1) σ => S6_2 call Q R1 x.1 x.2.1 x.2.2.1 x.2.2.2.1 x.2.2.2.2.1 x.2.2.2.2.2.1 x.2.2.2.2.2.2.1 x.2.2.2.2.2.2.2.1 x.2.2.2.2.2.2.2.2.1 x.2.2.2.2.2.2.2.2.2 σ) (l53,len54,cap55,l56,len57,cap58,r59,r60,x61,x62) σ
def S6_0 (call:CallR) (Q:QT) (i1 i2 i3:Int) (a4:Option Addr) (n5 c6:Nat) (a7:Option Addr) (n8 c9:Nat) (a10:Option Addr) (n11 c12:Nat) (σ:PH):Prop :=
 ∀ b13:Nat,letI h908:PH:=PH.set σ b13 (.cells #[(.int .u8 i1),(.int .u8 i2),(.int .u8 i3),.slice a4 n5 c6] 25); letI p9b13:Addr:=⟨b13,0,none⟩; σ b13=none→∃ v14,PH.cell? h908 p9b13=some v14∧∃ v15,PH.cell? h908 (p9b13.add 1)=some v15∧∃ v16,PH.cell? h908 (p9b13.add 2)=some v16∧∃ v17,PH.cell? h908 (p9b13.add 3)=some v17∧∃ (i18:Int) (i19:Int) (i20:Int) (a21:Option Addr) (n22:Nat) (c23:Nat),Value.agg #[v14,v15,v16,v17]=(.agg #[(.int .u8 i18),(.int .u8 i19),(.int .u8 i20),.slice a21 n22 c23])∧call 21 #[(.agg #[(.int .u8 i18),(.int .u8 i19),(.int .u8 i20),.slice a21 n22 c23])] (fun v24 τ25 => ∃ υ26:PH,PH.sub υ26 τ25∧∃ (i27:Int) (i28:Int) (a29:Option Addr) (n30:Nat) (c31:Nat) (a32:Option Addr) (n33:Nat) (c34:Nat),v24=(.agg #[.int .i64 i27,.int .i64 i28,.slice a29 n30 c31,.slice a32 n33 c34])∧∀ b35:Nat,letI h901:PH:=PH.set υ26 b35 (.cells #[.int .i64 0,.int .i64 0,.slice none 0 0,.slice none 0 0] 29); letI p9b35:Addr:=⟨b35,0,none⟩; letI h902:PH:=PH.setCell h901 p9b35 (.int .i64 i27); letI h903:PH:=PH.setCell h902 (p9b35.add 1) (.int .i64 i28); letI h904:PH:=PH.setCell h903 (p9b35.add 2) (.slice a29 n30 c31); letI h905:PH:=PH.setCell h904 (p9b35.add 3) (.slice a32 n33 c34); υ26 b35=none→(∃ u36,PH.cell? h901 p9b35=some u36)∧PH.froz h901 p9b35=some false∧(∃ u37,PH.cell? h902 (p9b35.add 1)=some u37)∧PH.froz h902 (p9b35.add 1)=some false∧(∃ u38,PH.cell? h903 (p9b35.add 2)=some u38)∧PH.froz h903 (p9b35.add 2)=some false∧(∃ u39,PH.cell? h904 (p9b35.add 3)=some u39)∧PH.froz h904 (p9b35.add 3)=some false∧∃ v40,PH.cell? h905 (p9b35.add 1)=some v40∧∃ i41,v40=.int .i64 i41∧0≤i41∧i41≤i41∧(1:Int) * i41≤2 ^ 47∧i41 < 2 ^ 62∧∀ b42:Nat,letI h906:PH:=PH.set h905 b42 (.cells (zeros (.bool false) (Int.toNat i41)) 4); h905 b42=none→∃ v43,PH.cell? h906 p9b35=some v43∧∃ i44,v43=.int .i64 i44∧0≤i44∧i44≤i44∧(8:Int) * i44≤2 ^ 47∧i44 < 2 ^ 62∧∀ b45:Nat,letI h907:PH:=PH.set h906 b45 (.cells (zeros (.int .i64 (0:Int)) (Int.toNat i44)) 3); h906 b45=none→∀ b46:Nat,letI h909:PH:=PH.set h907 b46 (.cells #[.slice none 0 0,.slice none 0 0] 35); letI p9b46:Addr:=⟨b46,0,none⟩; letI h910:PH:=PH.setCell h909 p9b46 (.slice (some ⟨b42,0,none⟩) (Int.toNat i41) (Int.toNat i41)); letI h911:PH:=PH.setCell h910 (p9b46.add 1) (.slice (some ⟨b45,0,none⟩) (Int.toNat i44) (Int.toNat i44)); h907 b46=none→(∃ u47,PH.cell? h909 p9b46=some u47)∧PH.froz h909 p9b46=some false∧(∃ u48,PH.cell? h910 (p9b46.add 1)=some u48)∧PH.froz h910 (p9b46.add 1)=some false∧∃ v49,PH.cell? h911 (p9b46.add 1)=some v49∧∃ a50 n51 c52,v49=.slice a50 n51 c52∧S6_1 call Q a7 n8 c9 a10 n11 c12 p9b35 p9b46 (n51:Int) (0:Int) h911) h908
noncomputable def M6_5 (x:T6_5):Env:=([oo,oo,oo,oo,oo,oo,oo,some (.pointer (some x.1)),some (.pointer (some x.2.1)),oo,oo,oo,oo,oo,oo,oo,oo,oo,oo,oo,oo,oo,oo,oo,oo,oo,oo,oo,oo,oo,oo,oo,oo,oo,oo,oo,oo,oo,oo,oo,oo,oo,oo,oo,oo,oo,oo,oo,oo,oo,oo,oo,oo,oo,oo,oo,oo,oo,oo,oo,oo,oo,oo,oo,oo,oo,oo,oo,oo,oo,oo,oo,oo,oo,oo,oo,oo,oo,oo,oo,oo,oo,oo,oo,oo,oo,oo,oo,oo,oo,oo,oo,oo,oo,oo,oo,oo,oo,oo,oo,oo,oo,oo,oo,oo,oo,some (.slice x.2.2.1 x.2.2.2.1 x.2.2.2.2.1),some (.int .i64 x.2.2.2.2.2.1),some (.int .i64 x.2.2.2.2.2.2)] ++ rp 51)
noncomputable def M6_3 (x:T6_3):Env:=([oo,oo,some (.slice x.1 x.2.1 x.2.2.1),oo,oo,oo,oo,some (.pointer (some x.2.2.2.1)),some (.pointer (some x.2.2.2.2.1)),oo,oo,oo,oo,oo,oo,oo,oo,oo,oo,oo,oo,oo,oo,oo,oo,oo,oo,oo,oo,oo,oo,oo,oo,oo,oo,oo,oo,oo,oo,oo,oo,oo,oo,oo,oo,oo,oo,oo,oo,some (.int .i64 x.2.2.2.2.2.1),some (.int .i64 x.2.2.2.2.2.2)] ++ rp 109)
noncomputable def M6_1 (x:T6_1):Env:=([oo,some (.slice x.1 x.2.1 x.2.2.1),some (.slice x.2.2.2.1 x.2.2.2.2.1 x.2.2.2.2.2.1),oo,oo,oo,oo,some (.pointer (some x.2.2.2.2.2.2.1)),some (.pointer (some x.2.2.2.2.2.2.2.1)),oo,oo,oo,oo,oo,oo,oo,oo,oo,oo,oo,oo,oo,oo,oo,oo,oo,oo,oo,oo,some (.int .i64 x.2.2.2.2.2.2.2.2.1),some (.int .i64 x.2.2.2.2.2.2.2.2.2)] ++ rp 129)
noncomputable def L6_5 (call:CallR) (Q:QT) (r205 r206:Addr) (l207:Option Addr) (len208 cap209:Nat) (x210 x211:Int):PH→Prop:=iloop (i6 607 call) (k6 351) (K6_2 call Q) (M6_5 (r205,r206,l207,len208,cap209,x210,x211))
noncomputable def L6_3 (call:CallR) (Q:QT) (l86:Option Addr) (len87 cap88:Nat) (r89 r90:Addr) (x91 x92:Int):PH→Prop:=iloop (i6 303 call) (k6 175) (K6_4 call Q) (M6_3 (l86,len87,cap88,r89,r90,x91,x92))
noncomputable def L6_1 (call:CallR) (Q:QT) (l53:Option Addr) (len54 cap55:Nat) (l56:Option Addr) (len57 cap58:Nat) (r59 r60:Addr) (x61 x62:Int):PH→Prop:=iloop (i6 151 call) (k6 87) (K6_6 call Q) (M6_1 (l53,len54,cap55,l56,len57,cap58,r59,r60,x61,x62))
theorem E6_5 (call:CallR) (Q:QT):L6_5 call Q=S6_5 call Q:=by
 repeat funext _
 refine iloop_inv M6_5 (fun e => (va (gv e 7),va (gv e 8),sa (gv e 106),sl (gv e 106),sc (gv e 106),vi (gv e 107),vi (gv e 108))) (fun _ => rfl) _ _ _ _ (fun D5 x σ => ?_) _ _
 kernel_rfl
theorem E6_3 (call:CallR) (Q:QT):L6_3 call Q=S6_3 call Q:=by
 repeat funext _
 refine iloop_inv M6_3 (fun e => (sa (gv e 2),sl (gv e 2),sc (gv e 2),va (gv e 7),va (gv e 8),vi (gv e 49),vi (gv e 50))) (fun _ => rfl) _ _ _ _ (fun D3 x σ => ?_) _ _
 rw [S6_4,← E6_5 call Q]
 kernel_rfl
theorem E6_1 (call:CallR) (Q:QT):L6_1 call Q=S6_1 call Q:=by
 repeat funext _
 refine iloop_inv M6_1 (fun e => (sa (gv e 1),sl (gv e 1),sc (gv e 1),sa (gv e 2),sl (gv e 2),sc (gv e 2),va (gv e 7),va (gv e 8),vi (gv e 29),vi (gv e 30))) (fun _ => rfl) _ _ _ _ (fun D1 x σ => ?_) _ _
 rw [S6_2,← E6_3 call Q]
 kernel_rfl
theorem E6_0 (call:CallR) (Q:QT) (i1 i2 i3:Int) (a4:Option Addr) (n5 c6:Nat) (a7:Option Addr) (n8 c9:Nat) (a10:Option Addr) (n11 c12:Nat) (σ:PH):ibody prog anns call 6 #[(.agg #[(.int .u8 i1),(.int .u8 i2),(.int .u8 i3),(.slice a4 n5 c6)]),(.slice a7 n8 c9),(.slice a10 n11 c12)] Q σ=S6_0 call Q i1 i2 i3 a4 n5 c6 a7 n8 c9 a10 n11 c12 σ:=by
 rw [S6_0,← E6_1 call Q]
 kernel_rfl
abbrev T7_1:=Int × Int × Addr × Int
end Go.Proofs.Ythfnjogadngfiaa
namespace Go.Proofs.Ythfnjogadngfiaa
open Go.Sl Go.Sv
noncomputable abbrev C:CallR:=ICall prog anns (SemCall prog)
theorem hb:CMono (SemCall prog) (SemCall prog):=SemCall.of SemCall.hc
theorem go {f:FuncId} {args:Array Value} {Q:Value→PH→Prop} {σ:PH} {A:Prop} (e:ibody prog anns C f args Q σ=A) (h:A):C f args Q σ:=by
 refine ICall.intro (P:=prog) (anns:=anns) (base:=SemCall prog) hb ?_
 rw [e]
 exact h
def Lit (i:Int):Prop:=-1152921504606846976≤i∧i≤1152921504606846976
theorem c73 {i:Int} (h:Lit i) (σ:PH):C 73 #[.int .i64 i] (fun v τ => v=.int .i64 (idx i)∧τ=σ) σ:=by
 refine go (E73_0 _ _ _ _) ?_
 unfold S73_0
 obtain ⟨h1,h2⟩:=h
 refine br_dec.2 ⟨fun hl => ⟨?_,rfl⟩,fun hl => ⟨?_,rfl⟩⟩
 · unfold idx
   rw [if_pos hl,w64 (n:=0 - i) (by omega) (by omega),w64 (n:=0 - i - 1) (by omega) (by omega),w64 (n:=2 * (0 - i - 1)) (by omega) (by omega),w64 (by omega) (by omega)]
   congr 1; omega
 · unfold idx
   rw [if_neg hl,w64 (n:=i - 1) (by omega) (by omega),w64 (by omega) (by omega)]
theorem c74 {i:Int} (h:Lit i) (h0:i ≠ 0) (σ:PH):C 74 #[.int .i64 i] (fun v τ => v=.int .i64 (idx i / 2)∧τ=σ) σ:=by
 refine go (E74_0 _ _ _ _) ?_
 unfold S74_0
 refine (c73 h σ).mono hb ?_
 rintro _ _ ⟨rfl,rfl⟩
 refine ⟨_,PH.sub.refl _,_,rfl,by decide,rfl,?_,rfl⟩
 have:0≤idx i∧idx i≤4611686018427387904:=by unfold Lit at h; unfold idx; split <;> omega
 rw [Int.tdiv_eq_ediv_of_nonneg this.1,w64 (by omega) (by omega)]
theorem c43 {σ:PH} {a:Option Addr} {n c:Nat} {l:List Int} {i:Int} (h:Lit i) (hl:Ints σ a n l) (hv:∀ x ∈ l,Lit x):C 43 #[.slice a n c,.int .i64 i] (fun v τ => v=.int .i64 (valS l i)∧τ=σ) σ:=by
 refine go (E43_0 _ _ _ _ _ _ _) ?_
 unfold S43_0
 have hn:=hl.1
 have hget:∀ k:Nat,Lit (l.getD k 0):=by
   intro k
   rw [List.getD_eq_getElem?_getD]
   cases hk:l[k]? with
   | none => exact ⟨by decide,by decide⟩
   | some x => exact hv x (List.mem_of_getElem? hk)
 have neg:i < 0→-i≤n→∃ p5:Addr,a=some p5∧(0:Int)≤(IntKind.wrap .i64 ((IntKind.wrap .i64 (0 - i)) - (1:Int)))∧(IntKind.wrap .i64 ((IntKind.wrap .i64 (0 - i)) - (1:Int))) < ((n:Nat):Int) ∧
     ∃ v9,PH.cell? σ (p5.add (Int.toNat (IntKind.wrap .i64 ((IntKind.wrap .i64 (0 - i)) - (1:Int))) * 1))=some v9∧∃ (i10:Int),v9=(.int .i64 i10)∧(Value.int .i64 (IntKind.wrap .i64 (0 - i10))=.int .i64 (valS l i)∧σ=σ):=by
   intro h0 h1
   have:=h.1
   rw [w64 (n:=0 - i) (by omega) (by omega),w64 (n:=0 - i - 1) (by omega) (by omega)]
   obtain ⟨p,hp,hc⟩:=hl.at (i:=0 - i - 1) (by omega) (by omega)
   refine ⟨p,hp,by omega,by omega,_,hc,_,rfl,?_,rfl⟩
   have hg:=hget (0 - i - 1).toNat
   have:=hg.1; have:=hg.2
   rw [w64 (by omega) (by omega)]
   unfold valS
   rw [if_neg (by omega),if_pos (by omega)]
   rw [show 0 - i - 1=-i - 1 from by omega,Int.zero_sub]
 refine br_dec.2 ⟨fun h0 => br_dec.2 ⟨fun h1 => ?_,fun h1 => br_dec.2 ⟨fun h2 => by omega,fun h2 => ⟨?_,rfl⟩⟩⟩,fun h0 => br_dec.2 ⟨fun h1 => br_dec.2 ⟨fun h2 => ?_,fun h2 => ⟨?_,rfl⟩⟩,fun h1 => ⟨?_,rfl⟩⟩⟩
 · have:=h.2
   rw [w64 (n:=i - 1) (by omega) (by omega)]
   obtain ⟨p,hp,hc⟩:=hl.at (i:=i - 1) (by omega) (by omega)
   refine ⟨p,hp,by omega,by omega,_,hc,_,rfl,?_,rfl⟩
   unfold valS
   rw [if_pos (by omega)]
 · unfold valS; rw [if_neg (by omega),if_neg (by omega)]
 · have:=h.1
   rw [w64 (n:=0 - i) (by omega) (by omega)] at h2
   exact neg h1 (by omega)
 · have:=h.1
   rw [w64 (n:=0 - i) (by omega) (by omega)] at h2
   unfold valS; rw [if_neg (by omega),if_neg (by omega)]
 · unfold valS; rw [if_neg (by omega),if_neg (by omega)]
def Len (n:Nat):Prop:=n≤1152921504606846976
theorem c66 {σ:PH} {a:Option Addr} {n c:Nat} {l:List Int} {i:Int} (hn:Len n) (hl:Ints σ a n l):C 66 #[.slice a n c,.int .i64 i] (fun v τ => v=.bool (l.contains i)∧τ=σ) σ:=by
 refine go (E66_0 _ _ _ _ _ _ _) ?_
 unfold S66_0 S66_1
 refine iloopS_for (fun k (_:Unit) => (i,a,n,c,(n:Int),(k:Int))) (fun k _ τ => τ=σ∧l.contains i=(l.drop k).contains i) n ?_ (g:=()) ⟨rfl,rfl⟩
 rintro k _ τ hk ⟨rfl,hI⟩ R hR
 unfold S66_2
 dsimp only
 refine br_dec.2 ⟨fun h => ?_,fun h => ?_⟩
 · obtain ⟨p,hp,hc⟩:=hl.at (i:=(k:Int)) (by omega) (by omega)
   refine ⟨p,hp,by omega,by omega,_,hc,_,rfl,?_⟩
   have hlt:k < l.length:=by have:=hl.1; omega
   have hd:l.drop k=l[k] :: l.drop (k + 1):=List.drop_eq_getElem_cons hlt
   have hg:l.getD (k:Int).toNat 0=l[k]:=by simp [hlt]
   rw [hg]
   refine br_iff.2 ⟨fun h1 => ⟨?_,rfl⟩,fun h1 => ?_⟩
   · have:l[k]=i:=eq_of_beq h1
     have h2:(l.drop k).contains i=true:=by rw [hd,List.contains_cons,this,beq_self_eq_true,Bool.true_or]
     rw [hI,h2]
   · have h3:=hR () τ (by omega) ⟨rfl,by rw [hI,hd,List.contains_cons]; simp at h1; simp [show (i == l[k])=false from by simp; exact fun e => h1 e.symm]⟩
     unfold Len at hn
     rw [wnat (by omega)]
     exact h3
 · have:k=n:=by omega
   subst this
   refine ⟨?_,rfl⟩
   rw [hI,List.drop_eq_nil_of_le (by rw [hl.1]; exact Nat.le_refl _)]
   rfl
theorem c27 {σ:PH} {a:Option Addr} {n c:Nat} {l:List Int} {a':Option Addr} {n' c':Nat} {l':List Int} (hn:Len n) (hl:Ints σ a n l) (hl':Ints σ a' n' l') :
   C 27 #[.slice a n c,.slice a' n' c'] (fun v τ => v=.bool (l == l')∧τ=σ) σ:=by
 refine go (E27_0 _ _ _ _ _ _ _ _ _) ?_
 unfold S27_0
 have e1:=hl.1
 have e2:=hl'.1
 refine br_iff.2 ⟨fun h => ⟨?_,rfl⟩,fun h => ?_⟩
 · congr 1
   symm
   rw [beq_eq_false_iff_ne]
   rintro rfl
   simp at h
   omega
 · have hnn:n=n':=by simp at h; omega
   subst hnn
   unfold S27_1
   refine iloopS_for (fun k (_:Unit) => (a,n,c,a',n,c',(n:Int),(k:Int))) (fun k _ τ => τ=σ∧l.take k=l'.take k) n ?_ (g:=()) ⟨rfl,rfl⟩
   rintro k _ τ hk ⟨rfl,hI⟩ R hR
   unfold S27_2
   dsimp only
   refine br_dec.2 ⟨fun h => ?_,fun h => ?_⟩
   · obtain ⟨p,hp,hc⟩:=hl.at (i:=(k:Int)) (by omega) (by omega)
     obtain ⟨p',hp',hc'⟩:=hl'.at (i:=(k:Int)) (by omega) (by omega)
     refine ⟨p,hp,by omega,by omega,_,hc,_,rfl,p',hp',by omega,by omega,_,hc',_,rfl,?_⟩
     have h1:k < l.length:=by omega
     have h2:k < l'.length:=by omega
     have hg:l.getD (k:Int).toNat 0=l[k]:=by simp [h1]
     have hg':l'.getD (k:Int).toNat 0=l'[k]:=by simp [h2]
     rw [hg,hg']
     refine br_iff.2 ⟨fun h3 => ⟨?_,rfl⟩,fun h3 => ?_⟩
     · congr 1
       symm
       rw [beq_eq_false_iff_ne]
       rintro rfl
       simp at h3
     · have h4:=hR () τ (by omega) ⟨rfl,by rw [List.take_succ_eq_append_getElem h1,List.take_succ_eq_append_getElem h2,hI]; simp at h3; rw [h3]⟩
       unfold Len at hn
       rw [wnat (by omega)]
       exact h4
   · have:k=n:=by omega
     subst this
     refine ⟨?_,rfl⟩
     rw [List.take_of_length_le (by omega),List.take_of_length_le (by omega)] at hI
     rw [hI]; simp
end Go.Proofs.Ythfnjogadngfiaa
namespace Go.Sl
structure Step (M:Nat→Prop) (σ τ:PH):Prop where
 same:∀ b o,σ b=some o→¬ M b→τ b=some o
 dom:∀ b,σ b ≠ none→τ b ≠ none
theorem Step.refl {M:Nat→Prop} (σ:PH):Step M σ σ:=⟨fun _ _ h _ => h,fun _ h => h⟩
theorem Step.trans {M:Nat→Prop} {σ τ υ:PH} (h:Step M σ τ) (h':Step M τ υ):Step M σ υ :=
 ⟨fun b o hb hm => h'.same b o (h.same b o hb hm) hm,fun b hb => h'.dom b (h.dom b hb)⟩
theorem Step.weaken {M N:Nat→Prop} {σ τ:PH} (h:Step M σ τ) (hm:∀ b,M b→N b):Step N σ τ:=⟨fun b o hb hn => h.same b o hb fun h => hn (hm b h),h.dom⟩
theorem PH.sub.step {M:Nat→Prop} {σ τ:PH} (h:σ.sub τ):Step M σ τ :=
 ⟨fun b o hb _ => h b o hb,fun b hb => by
   cases hc:σ b with
   | none => exact absurd hc hb
   | some o => rw [h b o hc]; simp⟩
theorem Step.sub {σ τ:PH} (h:Step (fun _ => False) σ τ):σ.sub τ:=fun b o hb => h.same b o hb fun h => h
structure Own (σ:PH) (e:TypeId) (size:Nat) (a:Option Addr) (n c:Nat) (vs:List Value):Prop where
 len:vs.length=n * size
 le:n≤c
 row:(a=none∧c=0) ∨ ∃ b arr,a=some ⟨b,0,none⟩∧σ b=some (.cells arr e (0,0))∧arr.size=c * size∧arr.toList.take (n * size)=vs
theorem add_off (b o i:Nat):(Addr.mk b o none).add i=⟨b,o + i,none⟩:=by
 unfold Addr.add
 split
 · rename_i h; subst h; rfl
 · rfl
theorem rowAt_of {σ:PH} {b:Nat} {arr:Array Value} {e:TypeId} {f:Nat × Nat} (h:σ b=some (.cells arr e f)):∀ (vs:List Value) (o i:Nat),(∀ j v,vs[j]?=some v→arr[o + i + j]?=some v)→rowAt σ ⟨b,o,none⟩ i vs
 | [],_,_,_ => trivial
 | v :: vs,o,i,hv => by
   refine ⟨?_,rowAt_of h vs o (i + 1) fun j u hu => ?_⟩
   · rw [add_off]
     unfold PH.cell?
     rw [h]
     exact hv 0 v rfl
   · have:=hv (j + 1) u hu
     rw [← this]; congr 1; omega
theorem Own.reads {σ:PH} {e:TypeId} {size:Nat} {a:Option Addr} {n c:Nat} {vs:List Value} (h:Own σ e size a n c vs):readsRow σ a vs:=by
 rcases h.row with ⟨rfl,hc⟩ | ⟨b,arr,rfl,hb,hs,ht⟩
 · have h1:=h.len
   have h2:=h.le
   have:n=0:=by omega
   subst this
   rw [Nat.zero_mul] at h1
   exact List.length_eq_zero_iff.1 h1
 · refine rowAt_of hb vs 0 0 fun j v hv => ?_
   rw [← ht] at hv
   rw [List.getElem?_take] at hv
   split at hv
   · simpa using hv
   · cases hv
theorem putRow_cells {b:Nat} {e:TypeId} {f:Nat × Nat}:∀ (vs:List Value) (σ:PH) (arr:Array Value) (o i:Nat),σ b=some (.cells arr e f)→o + i + vs.length≤arr.size →
   ∃ arr',putRow σ ⟨b,o,none⟩ i vs b=some (.cells arr' e f)∧arr'.size=arr.size∧arr'.toList.take (o + i + vs.length)=arr.toList.take (o + i) ++ vs∧(∀ x,x ≠ b→putRow σ ⟨b,o,none⟩ i vs x=σ x)
 | [],σ,arr,o,i,h,hl => ⟨arr,h,rfl,by simp,fun _ _ => rfl⟩
 | v :: vs,σ,arr,o,i,h,hl => by
   have h1:(σ.setCell ((Addr.mk b o none).add i) v) b=some (.cells (arr.setIfInBounds (o + i) v) e f):=by
     rw [add_off]
     unfold PH.setCell
     simp only [if_true,h,Option.map_some]
     rfl
   simp only [List.length_cons] at hl
   obtain ⟨arr',q1,q2,q3,q4⟩:=putRow_cells vs _ _ o (i + 1) h1 (by simp; omega)
   refine ⟨arr',q1,by rw [q2]; simp,?_,?_⟩
   · rw [List.length_cons,show o + i + (vs.length + 1)=o + (i + 1) + vs.length from by omega,q3]
     rw [Array.toList_setIfInBounds,show o + (i + 1)=(o + i) + 1 from rfl]
     have hlt:o + i < arr.toList.length:=by simp; omega
     rw [List.take_succ_eq_append_getElem (by simp; omega)]
     simp [List.take_set_of_le]
   · intro x hx
     show putRow _ _ (i + 1) vs x=_
     rw [q4 x hx,add_off]
     unfold PH.setCell
     rw [if_neg hx]
theorem notFrozen_of {σ:PH} {b:Nat} {arr:Array Value} {e:TypeId} (h:σ b=some (.cells arr e (0,0))):∀ (m o i:Nat),o + i + m≤arr.size→notFrozen σ ⟨b,o,none⟩ i m
 | 0,_,_,_ => trivial
 | m + 1,o,i,hl => by
   refine ⟨?_,?_,notFrozen_of h m o (i + 1) (by omega)⟩
   · rw [add_off]; unfold PH.froz; rw [h]; simp
   · rw [add_off]; unfold PH.cell?; rw [h]
     exact ⟨arr[o + i]'(by omega),by simp⟩
theorem growBy_le {n:Nat}:∀ (r c:Nat),c≤n + n / 4 + 256→Builtin.growBy n r c≤n + n / 4 + 256
 | 0,_,h => h
 | r + 1,c,h => by
   unfold Builtin.growBy
   split
   · exact h
   · exact growBy_le r _ (by omega)
theorem nextcap_le {n c:Nat} (h:c < n):Builtin.nextslicecap n c≤n + n / 4 + 256:=by
 unfold Builtin.nextslicecap
 split
 · omega
 · split
   · omega
   · exact growBy_le 4 c (by omega)
theorem Own.append {P:Program} {e:TypeId} {size bytes:Nat} {z:Value} (hs:sizeT P e=some size) (hb:bytesT P e=some bytes) (hz:zeroT P e=some z) (hzs:z.cells.size=size) (h0:bytes ≠ 0)
   {σ:PH} {a:Option Addr} {n c m mc:Nat} {vs news:List Value} {xb:Option Addr} (o:Own σ e size a n c vs) (hr:readsRow σ xb news) (hl:news.length=m * size) (hp:∀ v ∈ news,plainCell v)
   (hbig:((n + m) + (n + m) / 4 + 256) * bytes≤2 ^ 48) {Q:Value→PH→Prop}
   (hQ:∀ a' c' τ,Own τ e size a' (n + m) c' (vs ++ news)→Step (fun b => ∃ p,a=some p∧b=p.block) σ τ→(a'=a ∨ ∃ b,σ b=none∧a'=some ⟨b,0,none⟩)→Q (.slice a' (n + m) c') τ) :
   iappend P e (.slice a n c) (.slice xb m mc) Q σ:=by
 unfold iappend
 simp only [hs,hb,hz,hzs,beq_self_eq_true]
 refine ⟨vs,news,o.len,hl,o.reads,hr,fun hle => ?_,fun hlt => ⟨h0,?_,fun c' b hc' hbn => ?_⟩⟩
 · rcases o.row with ⟨rfl,hc⟩ | ⟨b,arr,rfl,hbk,hsz,ht⟩
   · have h1:=o.le
     have hn:n=0:=by omega
     have hm:m=0:=by omega
     subst hn; subst hm
     have hv:vs=[]:=List.length_eq_zero_iff.1 (by rw [o.len]; simp)
     have hw:news=[]:=List.length_eq_zero_iff.1 (by rw [hl]; simp)
     subst hv; subst hw
     exact hQ none c σ ⟨by simp,by omega,.inl ⟨rfl,hc⟩⟩ (.refl _) (.inl rfl)
   · have hroom:n * size + m * size≤arr.size:=by rw [hsz,← Nat.add_mul]; exact Nat.mul_le_mul_right _ hle
     refine ⟨hp,?_,?_⟩
     · rw [add_off]
       exact notFrozen_of hbk _ _ _ (by simp; omega)
     · rw [add_off]
       obtain ⟨arr',q1,q2,q3,q4⟩:=putRow_cells (b:=b) news σ arr (0 + n * size) 0 hbk (by rw [hl]; omega)
       refine hQ _ c _ ⟨by rw [List.length_append,o.len,hl,Nat.add_mul],hle,.inr ⟨b,arr',rfl,q1,by rw [q2,hsz],?_⟩⟩ ⟨?_,?_⟩ (.inl rfl)
       · rw [hl] at q3
         simp only [Nat.zero_add,Nat.add_zero] at q3
         rw [Nat.add_mul,q3,ht]
       · intro x ob hx hne
         rw [q4 x fun e => hne ⟨_,rfl,e⟩]; exact hx
       · intro x hx
         by_cases e:x=b
         · subst e; rw [q1]; simp
         · rw [q4 x e]; exact hx
 · exact Nat.le_trans (Nat.mul_le_mul_right _ (nextcap_le hlt)) hbig
 · refine hQ _ c' _ ⟨by rw [List.length_append,o.len,hl,Nat.add_mul],hc',.inr ⟨b,_,rfl,by unfold PH.set; rw [if_pos rfl],?_,?_⟩⟩ ?_ (.inr ⟨b,hbn,rfl⟩)
   · simp only [Array.size_append,List.size_toArray,o.len,hl,zeros,Builtin.zeroCells,Array.size_map,Array.size_range,hzs]
     rw [← Nat.add_mul,← Nat.add_mul]
     congr 1
     omega
   · simp only [Array.toList_append]
     rw [List.take_append_of_le_length (by simp [o.len,hl,Nat.add_mul]),List.take_of_length_le (by simp [o.len,hl,Nat.add_mul])]
   · exact (PH.sub_set hbn).step
inductive Tag where
 | other | fld (k:Nat) | watch (k:Nat) | rsn | lits (r:Nat) | cyc (r:Nat)
deriving DecidableEq
structure Sli where
 a:Option Addr
 n:Nat
 c:Nat
abbrev Sli.v (s:Sli):Value:=.slice s.a s.n s.c
theorem Own.keep {M:Nat→Prop} {σ τ:PH} (h:Step M σ τ) {e:TypeId} {size:Nat} {a:Option Addr} {n c:Nat} {vs:List Value} (hm:∀ p,a=some p→¬ M p.block) (o:Own σ e size a n c vs):Own τ e size a n c vs:=by
 refine ⟨o.len,o.le,?_⟩
 rcases o.row with h' | ⟨b,arr,rfl,hb,h1,h2⟩
 · exact .inl h'
 · exact .inr ⟨b,arr,rfl,h.same b _ hb (hm _ rfl),h1,h2⟩
theorem Own.known {σ:PH} {e:TypeId} {size:Nat} {a:Option Addr} {n c:Nat} {vs:List Value} (o:Own σ e size a n c vs) {p:Addr} (hp:a=some p):σ p.block ≠ none:=by
 rcases o.row with ⟨rfl,_⟩ | ⟨b,arr,rfl,hb,_⟩
 · cases hp
 · cases hp; rw [hb]; simp
theorem Own.get {σ:PH} {e:TypeId} {size:Nat} {a:Option Addr} {n c:Nat} {vs:List Value} (o:Own σ e size a n c vs) {i:Nat} {v:Value} (hv:vs[i]?=some v):∃ p,a=some p∧σ.cell? (p.add i)=some v:=by
 rcases o.row with ⟨rfl,hc⟩ | ⟨b,arr,rfl,hb,h1,h2⟩
 · have h1:=o.len
   have h2:=o.le
   have:n=0:=by omega
   subst this
   rw [Nat.zero_mul] at h1
   rw [List.length_eq_zero_iff.1 h1] at hv
   simp at hv
 · refine ⟨_,rfl,?_⟩
   rw [add_off,Nat.zero_add]
   unfold PH.cell?
   rw [hb]
   rw [← h2,List.getElem?_take] at hv
   split at hv
   · simpa using hv
   · cases hv
theorem setCell_at {σ:PH} {b o:Nat} {arr:Array Value} {e:TypeId} {f:Nat × Nat} {v:Value} (h:σ b=some (.cells arr e f)):(σ.setCell ⟨b,o,none⟩ v) b=some (.cells (arr.setIfInBounds o v) e f):=by
 unfold PH.setCell
 simp only [if_true,h,Option.map_some]
 rfl
theorem setCell_step {σ:PH} {a:Addr} {v:Value}:Step (fun b => b=a.block) σ (σ.setCell a v):=by
 refine ⟨fun b o hb hm => ?_,fun b hb => ?_⟩
 · unfold PH.setCell; rw [if_neg hm]; exact hb
 · intro h; exact hb (setCell_none.1 h)
theorem Own.set {σ:PH} {e:TypeId} {size:Nat} {a:Option Addr} {n c:Nat} {vs:List Value} (o:Own σ e size a n c vs) {i:Nat} (hi:i < vs.length) :
   ∃ p,a=some p∧(∃ u,σ.cell? (p.add i)=some u)∧σ.froz (p.add i)=some false∧(p.add i).block=p.block∧∀ v,Own (σ.setCell (p.add i) v) e size a n c (vs.set i v):=by
 obtain ⟨p,hp,hc⟩:=o.get (i:=i) (v:=vs[i]) (List.getElem?_eq_getElem hi)
 refine ⟨p,hp,⟨_,hc⟩,?_,add_block p i,fun v => ?_⟩
 · rcases o.row with ⟨rfl,_⟩ | ⟨b,arr,rfl,hb,h1,h2⟩
   · cases hp
   · cases hp
     rw [add_off]; unfold PH.froz; rw [hb]; simp
 · refine ⟨by rw [List.length_set]; exact o.len,o.le,?_⟩
   rcases o.row with ⟨rfl,_⟩ | ⟨b,arr,rfl,hb,h1,h2⟩
   · cases hp
   · cases hp
     refine .inr ⟨b,arr.setIfInBounds i v,rfl,?_,by rw [Array.size_setIfInBounds]; exact h1,?_⟩
     · rw [add_off,Nat.zero_add]; exact setCell_at hb
     · rw [← h2,Array.toList_setIfInBounds,List.take_set]
def OwnT (σ:PH) (T:Nat→Tag) (t:Tag) (e:TypeId) (size:Nat) (s:Sli) (vs:List Value):Prop:=Own σ e size s.a s.n s.c vs∧∀ p,s.a=some p→T p.block=t
theorem OwnT.keep {M:Nat→Prop} {σ τ:PH} (h:Step M σ τ) {T:Nat→Tag} {t:Tag} {e:TypeId} {size:Nat} {s:Sli} {vs:List Value} (hm:∀ b,T b=t→¬ M b) (o:OwnT σ T t e size s vs):OwnT τ T t e size s vs :=
 ⟨o.1.keep h fun p hp => hm _ (o.2 p hp),o.2⟩
theorem OwnT.tag {σ:PH} {T T':Nat→Tag} (hT:∀ b,σ b ≠ none→T' b=T b) {t:Tag} {e:TypeId} {size:Nat} {s:Sli} {vs:List Value} (o:OwnT σ T t e size s vs):OwnT σ T' t e size s vs :=
 ⟨o.1,fun p hp => (hT _ (o.1.known hp)).trans (o.2 p hp)⟩
def Blk (σ:PH) (b:Nat) (e:TypeId) (vs:List Value):Prop:=σ b=some (.cells vs.toArray e (0,0))
theorem Blk.get {σ:PH} {b:Nat} {e:TypeId} {vs:List Value} (h:Blk σ b e vs) {i:Nat} {v:Value} (hv:vs[i]?=some v):σ.cell? ((Addr.mk b 0 none).add i)=some v:=by
 rw [add_off,Nat.zero_add]
 unfold PH.cell?
 rw [h]
 simpa using hv
theorem Blk.froz {σ:PH} {b:Nat} {e:TypeId} {vs:List Value} (h:Blk σ b e vs) (i:Nat):σ.froz ((Addr.mk b 0 none).add i)=some false:=by
 rw [add_off]; unfold PH.froz; rw [h]; simp
theorem Blk.set {σ:PH} {b:Nat} {e:TypeId} {vs:List Value} (h:Blk σ b e vs) (i:Nat) (v:Value):Blk (σ.setCell ((Addr.mk b 0 none).add i) v) b e (vs.set i v):=by
 rw [add_off,Nat.zero_add]
 unfold Blk
 rw [setCell_at h]
 simp
theorem Blk.keep {M:Nat→Prop} {σ τ:PH} (h:Step M σ τ) {b:Nat} {e:TypeId} {vs:List Value} (hm:¬ M b) (o:Blk σ b e vs):Blk τ b e vs:=h.same b _ o hm
theorem Blk.known {σ:PH} {b:Nat} {e:TypeId} {vs:List Value} (o:Blk σ b e vs):σ b ≠ none:=by rw [o]; simp
end Go.Sl
namespace Go.Proofs.Ythfnjogadngfiaa
open Go.Sl Go.Sv
structure RL where
 l:Sli
 lits:List Int
 step:Int
 c:Sli
 cyc:List Int
structure Low where
 ff:List Value
 F:Nat→Sli
 V:Nat→List Value
 inp:Nat
 es:Array MapEntry
 clock:Nat
 head:Int
 bump:Nat
 empty:Option Addr
 W:List (Sli × List Int)
 R:Nat→Option RL
def cellsOf (g:Low):List Value :=
 g.ff ++ [(g.F 4).v,.map (some g.inp),(g.F 6).v,(g.F 7).v,(g.F 8).v,(g.F 9).v,(g.F 10).v,(g.F 11).v,(g.F 12).v,.int .i64 g.head,(g.F 14).v,.float .f64 g.bump,.pointer g.empty,(g.F 17).v]
def fty:Nat→Option (Nat × Nat)
 | 4 => some (95,6) | 6 => some (84,1) | 7 => some (33,1) | 8 => some (3,1) | 9 => some (3,1) | 10 => some (84,1) | 11 => some (3,1) | 12 => some (3,1) | 14 => some (83,1) | 17 => some (84,1)
 | _ => none
def ints (l:List Int):List Value:=l.map (.int .i64)
structure Sol (σ:PH) (T:Nat→Tag) (s:Nat) (g:Low):Prop where
 ff:g.ff.length=4
 blk:Blk σ s 86 (cellsOf g)
 tag:T s=.fld 0
 fld:∀ k e size,fty k=some (e,size)→OwnT σ T (.fld k) e size (g.F k) (g.V k)
 map:σ g.inp=some (.map g.es g.clock)
 mtag:T g.inp=.fld 5
 keys:IntKeys .i64 g.es
 wv:g.V 7=g.W.map (·.1.v)
 wat:∀ i sl l,g.W[i]?=some (sl,l)→OwnT σ T (.watch i) 3 1 sl (ints l)
 rblk:∀ r x,g.R r=some x→Blk σ r 102 [x.l.v,.int .i64 x.step,x.c.v]
 rtag:∀ r x,g.R r=some x→T r=.rsn
 rl:∀ r x,g.R r=some x→OwnT σ T (.lits r) 3 1 x.l (ints x.lits)
 rc:∀ r x,g.R r=some x→OwnT σ T (.cyc r) 3 1 x.c (ints x.cyc)
structure Did (σ:PH) (T:Nat→Tag) (τ:PH) (T':Nat→Tag):Prop where
 step:Step (fun b => T b ≠ .other) σ τ
 tags:∀ b,σ b ≠ none→T' b=T b
theorem Did.refl (σ:PH) (T:Nat→Tag):Did σ T σ T:=⟨.refl _,fun _ _ => rfl⟩
theorem Did.trans {σ τ υ:PH} {T T' T'':Nat→Tag} (h:Did σ T τ T') (h':Did τ T' υ T''):Did σ T υ T'':=by
 refine ⟨⟨fun b o hb hm => ?_,fun b hb => h'.step.dom b (h.step.dom b hb)⟩,fun b hb => (h'.tags b (h.step.dom b hb)).trans (h.tags b hb)⟩
 refine h'.step.same b o (h.step.same b o hb hm) ?_
 rw [h.tags b (by rw [hb]; simp)]
 exact hm
theorem Sol.keep {M:Nat→Prop} {σ τ:PH} {T:Nat→Tag} {s:Nat} {g:Low} (h:Sol σ T s g) (hs:Step M σ τ) (hm:∀ b,T b ≠ .other→¬ M b):Sol τ T s g where
 ff:=h.ff
 blk:=h.blk.keep hs (hm s (by rw [h.tag]; simp))
 tag:=h.tag
 fld k e size hk:=(h.fld k e size hk).keep hs fun b hb => hm b (by rw [hb]; simp)
 map:=hs.same _ _ h.map (hm _ (by rw [h.mtag]; simp))
 mtag:=h.mtag
 keys:=h.keys
 wv:=h.wv
 wat i sl l hi:=(h.wat i sl l hi).keep hs fun b hb => hm b (by rw [hb]; simp)
 rblk r x hr:=(h.rblk r x hr).keep hs (hm r (by rw [h.rtag r x hr]; simp))
 rtag:=h.rtag
 rl r x hr:=(h.rl r x hr).keep hs fun b hb => hm b (by rw [hb]; simp)
 rc r x hr:=(h.rc r x hr).keep hs fun b hb => hm b (by rw [hb]; simp)
theorem Sol.retag {σ:PH} {T T':Nat→Tag} {s:Nat} {g:Low} (h:Sol σ T s g) (hT:∀ b,σ b ≠ none→T' b=T b):Sol σ T' s g where
 ff:=h.ff
 blk:=h.blk
 tag:=(hT s h.blk.known).trans h.tag
 fld k e size hk:=(h.fld k e size hk).tag hT
 map:=h.map
 mtag:=(hT _ (by rw [h.map]; simp)).trans h.mtag
 keys:=h.keys
 wv:=h.wv
 wat i sl l hi:=(h.wat i sl l hi).tag hT
 rblk:=h.rblk
 rtag r x hr:=(hT r (h.rblk r x hr).known).trans (h.rtag r x hr)
 rl r x hr:=(h.rl r x hr).tag hT
 rc r x hr:=(h.rc r x hr).tag hT
def Low.setV (g:Low) (k:Nat) (vs:List Value):Low:={ g with V:=fun j => if j=k then vs else g.V j }
theorem Sol.setAt {σ:PH} {T:Nat→Tag} {s:Nat} {g:Low} (h:Sol σ T s g) {k e size:Nat} (hk:fty k=some (e,size)) (h7:k ≠ 7) {i:Nat} (hi:i < (g.V k).length) :
   ∃ p,(g.F k).a=some p∧(∃ u,σ.cell? (p.add i)=some u)∧σ.froz (p.add i)=some false∧∀ v,Sol (σ.setCell (p.add i) v) T s (g.setV k ((g.V k).set i v))∧Did σ T (σ.setCell (p.add i) v) T:=by
 have hO:=h.fld k e size hk
 obtain ⟨p,hp,h1,h2,hb,h3⟩:=hO.1.set hi
 refine ⟨p,hp,h1,h2,fun v => ?_⟩
 have hst:Step (fun b => b=(p.add i).block) σ (σ.setCell (p.add i) v):=setCell_step
 have htp:T (p.add i).block=.fld k:=by rw [hb]; exact hO.2 p hp
 have ne:∀ b t,T b=t→t ≠ .fld k→¬ b=(p.add i).block:=by
   rintro b t h1 h2 rfl
   exact h2 (h1.symm.trans htp)
 have k0:k ≠ 0:=by rintro rfl; cases hk
 have k5:k ≠ 5:=by rintro rfl; cases hk
 refine ⟨⟨h.ff,h.blk.keep hst (ne s _ h.tag (by simp [Ne.symm k0])),h.tag,fun j e' size' hj => ?_,hst.same _ _ h.map (ne _ _ h.mtag (by simp [Ne.symm k5])),h.mtag,h.keys,?_,fun j sl l hj => (h.wat j sl l hj).keep hst fun b hb => ne b _ hb (by simp),
   fun r x hr => (h.rblk r x hr).keep hst (ne r _ (h.rtag r x hr) (by simp)),h.rtag,fun r x hr => (h.rl r x hr).keep hst fun b hb => ne b _ hb (by simp),fun r x hr => (h.rc r x hr).keep hst fun b hb => ne b _ hb (by simp)⟩,hst.weaken ?_,fun _ _ => rfl⟩
 · by_cases e1:j=k
   · subst e1
     rw [hk] at hj
     cases hj
     refine ⟨?_,hO.2⟩
     show Own _ e size _ _ _ (if j=j then _ else _)
     rw [if_pos rfl]
     exact h3 v
   · have:=(h.fld j e' size' hj).keep hst fun b hb => ne b _ hb (by simpa using e1)
     show OwnT _ _ _ _ _ _ (if j=k then _ else _)
     rw [if_neg e1]
     exact this
 · show (if 7=k then _ else g.V 7)=_
   rw [if_neg (Ne.symm h7)]
   exact h.wv
 · rintro b rfl
   rw [htp]; simp
def tagAt (T:Nat→Tag) (a:Option Addr) (t:Tag) (b:Nat):Tag:=match a with | some p => if b=p.block then t else T b | none => T b
theorem tagAt_self {T:Nat→Tag} {p:Addr} {t:Tag}:tagAt T (some p) t p.block=t:=by simp [tagAt]
theorem tagAt_other {T:Nat→Tag} {a:Option Addr} {t:Tag} {b:Nat} (h:∀ p,a=some p→b=p.block→T b=t):tagAt T a t b=T b:=by
 unfold tagAt
 split
 · split
   · rename_i p e; exact (h p rfl e).symm
   · rfl
 · rfl
def Low.setF (g:Low) (k:Nat) (sl:Sli) (vs:List Value):Low:={ g with F:=fun j => if j=k then sl else g.F j,V:=fun j => if j=k then vs else g.V j }
theorem cellsOf_setF {g:Low} (hff:g.ff.length=4) {k e size:Nat} (hk:fty k=some (e,size)) (sl:Sli) (vs:List Value):cellsOf (g.setF k sl vs)=(cellsOf g).set k sl.v:=by
 obtain ⟨ff,F,V,inp,es,clock,head,bump,empty,W,R⟩:=g
 match ff,hff with
 | [a,b,c,d],_ =>
   unfold fty at hk
   split at hk <;> first | rfl | cases hk
theorem cellsOf_F {g:Low} (hff:g.ff.length=4) {k e size:Nat} (hk:fty k=some (e,size)):(cellsOf g)[k]?=some (g.F k).v:=by
 obtain ⟨ff,F,V,inp,es,clock,head,bump,empty,W,R⟩:=g
 match ff,hff with
 | [a,b,c,d],_ =>
   unfold fty at hk
   split at hk <;> first | rfl | cases hk
theorem Sol.field {σ:PH} {T:Nat→Tag} {s:Nat} {g:Low} (h:Sol σ T s g) {k e size:Nat} (hk:fty k=some (e,size)):σ.cell? ((Addr.mk s 0 none).add k)=some (.slice (g.F k).a (g.F k).n (g.F k).c) :=
 h.blk.get (cellsOf_F h.ff hk)
theorem Sol.appendF {σ:PH} {T:Nat→Tag} {s:Nat} {g:Low} (h:Sol σ T s g) {k e size bytes:Nat} {z:Value} (hk:fty k=some (e,size)) (h7:k ≠ 7)
   (hs:sizeT prog e=some size) (hb:bytesT prog e=some bytes) (hz:zeroT prog e=some z) (hzs:z.cells.size=size) (h0:bytes ≠ 0) {xb:Option Addr} {m mc:Nat} {news:List Value}
   (hr:readsRow σ xb news) (hl:news.length=m * size) (hp:∀ v ∈ news,Go.Sl.plainCell v) (hbig:(((g.F k).n + m) + ((g.F k).n + m) / 4 + 256) * bytes≤2 ^ 48) {Q:Value→PH→Prop}
   (hQ:∀ a' c' τ,(∃ u,τ.cell? ((Addr.mk s 0 none).add k)=some u)→τ.froz ((Addr.mk s 0 none).add k)=some false →
     (∃ T',Sol (τ.setCell ((Addr.mk s 0 none).add k) (.slice a' ((g.F k).n + m) c')) T' s (g.setF k ⟨a',(g.F k).n + m,c'⟩ (g.V k ++ news))∧Did σ T (τ.setCell ((Addr.mk s 0 none).add k) (.slice a' ((g.F k).n + m) c')) T')→Q (.slice a' ((g.F k).n + m) c') τ) :
   iappend prog e (.slice (g.F k).a (g.F k).n (g.F k).c) (.slice xb m mc) Q σ:=by
 have hO:=h.fld k e size hk
 have k0:k ≠ 0:=by rintro rfl; cases hk
 have k5:k ≠ 5:=by rintro rfl; cases hk
 refine Own.append hs hb hz hzs h0 hO.1 hr hl hp hbig fun a' c' τ hO' hst hnew => ?_
 have hst':Step (fun b => T b=.fld k) σ τ:=hst.weaken fun b ⟨p,h1,h2⟩ => h2 ▸ hO.2 p h1
 have hblk:Blk τ s 86 (cellsOf g):=h.blk.keep hst' (by rw [h.tag]; simp [Ne.symm k0])
 refine hQ a' c' τ ⟨_,hblk.get (cellsOf_F h.ff hk)⟩ (hblk.froz k) ?_
 obtain ⟨T',hT,hTn⟩:∃ T':Nat→Tag,(∀ b,σ b ≠ none→T' b=T b)∧∀ p,a'=some p→T' p.block=.fld k:=by
   refine ⟨tagAt T a' (.fld k),fun b hbn => tagAt_other fun p hp' e1 => ?_,fun p hp' => by rw [hp']; exact tagAt_self⟩
   subst e1
   rcases hnew with h1 | ⟨b',h1,h2⟩
   · exact hO.2 p (h1 ▸ hp')
   · rw [hp'] at h2
     cases h2
     exact absurd h1 hbn
 have hR:=h.retag hT
 have hsb:((Addr.mk s 0 none).add k).block=s:=add_block _ _
 have hs1:Step (fun b => T' b=.fld k) σ τ:=⟨fun b o hb' hm => hst'.same b o hb' (by rw [← hT b (by rw [hb']; simp)]; exact hm),hst'.dom⟩
 have hs2:Step (fun b => b=s) τ (τ.setCell ((Addr.mk s 0 none).add k) (.slice a' ((g.F k).n + m) c')):=setCell_step.weaken fun b hb' => hb'.trans hsb
 have hall:Step (fun b => T' b=.fld k ∨ b=s) σ (τ.setCell ((Addr.mk s 0 none).add k) (.slice a' ((g.F k).n + m) c')):=(hs1.weaken fun b h => .inl h).trans (hs2.weaken fun b h => .inr h)
 have ne:∀ b t,T' b=t→t ≠ .fld k→t ≠ .fld 0→¬ (T' b=.fld k ∨ b=s):=by
   rintro b t h1 h2 h3 (h4 | rfl)
   · exact h2 (h1.symm.trans h4)
   · exact h3 (h1.symm.trans hR.tag)
 refine ⟨T',⟨h.ff,?_,hR.tag,fun j e' size' hj => ?_,hall.same _ _ h.map (ne _ _ hR.mtag (by simp [Ne.symm k5]) (by simp)),hR.mtag,h.keys,?_,fun j sl l hj => (hR.wat j sl l hj).keep hall fun b hb => ne b _ hb (by simp) (by simp),
   fun r x hr => (h.rblk r x hr).keep hall (ne r _ (hR.rtag r x hr) (by simp) (by simp)),hR.rtag,fun r x hr => (hR.rl r x hr).keep hall fun b hb => ne b _ hb (by simp) (by simp),fun r x hr => (hR.rc r x hr).keep hall fun b hb => ne b _ hb (by simp) (by simp)⟩,?_,hT⟩
 · rw [cellsOf_setF h.ff hk]
   exact hblk.set k _
 · by_cases e1:j=k
   · subst e1
     rw [hk] at hj
     cases hj
     show Own _ e size (if j=j then _ else _:Sli).a _ _ (if j=j then _ else _)∧_
     refine ⟨?_,?_⟩
     · rw [if_pos rfl]
       rw [show (g.setF j ⟨a',(g.F j).n + m,c'⟩ (g.V j ++ news)).F j=⟨a',(g.F j).n + m,c'⟩ from if_pos rfl]
       rw [if_pos rfl]
       refine hO'.keep hs2 fun p hp' => ?_
       intro e2
       have:=hTn p hp'
       rw [e2,hR.tag] at this
       exact k0 (by cases this; rfl)
     · rw [show (g.setF j ⟨a',(g.F j).n + m,c'⟩ (g.V j ++ news)).F j=⟨a',(g.F j).n + m,c'⟩ from if_pos rfl]
       exact hTn
   · have j0:j ≠ 0:=by rintro rfl; cases hj
     have:=(hR.fld j e' size' hj).keep hall fun b hb => ne b _ hb (by simpa using e1) (by simpa using j0)
     show OwnT _ _ _ _ _ (if j=k then _ else _) (if j=k then _ else _)
     rw [if_neg e1,if_neg e1]
     exact this
 · show (if 7=k then _ else g.V 7)=_
   rw [if_neg (Ne.symm h7)]
   exact h.wv
 · refine ⟨fun b o hb' hm => hall.same b o hb' ?_,hall.dom⟩
   rintro (h1 | rfl)
   · rw [hT b (by rw [hb']; simp)] at h1
     rw [h1] at hm; exact hm (by simp)
   · rw [h.tag] at hm; exact hm (by simp)
theorem Sol.len {σ:PH} {T:Nat→Tag} {s:Nat} {g:Low} (h:Sol σ T s g) {k e:Nat} (hk:fty k=some (e,1)):(g.V k).length=(g.F k).n:=by
 have:=(h.fld k e 1 hk).1.len; omega
theorem t3:sizeT prog 3=some 1∧bytesT prog 3=some 8∧zeroT prog 3=some (.int .i64 0):=⟨by kernel_rfl,by kernel_rfl,by kernel_rfl⟩
theorem Sol.fresh {σ:PH} {T:Nat→Tag} {s:Nat} {g:Low} (h:Sol σ T s g) {b:Nat} (hb:σ b=none) (o:Obj):∃ T',Sol (σ.set b o) T' s g∧Did σ T (σ.set b o) T'∧T' b=.other:=by
 have hT:∀ x,σ x ≠ none→(if x=b then Tag.other else T x)=T x:=fun x hx => if_neg (by rintro rfl; exact hx hb)
 exact ⟨fun x => if x=b then .other else T x,(h.retag hT).keep (M:=fun _ => False) (PH.sub_set hb).step (fun _ _ h => h),⟨(PH.sub_set hb).step,hT⟩,if_pos rfl⟩
theorem c54 {σ:PH} {T:Nat→Tag} {s:Nat} {g:Low} (h:Sol σ T s g) {lit:Int} (hl:Lit lit) (h0:lit ≠ 0) (r:Option Addr) (h8:(idx lit / 2).toNat < (g.V 8).length) (h9:(idx lit / 2).toNat < (g.V 9).length)
   (h10:(idx lit / 2).toNat < (g.V 10).length) (h11:(g.F 11).n≤1000000) :
   C 54 #[.pointer (some ⟨s,0,none⟩),.int .i64 lit,.pointer r] (fun v τ => v=.tuple #[]∧∃ T' sl,Did σ T τ T'∧sl.n=(g.F 11).n + 1 ∧
     Sol τ T' s ((((g.setV 8 ((g.V 8).set (idx lit / 2).toNat (.int .i64 (sgn lit)))).setV 9 ((g.V 9).set (idx lit / 2).toNat (.int .i64 (g.F 12).n))).setV 10 ((g.V 10).set (idx lit / 2).toNat (.pointer r))).setF 11 sl (g.V 11 ++ [.int .i64 lit]))) σ:=by
 refine go (E54_0 _ _ _ _ _ _) ?_
 unfold S54_0
 refine (c74 hl h0 σ).mono hb ?_
 rintro _ σ ⟨rfl,rfl⟩
 have hi:0≤idx lit / 2:=by unfold Lit at hl; unfold idx; split <;> omega
 have l8:=h.len (k:=8) rfl
 have l9:=h.len (k:=9) rfl
 have l10:=h.len (k:=10) rfl
 simp only [Nat.mul_one]
 obtain ⟨p,hp,hu,hf,hset⟩:=h.setAt (k:=8) rfl (by decide) h8
 refine ⟨_,PH.sub.refl _,_,rfl,_,rfl,_,h.field (k:=8) rfl,_,_,_,rfl,p,hp,hi,by omega,hu,hf,?_⟩
 have tail:∀ σ1,Sol σ1 T s (g.setV 8 ((g.V 8).set (idx lit / 2).toNat (.int .i64 (sgn lit))))→Did σ T σ1 T→S54_1 C (fun v τ => v=.tuple #[]∧∃ T' sl,Did σ T τ T'∧sl.n=(g.F 11).n + 1 ∧
     Sol τ T' s ((((g.setV 8 ((g.V 8).set (idx lit / 2).toNat (.int .i64 (sgn lit)))).setV 9 ((g.V 9).set (idx lit / 2).toNat (.int .i64 (g.F 12).n))).setV 10 ((g.V 10).set (idx lit / 2).toNat (.pointer r))).setF 11 sl (g.V 11 ++ [.int .i64 lit])))
     (some ⟨s,0,none⟩) lit r (idx lit / 2) σ1:=by
   intro σ1 H1 D1
   unfold S54_1
   simp only [Nat.mul_one]
   obtain ⟨p9,hp9,hu9,hf9,hs9⟩:=H1.setAt (k:=9) rfl (by decide) h9
   obtain ⟨H2,D2⟩:=hs9 (.int .i64 (g.F 12).n)
   obtain ⟨p10,hp10,hu10,hf10,hs10⟩:=H2.setAt (k:=10) rfl (by decide) h10
   obtain ⟨H3,D3⟩:=hs10 (.pointer r)
   refine ⟨_,rfl,_,H1.field (k:=9) rfl,_,_,_,rfl,_,rfl,_,H1.field (k:=10) rfl,_,_,_,rfl,_,rfl,_,H1.field (k:=12) rfl,_,_,_,rfl,p9,hp9,hi,by rw [show (g.setV 8 ((g.V 8).set (idx lit / 2).toNat (.int .i64 (sgn lit)))).F 9=g.F 9 from rfl]; omega,hu9,hf9,
     p10,hp10,hi,by rw [show (g.setV 8 ((g.V 8).set (idx lit / 2).toNat (.int .i64 (sgn lit)))).F 10=g.F 10 from rfl]; omega,hu10,hf10,_,rfl,_,H3.field (k:=11) rfl,_,_,_,rfl,fun b hbn => ?_⟩
   obtain ⟨T4,H4,D4,_⟩:=H3.fresh hbn (.cells #[.int .i64 lit] 3)
   refine H4.appendF (k:=11) rfl (by decide) t3.1 t3.2.1 t3.2.2 rfl (by decide) (news:=[.int .i64 lit]) ?_ rfl ?_ ?_ ?_
   · exact rowAt_of (b:=b) (arr:=#[.int .i64 lit]) (e:=3) (f:=(0,0)) (by unfold PH.set; rw [if_pos rfl]) _ 0 0 (fun j v hv => by simpa using hv)
   · intro v hv; simp at hv; subst hv; trivial
   · show ((g.F 11).n + 1 + ((g.F 11).n + 1) / 4 + 256) * 8≤_
     omega
   · rintro a' c' τ q1 q2 ⟨T5,H5,D5⟩
     exact ⟨_,_,_,rfl,_,rfl,q1,q2,trivial,T5,_,(D1.trans (D2.trans (D3.trans (D4.trans D5)))),rfl,H5⟩
 refine br_dec.2 ⟨fun hneg => ?_,fun hneg => ?_⟩
 · obtain ⟨H1,D1⟩:=hset (.int .i64 1)
   have hlen:(idx lit / 2).toNat < ((g.setV 8 ((g.V 8).set (idx lit / 2).toNat (.int .i64 1))).V 8).length:=by
     simp only [Low.setV,if_true,List.length_set]; exact h8
   obtain ⟨p',hp',hu',hf',hset'⟩:=H1.setAt (k:=8) rfl (by decide) hlen
   refine ⟨_,rfl,_,H1.field (k:=8) rfl,_,_,_,rfl,p',hp',hi,by rw [show (g.setV 8 ((g.V 8).set (idx lit / 2).toNat (.int .i64 1))).F 8=g.F 8 from rfl]; omega,hu',hf',?_⟩
   obtain ⟨H2,D2⟩:=hset' (.int .i64 (-1))
   have e:(g.setV 8 ((g.V 8).set (idx lit / 2).toNat (.int .i64 1))).setV 8 (((g.setV 8 ((g.V 8).set (idx lit / 2).toNat (.int .i64 1))).V 8).set (idx lit / 2).toNat (.int .i64 (-1)))=g.setV 8 ((g.V 8).set (idx lit / 2).toNat (.int .i64 (sgn lit))):=by
     unfold Low.setV sgn
     simp only [if_pos hneg]
     congr 1
     funext j
     by_cases hj:j=8 <;> simp [hj]
   rw [e] at H2
   exact tail _ H2 (D1.trans D2)
 · obtain ⟨H1,D1⟩:=hset (.int .i64 1)
   rw [show (1:Int)=sgn lit from (if_neg hneg).symm] at H1 D1 ⊢
   exact tail _ H1 D1
theorem t95:sizeT prog 95=some 6∧bytesT prog 95=some 64∧zeroT prog 95=some (.agg #[.int .i64 0,.int .i64 0,.slice none 0 0,.int .i64 0,.int .i64 0,.int .i64 0]):=⟨by kernel_rfl,by kernel_rfl,by kernel_rfl⟩
structure Stp where
 kind:Int
 index:Int
 l:Sli
 p:Int
 q:Int
 v:Int
abbrev Stp.cells (x:Stp):List Value:=[.int .i64 x.kind,.int .i64 x.index,x.l.v,.int .i64 x.p,.int .i64 x.q,.int .i64 x.v]
theorem c72 {σ:PH} {T:Nat→Tag} {s:Nat} {g:Low} (h:Sol σ T s g) (x:Stp) (h4:(g.F 4).n≤3500000000000) :
   C 72 #[.pointer (some ⟨s,0,none⟩),.agg #[.int .i64 x.kind,.int .i64 x.index,.slice x.l.a x.l.n x.l.c,.int .i64 x.p,.int .i64 x.q,.int .i64 x.v]] (fun v τ => v=.int .i64 (g.F 4).n∧∃ T' sl,Did σ T τ T'∧sl.n=(g.F 4).n + 1 ∧
     Sol τ T' s (g.setF 4 sl (g.V 4 ++ x.cells))) σ:=by
 refine go (E72_0 _ _ _ _ _ _ _ _ _ _ _ _) ?_
 unfold S72_0
 intro b1 hb1
 obtain ⟨T1,H1,D1,_⟩:=h.fresh hb1 (.cells x.cells.toArray 95)
 have B:Blk (σ.set b1 (.cells x.cells.toArray 95)) b1 95 x.cells:=by unfold Blk PH.set; rw [if_pos rfl]
 refine ⟨_,rfl,_,H1.field (k:=4) rfl,_,_,_,rfl,_,B.get (i:=0) rfl,_,B.get (i:=1) rfl,_,B.get (i:=2) rfl,_,B.get (i:=3) rfl,_,B.get (i:=4) rfl,_,B.get (i:=5) rfl,_,_,_,_,_,_,_,_,rfl,?_⟩
 intro b2 hb2
 obtain ⟨T2,H2,D2,_⟩:=H1.fresh hb2 (.cells x.cells.toArray 95)
 have B2:((σ.set b1 (.cells x.cells.toArray 95)).set b2 (.cells x.cells.toArray 95)) b2=some (.cells x.cells.toArray 95):=by
   conv => lhs; unfold PH.set
   rw [if_pos rfl]
 refine H2.appendF (k:=4) rfl (by decide) t95.1 t95.2.1 t95.2.2 rfl (by decide) (news:=x.cells) ?_ rfl ?_ ?_ ?_
 · exact rowAt_of (b:=b2) (arr:=x.cells.toArray) (e:=95) (f:=(0,0)) B2 _ 0 0 (fun j v hv => by simpa using hv)
 · intro v hv; simp at hv; rcases hv with rfl | rfl | rfl | rfl | rfl | rfl <;> trivial
 · omega
 · rintro a' c' τ q1 q2 ⟨T5,H5,D5⟩
   refine ⟨_,_,_,rfl,_,rfl,q1,q2,_,rfl,_,H5.field (k:=4) rfl,_,_,_,rfl,?_,T5,_,D1.trans (D2.trans D5),rfl,H5⟩
   show Value.int .i64 (IntKind.wrap .i64 ((((g.F 4).n + 1:Nat):Int) - 1))=_
   rw [w64 (by omega) (by omega)]
   congr 1
   omega
end Go.Proofs.Ythfnjogadngfiaa
namespace Go.Sl
def LKeys (k:IntKind) (l:List MapEntry):Prop:=∀ e ∈ l,∃ n,e.key=.int k n
theorem mIdx_shift {n:Int}:∀ (l:List MapEntry) (i:Nat),mIdx n l i=(mIdx n l 0).map fun x => (x.1 + i,x.2)
 | [],i => rfl
 | e :: l,i => by
   unfold mIdx
   cases e.key <;> try rfl
   dsimp only
   split
   · simp
   · rw [mIdx_shift l (i + 1),mIdx_shift l 1,Option.map_map]
     congr 1
     funext x
     simp
     omega
def lput (k:IntKind) (n:Int) (v:Value) (clock:Nat):List MapEntry→List MapEntry
 | [] => [{ key:=.int k n,val:=v,born:=clock }]
 | e :: l => match e.key with
   | .int _ m => (match n == m with | true => { e with key:=.int k n,val:=v } :: l | false => e :: lput k n v clock l)
   | _ => e :: lput k n v clock l
theorem lput_find {k:IntKind} {n:Int} {v:Value} {clock:Nat}:∀ {l:List MapEntry},LKeys k l→∀ m,(mIdx m (lput k n v clock l) 0).map (·.2)=if m=n then some v else (mIdx m l 0).map (·.2)
 | [],_,m => by
   simp only [lput,mIdx]
   by_cases e:m=n
   · simp [e]
   · have:(m == n)=false:=by simpa using e
     simp [this,e]
 | e :: l,hk,m => by
   obtain ⟨q,hq⟩:=hk e List.mem_cons_self
   have ih:=lput_find (v:=v) (n:=n) (clock:=clock) (l:=l) (fun e he => hk e (List.mem_cons_of_mem _ he)) m
   have sh:∀ l':List MapEntry,(mIdx m l' 1).map (·.2)=(mIdx m l' 0).map (·.2):=by
     intro l'; rw [mIdx_shift l' 1,Option.map_map]; rfl
   unfold lput
   simp only [hq]
   split
   · rename_i h1
     have h1:n=q:=by simpa using h1
     subst h1
     simp only [mIdx,hq]
     by_cases e1:m=n
     · simp [e1]
     · have:(m == n)=false:=by simpa using e1
       simp [this,e1]
   · rename_i h1
     have h1:n ≠ q:=by simpa using h1
     simp only [mIdx,hq]
     by_cases e1:m=q
     · subst e1; simp [Ne.symm h1]
     · have:(m == q)=false:=by simpa using e1
       simp only [this]
       rw [sh,sh,ih]
theorem lput_keys {k:IntKind} {n:Int} {v:Value} {clock:Nat}:∀ {l:List MapEntry},LKeys k l→LKeys k (lput k n v clock l)
 | [],_ => by intro e he; simp [lput] at he; subst he; exact ⟨n,rfl⟩
 | e :: l,hk => by
   obtain ⟨q,hq⟩:=hk e List.mem_cons_self
   have ih:=lput_keys (v:=v) (n:=n) (clock:=clock) (l:=l) (fun e he => hk e (List.mem_cons_of_mem _ he))
   unfold lput
   simp only [hq]
   split
   · intro x hx
     rcases List.mem_cons.1 hx with rfl | hx
     · exact ⟨n,rfl⟩
     · exact hk x (List.mem_cons_of_mem _ hx)
   · intro x hx
     rcases List.mem_cons.1 hx with rfl | hx
     · exact ⟨q,hq⟩
     · exact ih x hx
theorem lput_idx {k:IntKind} {n:Int} {v:Value} {clock:Nat}:∀ {l:List MapEntry},LKeys k l→lput k n v clock l=(match mIdx n l 0 with
   | some (i,_) => l.modify i fun e => { e with key:=.int k n,val:=v }
   | none => l ++ [{ key:=.int k n,val:=v,born:=clock }])
 | [],_ => rfl
 | e :: l,hk => by
   obtain ⟨q,hq⟩:=hk e List.mem_cons_self
   have ih:=lput_idx (v:=v) (n:=n) (clock:=clock) (l:=l) (fun e he => hk e (List.mem_cons_of_mem _ he))
   unfold lput mIdx
   simp only [hq]
   cases h1:n == q with
   | true => simp
   | false =>
     dsimp only
     rw [mIdx_shift l 1,ih]
     cases mIdx n l 0 with
     | none => rfl
     | some x => obtain ⟨i,u⟩:=x; simp
theorem mput_eq {k:IntKind} {n:Int} {v:Value} {es:Array MapEntry} {clock:Nat} (hk:IntKeys k es):∃ es' clock',mput es clock k n v=.map es' clock'∧IntKeys k es'∧(∀ m,mfind m es'=if m=n then some v else mfind m es):=by
 have h:=lput_idx (v:=v) (n:=n) (clock:=clock) (l:=es.toList) hk
 have hf:=lput_find (v:=v) (n:=n) (clock:=clock) (l:=es.toList) hk
 have hk':=lput_keys (v:=v) (n:=n) (clock:=clock) (l:=es.toList) hk
 unfold mput
 cases hm:mIdx n es.toList 0 with
 | none =>
   rw [hm] at h
   dsimp only at h
   refine ⟨_,_,rfl,?_,?_⟩
   · unfold IntKeys; rw [Array.toList_push,← h]; exact hk'
   · intro m; unfold mfind; rw [Array.toList_push,← h]; exact hf m
 | some x =>
   obtain ⟨i,u⟩:=x
   rw [hm] at h
   dsimp only at h
   refine ⟨_,_,rfl,?_,?_⟩
   · unfold IntKeys; rw [Array.toList_modify,← h]; exact hk'
   · intro m; unfold mfind; rw [Array.toList_modify,← h]; exact hf m
end Go.Sl
namespace Go.Proofs.Ythfnjogadngfiaa
open Go.Sl Go.Sv
theorem set_step {σ:PH} {c:Nat} {o:Obj}:Step (fun b => b=c) σ (σ.set c o) :=
 ⟨fun b o' hb hm => by unfold PH.set; rw [if_neg hm]; exact hb,fun b hb => by unfold PH.set; split <;> simp_all⟩
theorem Sol.setMap {σ:PH} {T:Nat→Tag} {s:Nat} {g:Low} (h:Sol σ T s g) {es':Array MapEntry} {ck':Nat} (hk:IntKeys .i64 es') :
   Sol (σ.set g.inp (.map es' ck')) T s { g with es:=es',clock:=ck' }∧Did σ T (σ.set g.inp (.map es' ck')) T:=by
 have hst:Step (fun b => b=g.inp) σ (σ.set g.inp (.map es' ck')):=set_step
 have ne:∀ b t,T b=t→t ≠ .fld 5→¬ b=g.inp:=by
   rintro b t h1 h2 rfl
   exact h2 (h1.symm.trans h.mtag)
 refine ⟨⟨h.ff,h.blk.keep hst (ne s _ h.tag (by simp)),h.tag,fun j e size hj => (h.fld j e size hj).keep hst fun b hb => ne b _ hb ?_,by unfold PH.set; rw [if_pos rfl],h.mtag,hk,h.wv,fun j sl l hj => (h.wat j sl l hj).keep hst fun b hb => ne b _ hb (by simp),
   fun r x hr => (h.rblk r x hr).keep hst (ne r _ (h.rtag r x hr) (by simp)),h.rtag,fun r x hr => (h.rl r x hr).keep hst fun b hb => ne b _ hb (by simp),fun r x hr => (h.rc r x hr).keep hst fun b hb => ne b _ hb (by simp)⟩,hst.weaken ?_,fun _ _ => rfl⟩
 · rintro e1
   cases e1
   cases hj
 · rintro b rfl
   rw [h.mtag]; simp
theorem cellsOf_5 {g:Low} (hff:g.ff.length=4):(cellsOf g)[5]?=some (.map (some g.inp)):=by
 obtain ⟨ff,F,V,inp,es,clock,head,bump,empty,W,R⟩:=g
 match ff,hff with
 | [a,b,c,d],_ => rfl
theorem Sol.field5 {σ:PH} {T:Nat→Tag} {s:Nat} {g:Low} (h:Sol σ T s g):σ.cell? ((Addr.mk s 0 none).add 5)=some (.map (some g.inp)):=h.blk.get (cellsOf_5 h.ff)
theorem c51 {σ:PH} {T:Nat→Tag} {s:Nat} {g:Low} (h:Sol σ T s g) (i:Int) (hn:mfind i g.es=none) (h4:(g.F 4).n≤3500000000000) :
   C 51 #[.pointer (some ⟨s,0,none⟩),.int .i64 i] (fun v τ => v=.int .i64 (g.F 4).n∧∃ T' sl es' ck',Did σ T τ T'∧sl.n=(g.F 4).n + 1∧IntKeys .i64 es'∧(∀ m,mfind m es'=if m=i then some (.int .i64 (g.F 4).n) else mfind m g.es) ∧
     Sol τ T' s { g.setF 4 sl (g.V 4 ++ (Stp.mk 1 i ⟨none,0,0⟩ 0 0 0).cells) with es:=es',clock:=ck' }) σ:=by
 refine go (E51_0 _ _ _ _ _) ?_
 unfold S51_0
 refine ⟨_,rfl,_,h.field5,_,rfl,_,rfl,_,_,h.map,h.keys,0,by rw [hn]; rfl,br_true (by rw [hn]; rfl) ?_⟩
 refine ⟨_,rfl,_,h.field5,_,rfl,?_⟩
 refine (c72 h ⟨1,i,⟨none,0,0⟩,0,0,0⟩ h4).mono hb ?_
 rintro _ τ ⟨rfl,T',sl,D,hsl,H⟩
 obtain ⟨es',ck',e1,e2,e3⟩:=mput_eq (k:=.i64) (n:=i) (v:=.int .i64 (g.F 4).n) (clock:=g.clock) h.keys
 obtain ⟨H2,D2⟩:=H.setMap (ck':=ck') e2
 refine ⟨τ,PH.sub.refl _,?_,_,rfl,g.inp,rfl,g.es,g.clock,H.map,h.keys,?_⟩
 · have q1:=H.field5
   have q2:=h.field5
   rw [add_off] at q1 q2 ⊢
   exact q1.trans q2.symm
 · rw [e1]
   refine ⟨_,rfl,_,H2.field5,_,rfl,g.inp,rfl,es',ck',?_,e2,(g.F 4).n,?_,rfl,T',sl,es',ck',D.trans D2,hsl,e2,e3,H2⟩
   · unfold PH.set; rw [if_pos rfl]
   · rw [e3]; simp
def Low.setW (g:Low) (j:Nat) (sl:Sli) (l:List Int):Low:={ g with W:=g.W.set j (sl,l),V:=fun k => if k=7 then (g.V 7).set j sl.v else g.V k }
theorem Sol.appendW {σ:PH} {T:Nat→Tag} {s:Nat} {g:Low} (h:Sol σ T s g) {j:Nat} {sl:Sli} {l:List Int} (hj:g.W[j]?=some (sl,l)) {xb:Option Addr} {m mc:Nat} {news:List Int}
   (hr:readsRow σ xb (ints news)) (hl:news.length=m) (hbig:sl.n + m≤10000000000000) {p:Addr} (hp7:(g.F 7).a=some p) {Q:Value→PH→Prop}
   (hQ:∀ a' c' τ,(∃ u,τ.cell? (p.add j)=some u)→τ.froz (p.add j)=some false →
     (∃ T',Sol (τ.setCell (p.add j) (.slice a' (sl.n + m) c')) T' s (g.setW j ⟨a',sl.n + m,c'⟩ (l ++ news))∧Did σ T (τ.setCell (p.add j) (.slice a' (sl.n + m) c')) T')→Q (.slice a' (sl.n + m) c') τ) :
   iappend prog 3 (.slice sl.a sl.n sl.c) (.slice xb m mc) Q σ:=by
 have hO:=h.wat j sl l hj
 refine Own.append t3.1 t3.2.1 t3.2.2 rfl (by decide) hO.1 hr (by simp [ints,hl]) (by intro v hv; obtain ⟨y,_,rfl⟩:=List.mem_map.1 hv; trivial) (by omega) fun a' c' τ hO' hst hnew => ?_
 have hst':Step (fun b => T b=.watch j) σ τ:=hst.weaken fun b ⟨p,h1,h2⟩ => h2 ▸ hO.2 p h1
 have hO7:=h.fld 7 33 1 rfl
 have hjl:j < (g.V 7).length:=by
   rw [h.wv,List.length_map]
   exact (List.getElem?_eq_some_iff.1 hj).1
 have hO7':OwnT τ T (.fld 7) 33 1 (g.F 7) (g.V 7):=hO7.keep hst' fun b hb => by rw [hb]; simp
 obtain ⟨p',hp',hu,hf,hpb,hset⟩:=hO7'.1.set hjl
 obtain rfl:p=p':=Option.some.inj (hp7.symm.trans hp')
 refine hQ a' c' τ hu hf ?_
 obtain ⟨T',hT,hTn⟩:∃ T':Nat→Tag,(∀ b,σ b ≠ none→T' b=T b)∧∀ p,a'=some p→T' p.block=.watch j:=by
   refine ⟨tagAt T a' (.watch j),fun b hbn => tagAt_other fun p hp' e1 => ?_,fun p hp' => by rw [hp']; exact tagAt_self⟩
   subst e1
   rcases hnew with h1 | ⟨b',h1,h2⟩
   · exact hO.2 p (h1 ▸ hp')
   · rw [hp'] at h2
     cases h2
     exact absurd h1 hbn
 have hR:=h.retag hT
 have ht7:T' p.block=.fld 7:=(hT _ (hO7.1.known hp7)).trans (hO7.2 p hp7)
 have hs1:Step (fun b => T' b=.watch j) σ τ:=⟨fun b o hb' hm => hst'.same b o hb' (by rw [← hT b (by rw [hb']; simp)]; exact hm),hst'.dom⟩
 have hs2:Step (fun b => b=p.block) τ (τ.setCell (p.add j) (.slice a' (sl.n + m) c')):=setCell_step.weaken fun b hb' => hb'.trans hpb
 have hall:Step (fun b => T' b=.watch j ∨ b=p.block) σ (τ.setCell (p.add j) (.slice a' (sl.n + m) c')):=(hs1.weaken fun b h => .inl h).trans (hs2.weaken fun b h => .inr h)
 have ne:∀ b t,T' b=t→t ≠ .watch j→t ≠ .fld 7→¬ (T' b=.watch j ∨ b=p.block):=by
   rintro b t h1 h2 h3 (h4 | rfl)
   · exact h2 (h1.symm.trans h4)
   · exact h3 (h1.symm.trans ht7)
 refine ⟨T',⟨h.ff,h.blk.keep hall (ne s _ hR.tag (by simp) (by simp)),hR.tag,fun k e size hk => ?_,hall.same _ _ h.map (ne _ _ hR.mtag (by simp) (by simp)),hR.mtag,h.keys,?_,fun i sl' l' hi => ?_,
   fun r x hr => (h.rblk r x hr).keep hall (ne r _ (hR.rtag r x hr) (by simp) (by simp)),hR.rtag,fun r x hr => (hR.rl r x hr).keep hall fun b hb => ne b _ hb (by simp) (by simp),fun r x hr => (hR.rc r x hr).keep hall fun b hb => ne b _ hb (by simp) (by simp)⟩,?_,hT⟩
 · by_cases e1:k=7
   · subst e1
     cases hk
     refine ⟨?_,fun q hq => ?_⟩
     · show Own _ 33 1 (g.F 7).a (g.F 7).n (g.F 7).c (if 7=7 then (g.V 7).set j _ else g.V 7)
       rw [if_pos rfl]
       exact hset _
     · exact (hT _ (hO7.1.known hq)).trans (hO7.2 q hq)
   · have:=(hR.fld k e size hk).keep hall fun b hb => ne b _ hb (by simp) (by simpa using e1)
     show OwnT _ _ _ _ _ (g.F k) (if k=7 then (g.V 7).set j _ else g.V k)
     rw [if_neg e1]
     exact this
 · show (if 7=7 then (g.V 7).set j _ else g.V 7)=(g.W.set j _).map _
   rw [if_pos rfl,h.wv,List.map_set]
 · replace hi:(g.W.set j (⟨a',sl.n + m,c'⟩,l ++ news))[i]?=some (sl',l'):=hi
   rw [List.getElem?_set] at hi
   split at hi
   · rename_i e1
     subst e1
     split at hi
     · cases hi
       refine ⟨?_,hTn⟩
       rw [show ints (l ++ news)=ints l ++ ints news from List.map_append]
       refine hO'.keep hs2 fun q hq => ?_
       intro e2
       have:=hTn q hq
       rw [e2,ht7] at this
       cases this
     · cases hi
   · rename_i e1
     exact (hR.wat i sl' l' hi).keep hall fun b hb => ne b _ hb (by simpa using Ne.symm e1) (by simp)
 · refine ⟨fun b o hb' hm => hall.same b o hb' ?_,hall.dom⟩
   rintro (h1 | rfl)
   · rw [hT b (by rw [hb']; simp)] at h1
     rw [h1] at hm; exact hm (by simp)
   · rw [hO7.2 p hp7] at hm; exact hm (by simp)
theorem t84:sizeT prog 84=some 1∧bytesT prog 84=some 8∧zeroT prog 84=some (.pointer none):=⟨by kernel_rfl,by kernel_rfl,by kernel_rfl⟩
theorem quiet73 {i:Int} (h:Lit i) (σ:PH):quiet C 73 #[.int .i64 i] (.int .i64 (idx i)) [] σ :=
 ⟨fun _ h => (by cases h),(c73 h _).mono hb fun v τ ⟨h1,h2⟩ => ⟨h1,h2 ▸ PH.sub.refl _⟩⟩
structure Same7 (g g':Low):Prop where
 ff:g'.ff=g.ff
 F:g'.F=g.F
 V:∀ k,k ≠ 7→g'.V k=g.V k
 inp:g'.inp=g.inp
 es:g'.es=g.es
 clock:g'.clock=g.clock
 head:g'.head=g.head
 bump:g'.bump=g.bump
 empty:g'.empty=g.empty
 R:g'.R=g.R
theorem Same7.refl (g:Low):Same7 g g:=⟨rfl,rfl,fun _ _ => rfl,rfl,rfl,rfl,rfl,rfl,rfl,rfl⟩
theorem c52 {σ:PH} {T:Nat→Tag} {s:Nat} {g:Low} (h:Sol σ T s g) {r:Nat} {x:RL} (hx:g.R r=some x) (h2:2≤x.lits.length) (hl:∀ l ∈ x.lits,Lit l∧l ≠ 0∧(idx l).toNat < g.W.length)
   (hn:(g.F 6).n≤5000000000000) (hw:∀ e ∈ g.W,e.2.length≤5000000000000) :
   C 52 #[.pointer (some ⟨s,0,none⟩),.pointer (some ⟨r,0,none⟩)] (fun v τ => v=.tuple #[]∧∃ T' g' sl,Did σ T τ T'∧sl.n=(g.F 6).n + 1∧Same7 (g.setF 6 sl (g.V 6 ++ [.pointer (some ⟨r,0,none⟩)])) g' ∧
     g'.W.map (·.2)=addW (g.W.map (·.2)) (x.lits.take 2) (g.F 6).n∧Sol τ T' s g') σ:=by
 refine go (E52_0 _ _ _ _ _) ?_
 unfold S52_0
 refine ⟨_,rfl,_,h.field (k:=6) rfl,_,_,_,rfl,fun b hbn => ?_⟩
 obtain ⟨T1,H1,D1,_⟩:=h.fresh hbn (.cells #[.pointer (some ⟨r,0,none⟩)] 84)
 refine H1.appendF (k:=6) rfl (by decide) t84.1 t84.2.1 t84.2.2 rfl (by decide) (news:=[.pointer (some ⟨r,0,none⟩)]) ?_ rfl ?_ ?_ ?_
 · exact rowAt_of (b:=b) (arr:=#[.pointer (some ⟨r,0,none⟩)]) (e:=84) (f:=(0,0)) (by unfold PH.set; rw [if_pos rfl]) _ 0 0 (fun j v hv => by simpa using hv)
 · intro v hv; simp at hv; subst hv; trivial
 · omega
 · rintro a' c' τ q1 q2 ⟨T2,H2,D2⟩
   have xr:=H2.rblk r x hx
   have xl:=(H2.rl r x hx).1
   have xn:x.l.n=x.lits.length:=by have:=xl.len; simp [ints] at this; omega
   have hcap:=xl.le
   have e0:(Addr.mk r 0 none).add 0=⟨r,0,none⟩:=rfl
   refine ⟨_,_,_,rfl,_,rfl,q1,q2,_,rfl,_,e0 ▸ xr.get (i:=0) rfl,_,_,_,rfl,by omega,by omega,?_⟩
   unfold S52_1
   refine iloopS_for (G:=(Nat→Tag) × Low) (fun k _ => (some (Addr.mk s 0 none),x.l.a,Int.toNat (2:Int),x.l.c,((Int.toNat (2:Int):Nat):Int),(k:Int)))
     (fun k tg υ => Did σ T υ tg.1∧Sol υ tg.1 s tg.2∧Same7 (g.setF 6 ⟨a',(g.F 6).n + 1,c'⟩ (g.V 6 ++ [.pointer (some ⟨r,0,none⟩)])) tg.2∧tg.2.W.map (·.2)=addW (g.W.map (·.2)) (x.lits.take k) (g.F 6).n∧(∀ e ∈ tg.2.W,e.2.length≤5000000000000 + k))
     2 ?_ (g:=(T2,g.setF 6 ⟨a',(g.F 6).n + 1,c'⟩ (g.V 6 ++ [.pointer (some ⟨r,0,none⟩)]))) ⟨D1.trans D2,H2,Same7.refl _,rfl,hw⟩
   rintro k ⟨T3,g3⟩ υ hk ⟨D3,H3,S3,W3,L3⟩ R hR
   simp only at D3 H3 S3 W3 L3
   unfold S52_2
   dsimp only
   simp only [Nat.mul_one]
   refine br_dec.2 ⟨fun hlt => ?_,fun hge => ?_⟩
   · have hk2:k < 2:=by omega
     have hx3:g3.R r=some x:=by rw [S3.R]; exact hx
     have x3:=(H3.rl r x hx3).1
     have hkl:k < x.lits.length:=by omega
     obtain ⟨p,hp,hc⟩:=x3.get (i:=k) (v:=.int .i64 x.lits[k]) (by simp [ints,hkl])
     obtain ⟨l1,l2,l3⟩:=hl x.lits[k] (List.getElem_mem _)
     have hi:0≤idx x.lits[k]:=by unfold Lit at l1; unfold idx; split <;> omega
     have hWl:g3.W.length=g.W.length:=by
       have:=congrArg List.length W3
       rw [List.length_map] at this
       rw [this]
       unfold addW
       clear W3 this hR hc
       generalize x.lits.take k=ls
       have:∀ (ls:List Int) (W:List (List Int)),(ls.foldl (fun W l => W.modify (idx l).toNat (· ++ [((g.F 6).n:Int)])) W).length=W.length:=by
         intro ls
         induction ls with
         | nil => intro W; rfl
         | cons a ls ih => intro W; rw [List.foldl_cons,ih,List.length_modify]
       rw [this,List.length_map]
     have hj:(idx x.lits[k]).toNat < g3.W.length:=by omega
     obtain ⟨q7,hq7,hc7⟩:=(H3.fld 7 33 1 rfl).1.get (i:=(idx x.lits[k]).toNat) (v:=(g3.W[(idx x.lits[k]).toNat]).1.v) (by rw [H3.wv]; simp [hj])
     have h7n:g3.W.length=(g3.F 7).n:=by have:=H3.len (k:=7) rfl; rw [H3.wv,List.length_map] at this; exact this
     refine ⟨p,hp,by omega,by rw [show Int.toNat (2:Int)=2 from rfl]; omega,_,hc,_,rfl,_,[],_,[],_,rfl,_,H3.field (k:=7) rfl,_,_,_,rfl,quiet73 l1 _,_,rfl,_,H3.field (k:=7) rfl,_,_,_,rfl,quiet73 l1 _,q7,hq7,hi,by omega,_,hc7,_,_,_,rfl,_,rfl,_,H3.field (k:=6) rfl,_,_,_,rfl,fun b hbn => ⟨?_,?_⟩⟩
     · intro q hq e1
       have t1:=(H3.wat (idx x.lits[k]).toNat _ _ (List.getElem?_eq_getElem hj)).2 q hq
       rw [e1,add_block] at t1
       have:=H3.tag
       rw [t1] at this
       cases this
     · have hF6:(g3.F 6).n=(g.F 6).n + 1:=by rw [S3.F]; rfl
       have hv:IntKind.wrap .i64 (((g3.F 6).n:Int) - 1)=((g.F 6).n:Int):=by rw [hF6,w64 (by omega) (by omega)]; omega
       rw [hv]
       obtain ⟨T4,H4,D4,_⟩:=H3.fresh hbn (.cells #[.int .i64 (g.F 6).n] 3)
       have hwl:=(H3.wat (idx x.lits[k]).toNat _ _ (List.getElem?_eq_getElem hj)).1.len
       have hwb:=L3 _ (List.getElem_mem hj)
       simp only [ints,List.length_map,Nat.mul_one] at hwl
       have hwl':(g3.W[(idx x.lits[k]).toNat]).1.n=(g3.W[(idx x.lits[k]).toNat]).2.length:=hwl.symm
       have hwb':(g3.W[(idx x.lits[k]).toNat]).2.length≤5000000000000 + k:=hwb
       refine H4.appendW (j:=(idx x.lits[k]).toNat) (sl:=g3.W[(idx x.lits[k]).toNat].1) (l:=g3.W[(idx x.lits[k]).toNat].2) (List.getElem?_eq_getElem hj) (m:=1) (news:=[((g.F 6).n:Int)]) ?_ rfl (by omega) hq7 ?_
       · exact rowAt_of (b:=b) (arr:=#[.int .i64 (g.F 6).n]) (e:=3) (f:=(0,0)) (by unfold PH.set; rw [if_pos rfl]) _ 0 0 (fun j v hv => by simpa [ints] using hv)
       · rintro a'' c'' υ' q1 q2 ⟨T5,H5,D5⟩
         refine ⟨_,_,_,rfl,q7,hq7,hi,by omega,q1,q2,?_⟩
         rw [wnat (by omega)]
         refine hR (T5,g3.setW (idx x.lits[k]).toNat ⟨a'',_,c''⟩ (g3.W[(idx x.lits[k]).toNat].2 ++ [((g.F 6).n:Int)])) _ hk2 ⟨D3.trans (D4.trans D5),H5,?_,?_,?_⟩
         · exact ⟨S3.ff,S3.F,fun k' hk' => (if_neg hk').trans (S3.V k' hk'),S3.inp,S3.es,S3.clock,S3.head,S3.bump,S3.empty,S3.R⟩
         · show (g3.W.set _ _).map (·.2)=_
           rw [List.take_succ_eq_append_getElem hkl]
           unfold addW at W3 ⊢
           rw [List.foldl_append,← W3,List.map_set]
           simp only [List.foldl_cons,List.foldl_nil]
           rw [List.modify_eq_set]
           simp [hj]
         · intro e he
           have he:e ∈ g3.W.set _ _:=he
           rcases List.mem_or_eq_of_mem_set he with he | rfl
           · have:=L3 e he; omega
           · simp only [List.length_append,List.length_cons,List.length_nil]; omega
   · have:k=2:=by rw [show Int.toNat (2:Int)=2 from rfl] at hge; omega
     subst this
     exact ⟨trivial,T3,g3,_,D3,rfl,S3,W3,H3⟩
theorem _root_.Go.Sl.Own.cut {σ:PH} {e:TypeId} {a:Option Addr} {n c:Nat} {vs:List Value} (o:Own σ e 1 a n c vs) {m:Nat} (hm:m≤n):Own σ e 1 a m c (vs.take m):=by
 have h1:=o.len
 have h2:=o.le
 refine ⟨by rw [List.length_take]; omega,by omega,?_⟩
 rcases o.row with h' | ⟨b,arr,rfl,hb,h3,h4⟩
 · exact .inl h'
 · refine .inr ⟨b,arr,rfl,hb,h3,?_⟩
   rw [← h4,List.take_take]
   congr 1
   omega
theorem Sol.putF {σ:PH} {T:Nat→Tag} {s:Nat} {g:Low} (h:Sol σ T s g) {k e size:Nat} (hk:fty k=some (e,size)) (h7:k ≠ 7) {sl:Sli} {vs:List Value} (ho:OwnT σ T (.fld k) e size sl vs) :
   Sol (σ.setCell ((Addr.mk s 0 none).add k) sl.v) T s (g.setF k sl vs)∧Did σ T (σ.setCell ((Addr.mk s 0 none).add k) sl.v) T:=by
 have hsb:((Addr.mk s 0 none).add k).block=s:=add_block _ _
 have k0:k ≠ 0:=by rintro rfl; cases hk
 have hst:Step (fun b => b=s) σ (σ.setCell ((Addr.mk s 0 none).add k) sl.v):=setCell_step.weaken fun b hb' => hb'.trans hsb
 have ne:∀ b t,T b=t→t ≠ .fld 0→¬ b=s:=by
   rintro b t h1 h2 rfl
   exact h2 (h1.symm.trans h.tag)
 refine ⟨⟨h.ff,?_,h.tag,fun j e' size' hj => ?_,hst.same _ _ h.map (ne _ _ h.mtag (by simp)),h.mtag,h.keys,?_,fun j sl l hj => (h.wat j sl l hj).keep hst fun b hb => ne b _ hb (by simp),
   fun r x hr => (h.rblk r x hr).keep hst (ne r _ (h.rtag r x hr) (by simp)),h.rtag,fun r x hr => (h.rl r x hr).keep hst fun b hb => ne b _ hb (by simp),fun r x hr => (h.rc r x hr).keep hst fun b hb => ne b _ hb (by simp)⟩,hst.weaken ?_,fun _ _ => rfl⟩
 · rw [cellsOf_setF h.ff hk]
   exact h.blk.set k _
 · have j0:j ≠ 0:=by rintro rfl; cases hj
   by_cases e1:j=k
   · subst e1
     rw [hk] at hj
     cases hj
     show OwnT _ _ _ _ _ (if j=j then _ else _) (if j=j then _ else _)
     rw [if_pos rfl,if_pos rfl]
     exact ho.keep hst fun b hb => ne b _ hb (by simpa using j0)
   · show OwnT _ _ _ _ _ (if j=k then _ else g.F j) (if j=k then _ else g.V j)
     rw [if_neg e1,if_neg e1]
     exact (h.fld j e' size' hj).keep hst fun b hb => ne b _ hb (by simpa using j0)
 · show (if 7=k then _ else g.V 7)=_
   rw [if_neg (Ne.symm h7)]
   exact h.wv
 · rintro b rfl
   rw [h.tag]; simp
theorem Sol.cutF {σ:PH} {T:Nat→Tag} {s:Nat} {g:Low} (h:Sol σ T s g) {k e:Nat} (hk:fty k=some (e,1)) (h7:k ≠ 7) {m:Nat} (hm:m≤(g.F k).n) :
   Sol (σ.setCell ((Addr.mk s 0 none).add k) (.slice (g.F k).a m (g.F k).c)) T s (g.setF k ⟨(g.F k).a,m,(g.F k).c⟩ ((g.V k).take m))∧Did σ T (σ.setCell ((Addr.mk s 0 none).add k) (.slice (g.F k).a m (g.F k).c)) T :=
 h.putF hk h7 (sl:=⟨(g.F k).a,m,(g.F k).c⟩) ⟨(h.fld k e 1 hk).1.cut hm,(h.fld k e 1 hk).2⟩
theorem cellsOf_head {g:Low} (hff:g.ff.length=4) (n:Int):cellsOf { g with head:=n }=(cellsOf g).set 13 (.int .i64 n):=by
 obtain ⟨ff,F,V,inp,es,clock,head,bump,empty,W,R⟩:=g
 match ff,hff with
 | [a,b,c,d],_ => rfl
theorem cellsOf_13 {g:Low} (hff:g.ff.length=4):(cellsOf g)[13]?=some (.int .i64 g.head):=by
 obtain ⟨ff,F,V,inp,es,clock,head,bump,empty,W,R⟩:=g
 match ff,hff with
 | [a,b,c,d],_ => rfl
theorem Sol.setHead {σ:PH} {T:Nat→Tag} {s:Nat} {g:Low} (h:Sol σ T s g) (n:Int) :
   Sol (σ.setCell ((Addr.mk s 0 none).add 13) (.int .i64 n)) T s { g with head:=n }∧Did σ T (σ.setCell ((Addr.mk s 0 none).add 13) (.int .i64 n)) T:=by
 have hsb:((Addr.mk s 0 none).add 13).block=s:=add_block _ _
 have hst:Step (fun b => b=s) σ (σ.setCell ((Addr.mk s 0 none).add 13) (.int .i64 n)):=setCell_step.weaken fun b hb' => hb'.trans hsb
 have ne:∀ b t,T b=t→t ≠ .fld 0→¬ b=s:=by
   rintro b t h1 h2 rfl
   exact h2 (h1.symm.trans h.tag)
 refine ⟨⟨h.ff,?_,h.tag,fun j e' size' hj => ?_,hst.same _ _ h.map (ne _ _ h.mtag (by simp)),h.mtag,h.keys,h.wv,fun j sl l hj => (h.wat j sl l hj).keep hst fun b hb => ne b _ hb (by simp),
   fun r x hr => (h.rblk r x hr).keep hst (ne r _ (h.rtag r x hr) (by simp)),h.rtag,fun r x hr => (h.rl r x hr).keep hst fun b hb => ne b _ hb (by simp),fun r x hr => (h.rc r x hr).keep hst fun b hb => ne b _ hb (by simp)⟩,hst.weaken ?_,fun _ _ => rfl⟩
 · rw [cellsOf_head h.ff]
   exact h.blk.set 13 _
 · have j0:j ≠ 0:=by rintro rfl; cases hj
   exact (h.fld j e' size' hj).keep hst fun b hb => ne b _ hb (by simpa using j0)
 · rintro b rfl
   rw [h.tag]; simp
theorem quiet74 {i:Int} (h:Lit i) (h0:i ≠ 0) (σ:PH):quiet C 74 #[.int .i64 i] (.int .i64 (idx i / 2)) [] σ :=
 ⟨fun _ h => (by cases h),(c74 h h0 _).mono hb fun v τ ⟨h1,h2⟩ => ⟨h1,h2 ▸ PH.sub.refl _⟩⟩
theorem _root_.Go.Sl.cut_get {σ:PH} {e:TypeId} {a:Option Addr} {n c:Nat} {vs:List Value} (o:Own σ e 1 a n c vs) {m i:Nat} {v:Value} (hm:m≤n) (hv:vs[m + i]?=some v) :
   ∃ p,cutAt a c m 1=some p∧σ.cell? (p.add i)=some v:=by
 obtain ⟨p,hp,hc⟩:=o.get hv
 have hlt:m + i < vs.length:=by
   rcases Nat.lt_or_ge (m + i) vs.length with h | h
   · exact h
   · rw [List.getElem?_eq_none h] at hv; cases hv
 have h1:=o.len
 have h2:=o.le
 unfold cutAt
 rw [if_neg (by omega),hp,Nat.mul_one]
 refine ⟨_,rfl,?_⟩
 rcases o.row with ⟨h3,_⟩ | ⟨b,arr,h3,_⟩
 · rw [h3] at hp; cases hp
 · rw [h3] at hp
   cases hp
   rw [add_off] at hc
   dsimp only
   rw [add_off,add_off]
   rw [← hc]
   congr 2
   omega
def clr (d:Value) (ls:List Int) (V:List Value):List Value:=ls.foldl (fun V x => V.set (idx x / 2).toNat d) V
theorem clr_len (d:Value):∀ (ls:List Int) (V:List Value),(clr d ls V).length=V.length
 | [],_ => rfl
 | x :: ls,V => by unfold clr; rw [List.foldl_cons]; exact (clr_len d ls _).trans (List.length_set ..)
def undone (g:Low) (tr:List Int) (n0 lev:Nat):Low :=
 { (((g.setV 8 (clr (.int .i64 0) (tr.drop n0) (g.V 8))).setV 10 (clr (.pointer none) (tr.drop n0) (g.V 10))).setF 11 ⟨(g.F 11).a,n0,(g.F 11).c⟩ ((g.V 11).take n0)).setF 12 ⟨(g.F 12).a,lev,(g.F 12).c⟩ ((g.V 12).take lev) with head:=n0 }
theorem c91 {σ:PH} {T:Nat→Tag} {s:Nat} {g:Low} (h:Sol σ T s g) {tr:List Int} (ht:g.V 11=ints tr) (hl:∀ x ∈ tr,Lit x∧x ≠ 0∧(idx x / 2).toNat < (g.V 8).length∧(idx x / 2).toNat < (g.V 10).length)
   {lev n0:Nat} (hlev:lev < (g.F 12).n) (hlim:(g.V 12)[lev]?=some (.int .i64 n0)) (hn0:n0≤tr.length) (hn:(g.F 11).n≤1000000) :
   C 91 #[.pointer (some ⟨s,0,none⟩),.int .i64 lev] (fun v τ => v=.tuple #[]∧Did σ T τ T∧Sol τ T s (undone g tr n0 lev)) σ:=by
 refine go (E91_0 _ _ _ _ _) ?_
 unfold S91_0
 have hO:=(h.fld 11 3 1 rfl).1
 have l11:=h.len (k:=11) rfl
 rw [ht] at l11
 simp only [ints,List.length_map] at l11
 refine ⟨_,rfl,_,h.field (k:=12) rfl,_,_,_,rfl,br_dec.2 ⟨fun hc => by omega,fun hc => ?_⟩⟩
 obtain ⟨p,hp,hcell⟩:=(h.fld 12 3 1 rfl).1.get hlim
 refine ⟨_,rfl,_,h.field (k:=11) rfl,_,_,_,rfl,_,rfl,_,h.field (k:=12) rfl,_,_,_,rfl,p,hp,by omega,by omega,_,by simpa using hcell,_,rfl,by omega,by omega,?_⟩
 unfold S91_1
 have htr:(g.F 11).n - n0=(tr.drop n0).length:=by rw [List.length_drop]; omega
 refine iloopS_for (G:=Low) (fun k _ => (some (Addr.mk s 0 none),(lev:Int),cutAt (g.F 11).a (g.F 11).c (Int.toNat (n0:Int)) 1,(g.F 11).n - Int.toNat (n0:Int),(g.F 11).c - Int.toNat (n0:Int),(((g.F 11).n - Int.toNat (n0:Int):Nat):Int),(k:Int)))
   (fun k g' υ => Did σ T υ T∧Sol υ T s g'∧g'=(g.setV 8 (clr (.int .i64 0) ((tr.drop n0).take k) (g.V 8))).setV 10 (clr (.pointer none) ((tr.drop n0).take k) (g.V 10))) (tr.drop n0).length ?_ (g:=g) ⟨Did.refl _ _,h,?_⟩
 · rintro k g' υ hk ⟨D,H,rfl⟩ R hR
   unfold S91_2
   dsimp only
   simp only [Nat.mul_one,Int.toNat_natCast] at *
   refine br_dec.2 ⟨fun hlt => ?_,fun hge => ?_⟩
   · have hkl:k < (tr.drop n0).length:=by omega
     have hget:(ints tr)[n0 + k]?=some (.int .i64 (tr.drop n0)[k]):=by simp [ints]
     have hO3:=(H.fld 11 3 1 rfl).1
     obtain ⟨q,hq,hqc⟩:=Go.Sl.cut_get (o:=hO3) (m:=n0) (i:=k) (v:=.int .i64 (tr.drop n0)[k]) (by show n0≤(g.F 11).n; omega) (by show (g.V 11)[n0 + k]?=_; rw [ht]; exact hget)
     have hmem:(tr.drop n0)[k] ∈ tr:=List.mem_of_mem_drop (List.getElem_mem _)
     obtain ⟨x1,x2,x3,x4⟩:=hl _ hmem
     have hi:0≤idx (tr.drop n0)[k] / 2:=by unfold Lit at x1; unfold idx; split <;> omega
     have k8:(((g.setV 8 (clr (.int .i64 0) ((tr.drop n0).take k) (g.V 8))).setV 10 (clr (.pointer none) ((tr.drop n0).take k) (g.V 10))).V 8)=clr (.int .i64 0) ((tr.drop n0).take k) (g.V 8):=rfl
     have k10:(((g.setV 8 (clr (.int .i64 0) ((tr.drop n0).take k) (g.V 8))).setV 10 (clr (.pointer none) ((tr.drop n0).take k) (g.V 10))).V 10)=clr (.pointer none) ((tr.drop n0).take k) (g.V 10):=rfl
     obtain ⟨p8,hp8,u8,f8,s8⟩:=H.setAt (k:=8) rfl (by decide) (i:=(idx (tr.drop n0)[k] / 2).toNat) (by rw [k8,clr_len]; exact x3)
     obtain ⟨H8,D8⟩:=s8 (.int .i64 0)
     obtain ⟨p10,hp10,u10,f10,s10⟩:=H8.setAt (k:=10) rfl (by decide) (i:=(idx (tr.drop n0)[k] / 2).toNat) (by show _ < (clr (.pointer none) ((tr.drop n0).take k) (g.V 10)).length; rw [clr_len]; exact x4)
     obtain ⟨H10,D10⟩:=s10 (.pointer none)
     have l8:=h.len (k:=8) rfl
     have l10:=h.len (k:=10) rfl
     refine ⟨q,hq,by omega,by omega,_,hqc,_,rfl,_,[],_,[],_,rfl,_,H.field (k:=8) rfl,_,_,_,rfl,quiet74 x1 x2 _,_,rfl,_,H.field (k:=10) rfl,_,_,_,rfl,quiet74 x1 x2 _,p8,hp8,hi,?_,u8,f8,p10,hp10,hi,?_,u10,f10,?_⟩
     · show _ < (((g.F 8).n:Nat):Int); omega
     · show _ < (((g.F 10).n:Nat):Int); omega
     · rw [wnat (by omega)]
       refine hR _ _ hkl ⟨D.trans (D8.trans D10),H10,?_⟩
       rw [List.take_succ_eq_append_getElem hkl]
       unfold Low.setV clr
       simp only [List.foldl_append,List.foldl_cons,List.foldl_nil]
       congr 1
       funext j
       by_cases h8:j=10
       · simp [h8]
       · by_cases h9:j=8 <;> simp [h8,h9]
   · have hkk:k=(tr.drop n0).length:=by omega
     subst hkk
     rw [List.take_length] at H
     obtain ⟨p2,hp2,hcell2⟩:=(H.fld 12 3 1 rfl).1.get (i:=lev) (v:=.int .i64 n0) hlim
     obtain ⟨H1,D1⟩:=H.cutF (k:=11) rfl (by decide) (m:=n0) (by show n0≤(g.F 11).n; omega)
     obtain ⟨H2,D2⟩:=H1.cutF (k:=12) rfl (by decide) (m:=lev) (by show lev≤(g.F 12).n; omega)
     obtain ⟨H3,D3⟩:=H2.setHead n0
     have hcap:(g.F 11).n≤(g.F 11).c:=hO.le
     have hcap2:(g.F 12).n≤(g.F 12).c:=(h.fld 12 3 1 rfl).1.le
     exact ⟨_,rfl,_,H.field (k:=11) rfl,_,_,_,rfl,_,rfl,_,H.field (k:=12) rfl,_,_,_,rfl,p2,hp2,by omega,by show (lev:Int) < (((g.F 12).n:Nat):Int); omega,_,hcell2,_,rfl,by omega,by show (n0:Int)≤(((g.F 11).c:Nat):Int); omega,_,rfl,⟨_,H.field (k:=11) rfl⟩,H.blk.froz 11,_,rfl,_,H1.field (k:=12) rfl,_,_,_,rfl,by omega,by show (lev:Int)≤(((g.F 12).c:Nat):Int); omega,
       _,rfl,⟨_,H1.field (k:=12) rfl⟩,H1.blk.froz 12,_,rfl,_,H2.field (k:=11) rfl,_,_,_,rfl,_,rfl,⟨_,H2.blk.get (cellsOf_13 H2.ff)⟩,H2.blk.froz 13,trivial,D.trans (D1.trans (D2.trans D3)),H3⟩
 · unfold Low.setV clr
   simp only [List.take_zero,List.foldl_nil]
   obtain ⟨ff,F,V,inp,es,clock,head,bump,empty,W,R⟩:=g
   congr 1
   funext j
   by_cases h8:j=10
   · simp [h8]
   · by_cases h9:j=8 <;> simp [h8,h9]
end Go.Proofs.Ythfnjogadngfiaa
namespace Go.Sl
structure MSet (es:Array MapEntry) (ck:Nat) (ks:List Int):Prop where
 keys:es.toList.map (·.key)=ks.map (.int .i64)
 vals:∀ e ∈ es.toList,e.val=.bool true
 born:∀ e ∈ es.toList,e.born < ck
 once:(es.toList.map (·.born)).Nodup
 nodup:ks.Nodup
theorem MSet.nil {ck:Nat}:MSet #[] ck []:=⟨rfl,by simp,by simp,by simp,by simp⟩
theorem MSet.ints {es:Array MapEntry} {ck:Nat} {ks:List Int} (h:MSet es ck ks):IntKeys .i64 es:=by
 intro e he
 have:e.key ∈ es.toList.map (·.key):=List.mem_map_of_mem he
 rw [h.keys,List.mem_map] at this
 obtain ⟨n,_,hn⟩:=this
 exact ⟨n,hn.symm⟩
theorem mIdx_of:∀ {l:List MapEntry} {ks:List Int} (n:Int) (i:Nat),l.map (·.key)=ks.map (Value.int .i64)→(mIdx n l i).map (·.1)=if n ∈ ks then some (i + ks.idxOf n) else none
 | [],[],n,i,_ => rfl
 | [],_ :: _,_,_,h => by cases h
 | _ :: _,[],_,_,h => by cases h
 | e :: l,k :: ks,n,i,h => by
   simp only [List.map_cons,List.cons.injEq] at h
   have ih:=mIdx_of n (i + 1) h.2
   unfold mIdx
   simp only [h.1]
   by_cases e1:n=k
   · subst e1
     simp
   · have:(n == k)=false:=by simpa using e1
     have h2:(k == n)=false:=by simpa using Ne.symm e1
     simp only [this,ih,List.mem_cons,e1,false_or]
     by_cases e2:n ∈ ks
     · rw [if_pos e2,if_pos e2,List.idxOf_cons,h2]; simp; omega
     · rw [if_neg e2,if_neg e2]
theorem mIdx_val:∀ {l:List MapEntry} {n:Int} {i j:Nat} {v:Value},mIdx n l i=some (j,v)→∃ e ∈ l,e.val=v
 | [],_,_,_,_,h => by cases h
 | e :: l,n,i,j,v,h => by
   unfold mIdx at h
   split at h
   · split at h
     · cases h; exact ⟨e,List.mem_cons_self,rfl⟩
     · obtain ⟨e',h1,h2⟩:=mIdx_val h
       exact ⟨e',List.mem_cons_of_mem _ h1,h2⟩
   · cases h
theorem MSet.find {es:Array MapEntry} {ck:Nat} {ks:List Int} (h:MSet es ck ks) (l:Int):mfind l es=if l ∈ ks then some (.bool true) else none:=by
 have h1:=mIdx_of l 0 h.keys
 unfold mfind
 cases hm:mIdx l es.toList 0 with
 | none =>
   rw [hm] at h1
   by_cases e:l ∈ ks
   · rw [if_pos e] at h1; cases h1
   · rw [if_neg e]; rfl
 | some x =>
   obtain ⟨j,v⟩:=x
   rw [hm] at h1
   by_cases e:l ∈ ks
   · rw [if_pos e]
     obtain ⟨e',q1,q2⟩:=mIdx_val hm
     have:=h.vals e' q1
     simp only [Option.map_some]
     rw [← q2,this]
   · rw [if_neg e] at h1; cases h1
theorem MSet.put {es:Array MapEntry} {ck:Nat} {ks:List Int} (h:MSet es ck ks) (l:Int):∃ es' ck',mput es ck .i64 l (.bool true)=.map es' ck'∧MSet es' ck' (if l ∈ ks then ks else ks ++ [l]):=by
 have h1:=mIdx_of l 0 h.keys
 unfold mput
 cases hm:mIdx l es.toList 0 with
 | none =>
   rw [hm] at h1
   by_cases e:l ∈ ks
   · rw [if_pos e] at h1; cases h1
   · rw [if_neg e]
     refine ⟨_,_,rfl,?_,?_,?_,?_,?_⟩
     · simp [h.keys]
     · intro x hx
       rw [Array.toList_push,List.mem_append,List.mem_singleton] at hx
       rcases hx with hx | rfl
       · exact h.vals x hx
       · rfl
     · intro x hx
       rw [Array.toList_push,List.mem_append,List.mem_singleton] at hx
       rcases hx with hx | rfl
       · have:=h.born x hx; omega
       · simp
     · rw [Array.toList_push,List.map_append,List.nodup_append]
       refine ⟨h.once,by simp,fun a ha b hb => ?_⟩
       rw [List.mem_map] at ha
       obtain ⟨x,hx,rfl⟩:=ha
       simp only [List.map_cons,List.map_nil,List.mem_singleton] at hb
       have:=h.born x hx
       omega
     · rw [List.nodup_append]
       refine ⟨h.nodup,by simp,fun a ha b hb => ?_⟩
       rw [List.mem_singleton] at hb
       subst hb
       rintro rfl
       exact e ha
 | some x =>
   obtain ⟨j,v⟩:=x
   rw [hm] at h1
   by_cases e:l ∈ ks
   · rw [if_pos e] at h1 ⊢
     simp only [Option.map_some,Option.some.injEq,Nat.zero_add] at h1
     subst h1
     have hlt:ks.idxOf l < ks.length:=List.idxOf_lt_length_of_mem e
     have hlen:es.toList.length=ks.length:=by have:=congrArg List.length h.keys; simpa using this
     refine ⟨_,_,rfl,?_,?_,?_,?_,h.nodup⟩
     · rw [Array.toList_modify,← h.keys]
       apply List.ext_getElem?
       intro i
       rw [List.getElem?_map,List.getElem?_modify,List.getElem?_map]
       by_cases hi:ks.idxOf l=i
       · subst hi
         have:=congrArg (·[ks.idxOf l]?) h.keys
         simp only [List.getElem?_map] at this
         rw [List.getElem?_eq_getElem hlt,List.getElem_idxOf hlt] at this
         rw [List.getElem?_eq_getElem (by omega)] at this ⊢
         simp only [Option.map_some,Option.some.injEq,if_true,Option.map_eq_map] at this ⊢
         exact this.symm
       · cases es.toList[i]? <;> simp [hi]
     · intro x hx
       rw [Array.toList_modify] at hx
       obtain ⟨i,hi⟩:=List.mem_iff_getElem?.1 hx
       rw [List.getElem?_modify] at hi
       cases hq:es.toList[i]? with
       | none => rw [hq] at hi; simp at hi
       | some y =>
         rw [hq] at hi
         simp only [Option.map_eq_map,Option.map_some,Option.some.injEq] at hi
         have:=h.vals y (List.mem_of_getElem? hq)
         split at hi
         · rw [← hi]
         · rw [← hi]; exact this
     · intro x hx
       rw [Array.toList_modify] at hx
       obtain ⟨i,hi⟩:=List.mem_iff_getElem?.1 hx
       rw [List.getElem?_modify] at hi
       cases hq:es.toList[i]? with
       | none => rw [hq] at hi; simp at hi
       | some y =>
         rw [hq] at hi
         simp only [Option.map_eq_map,Option.map_some,Option.some.injEq] at hi
         have:=h.born y (List.mem_of_getElem? hq)
         split at hi
         · rw [← hi]; exact this
         · rw [← hi]; exact this
     · have:(es.modify (ks.idxOf l) fun e => { e with key:=.int .i64 l,val:=.bool true }).toList.map (·.born)=es.toList.map (·.born):=by
         rw [Array.toList_modify]
         apply List.ext_getElem?
         intro i
         rw [List.getElem?_map,List.getElem?_modify,List.getElem?_map]
         cases es.toList[i]? with
         | none => rfl
         | some y => simp only [Option.map_some]; split <;> rfl
       rw [this]; exact h.once
   · rw [if_neg e] at h1; cases h1
theorem map_eraseIdx {α β:Type} (f:α→β):∀ (l:List α) (i:Nat),(l.eraseIdx i).map f=(l.map f).eraseIdx i
 | [],_ => rfl
 | _ :: _,0 => rfl
 | x :: l,i + 1 => by simp [map_eraseIdx f l i]
theorem MSet.del {es:Array MapEntry} {ck:Nat} {ks:List Int} (h:MSet es ck ks) (l:Int):∃ es' ck',mdel es ck l=.map es' ck'∧MSet es' ck' (ks.erase l):=by
 have h1:=mIdx_of l 0 h.keys
 unfold mdel
 have hlen:es.toList.length=ks.length:=by have:=congrArg List.length h.keys; simpa using this
 cases hm:mIdx l es.toList 0 with
 | none =>
   rw [hm] at h1
   by_cases e:l ∈ ks
   · rw [if_pos e] at h1; cases h1
   · rw [List.erase_of_not_mem e]
     exact ⟨_,_,rfl,h⟩
 | some x =>
   obtain ⟨j,v⟩:=x
   rw [hm] at h1
   by_cases e:l ∈ ks
   · rw [if_pos e] at h1
     simp only [Option.map_some,Option.some.injEq,Nat.zero_add] at h1
     subst h1
     have hlt:ks.idxOf l < ks.length:=List.idxOf_lt_length_of_mem e
     have e1:(es.eraseIdxIfInBounds (ks.idxOf l)).toList=es.toList.eraseIdx (ks.idxOf l):=by
       unfold Array.eraseIdxIfInBounds
       rw [dif_pos (by have:es.toList.length=es.size:=rfl; omega)]
       simp
     have sub:∀ x,x ∈ es.toList.eraseIdx (ks.idxOf l)→x ∈ es.toList:=fun x hx => List.mem_of_mem_eraseIdx hx
     refine ⟨_,_,rfl,?_,?_,?_,?_,h.nodup.erase l⟩
     · rw [e1,map_eraseIdx,h.keys,← map_eraseIdx,List.erase_eq_eraseIdx_of_idxOf (by rfl)]
     · rw [e1]; exact fun x hx => h.vals x (sub x hx)
     · rw [e1]; exact fun x hx => h.born x (sub x hx)
     · rw [e1,map_eraseIdx]; exact h.once.sublist (List.eraseIdx_sublist ..)
   · rw [if_neg e] at h1; cases h1
end Go.Sl
