/- A part of the proof, put together of my texts: Y15certs, PureLib. -/
import Derived.Test.YtdnccegimipapaaGreatRows
import Derived.KernelRfl
import Derived.Test.YtdnccegimipapaaGreatRowBcfitTellsP5
set_option linter.unusedSimpArgs false
set_option maxRecDepth 100000
set_option linter.unusedVariables false
open Go.IntKind renaming wrap → y0
open List renaming getD_eq_getElem?_getD → ye, getElem?_eq_getElem → yj, getElem?_eq_none → w9
open Int renaming natCast_pow → wg
abbrev Go.AE.Ty.I:Go.AE.Ty:= .int .i64
abbrev Go.AE.CI.J:Go.AE.CI:= .hole (.int .i64)
abbrev Go.AE.CO.J:Go.AE.CO:= .hole (.int .i64)
abbrev Go.AE.CTy.I:Go.AE.CTy:= .int .i64
abbrev Go.AE.Ty.L(n:Nat):Go.AE.Ty:= .is .i64 n
abbrev Go.AE.CTy.L(n:Nat):Go.AE.CTy:= .is .i64 n
namespace Go.Proofs.YtdnccegimipapaaGreat
open Go Go.AE Go.AE.Gn
noncomputable abbrev pp:=Tryz.prog
theorem q00:q0t Tryz.prog:=zww (by kernel_rfl)
def q4q(F:Nat):ToldF:=⟨226,1,[.row .u8 1 (.slot 0) false],[.row .u8 1],fun d=>q4z F d.1⟩
theorem qa0(F:Nat):(q4q F).ok pp:=
 j0x q00 (fn:=Tryz.f226) (f:=226) (k:= .u8) (sz:=1) (R0:=cloneR0 (qdu Tryz.f226)) (X:=cloneX (qdu Tryz.f226)) (REST:=j3c (qdu Tryz.f226)) (o3:=cloneO3 (qdu Tryz.f226)) (o4:=cloneO4 (qdu Tryz.f226)) (t:=27) (t' :=27) (e:=5) (i1:=1) (by kernel_rfl) (by kernel_rfl) (by kernel_rfl) (by kernel_rfl) (by kernel_rfl) (by kernel_rfl) (by kernel_rfl)
  (cloneS1 1 .u8) (j3f 1 .u8)
  (fun l=>by kernel_rfl) (fun l=>by kernel_rfl) (fun l=>⟨rfl,rfl⟩) (fun l=>by simp[j3f]) (fun l=>by kernel_rfl) (fun l=>by kernel_rfl)
def zow(F:Nat):List ToldF:=[]
theorem zox(F:Nat):q02 pp (zow F):=trivial
def qa1(F:Nat):ToldF:=⟨65,1,[.slot 0 .I],[.ty (.agg [.I,.I,.bool]),.ty .I],u1 (q8k F)⟩
theorem qlb(F:Nat):(qa1 F).ok pp:=
 okF q00 (zox F) (fn:=Tryz.f65) [] (by kernel_rfl) aN fun d=>by kernel_rfl
def qmp(F:Nat):TX:=⟨23,[.slot 7 (.L 64),.slot 8 .I,.slot 11 (.L 4),.slot 12 .I],[.const 2 (.bool (some false) false)],[.slot 7 (.L 64),.slot 8 .I],.ret,2,fun k=>u4 (q33 F k),fun k=>u4 (q7o F (q33 F k))⟩
theorem z0g(F:Nat):(qmp F).ok pp Tryz.f66 F:=
 okX q00 (zox F) [] aN (fun _=>rfl) (fun _ _=>rfl) (eR rfl) fun k d=>by kernel_rfl
def z0h(F:Nat):TX:=⟨23,[.slot 7 (.L 64),.slot 8 .I],[.const 2 (.bool (some false) false)],[],.ret,0,fun k=>u2 (q34 F k),fun k=>u2 (q7p F (q34 F k))⟩
theorem zkk(F:Nat):(z0h F).ok pp Tryz.f66 F:=
 okX q00 (zox F) [(2,(qmp F).ann F)] (aX (by kernel_rfl) (z0g F) aN) (fun _=>rfl) (fun _ _=>rfl) (eR rfl) fun k d=>by kernel_rfl
def qvy(F:Nat):ToldF:=⟨66,1,[.slot 0 (.L 64)],[.ty (.bool)],u1 (q7q F)⟩
theorem zoy(F:Nat):(qvy F).ok pp:=
 okF q00 (zox F) (fn:=Tryz.f66) [(2,(qmp F).ann F),(0,(z0h F).ann F)] (by kernel_rfl) (aX (by kernel_rfl) (z0g F) (aX (by kernel_rfl) (zkk F) aN)) fun d=>by kernel_rfl
def zal(F:Nat):List ToldF:=[qa1 F]
theorem qgw(F:Nat):q02 pp (zal F):=⟨qlb F,trivial⟩
def qgx(F:Nat):TL:=⟨41,[.segs [.hole (.L 64)] (.slot 3) true,.ptr 3 1 64,.segs [.hole (.L 64)] (.slot 4) true,.ptr 4 2 64,.slot 7 .I,.slot 19 .I,.slot 24 (.L 4),.slot 25 .I],[.segs [.hole (.L 64)] (.slot 3) true,.ptr 3 1 64,.segs [.hole (.L 64)] (.slot 4) true,.ptr 4 2 64,.slot 19 .I],2,fun k=>u6 (q6l F k),fun k=>u6 (qan F (q6l F k))⟩
theorem qs3(F:Nat):(qgx F).ok pp Tryz.f27 F:=
 okL q00 (qgw F) [] aN (fun _=>rfl) (fun _ _=>rfl) fun k d=>by kernel_rfl
def qs4(F:Nat):TL:=⟨41,[.segs [.hole (.L 64)] (.slot 3) true,.ptr 3 1 64,.segs [.hole (.L 64)] (.slot 4) true,.ptr 4 2 64,.slot 19 .I],[.segs [.hole (.L 64)] (.slot 3) true,.ptr 3 1 64,.segs [.hole (.L 64)] (.slot 4) true,.ptr 4 2 64],0,fun k=>u3 (q6m F k),fun k=>u3 (qao F (q6m F k))⟩
theorem zam(F:Nat):(qs4 F).ok pp Tryz.f27 F:=
 okL q00 (qgw F) [(2,(qgx F).ann F)] (aL (by kernel_rfl) (qs3 F) aN) (fun _=>rfl) (fun _ _=>rfl) fun k d=>by kernel_rfl
def qee(F:Nat):ToldF:=⟨27,2,[.slot 0 .I,.slot 1 (.L 64)],[.ty (.L 64)],u2 (qg6 F)⟩
theorem qvz(F:Nat):(qee F).ok pp:=
 okF q00 (qgw F) (fn:=Tryz.f27) [(2,(qgx F).ann F),(0,(qs4 F).ann F)] (by kernel_rfl) (aL (by kernel_rfl) (qs3 F) (aL (by kernel_rfl) (zam F) aN)) fun d=>by kernel_rfl
def qmq(F:Nat):ToldF:=⟨153,1,[.slot 0 .I],[.ty (.bool)],u1 (qvc F)⟩
theorem z9u(F:Nat):(qmq F).ok pp:=
 okF q00 (zox F) (fn:=Tryz.f153) [] (by kernel_rfl) aN fun d=>by kernel_rfl
def zkl(F:Nat):List ToldF:=[qmq F]
theorem z0i(F:Nat):q02 pp (zkl F):=⟨z9u F,trivial⟩
def z0j(F:Nat):TL:=⟨28,[.slot 0 .I,.slot 1 .I,.slot 5 .I,.slot 6 .I],[.slot 5 .I,.slot 6 .I],0,fun k=>u4 (qi2 F k),fun k=>u4 (z07 F (qi2 F k))⟩
theorem zkm(F:Nat):(z0j F).ok pp Tryz.f82 F:=
 okL q00 (z0i F) [] aN (fun _=>rfl) (fun _ _=>rfl) fun k d=>by kernel_rfl
def q2k(F:Nat):ToldF:=⟨82,2,[.slot 0 .I,.slot 1 .I],[.ty .I],u2 (q0l F)⟩
theorem q5x(F:Nat):(q2k F).ok pp:=
 okF q00 (z0i F) (fn:=Tryz.f82) [(0,(z0j F).ann F)] (by kernel_rfl) (aL (by kernel_rfl) (zkm F) aN) fun d=>by kernel_rfl
def zan(F:Nat):List ToldF:=[q2k F]
theorem zao(F:Nat):q02 pp (zan F):=⟨q5x F,trivial⟩
def qnw(F:Nat):ToldF:=⟨207,2,[.slot 0 .I,.segs [.J] (.slot 1) false,.ptr 1 1 1],[.ty .I],u2 (qvu F)⟩
theorem zfs(F:Nat):(qnw F).ok pp:=
 okF q00 (zao F) (fn:=Tryz.f207) [] (by kernel_rfl) aN fun d=>by kernel_rfl
def q9m(F:Nat):ToldF:=⟨149,1,[.slot 0 .I],[.ty .I],u1 (q42 F)⟩
theorem qjp(F:Nat):(q9m F).ok pp:=
 okF q00 (zox F) (fn:=Tryz.f149) [] (by kernel_rfl) aN fun d=>by kernel_rfl
def z6x(F:Nat):List ToldF:=[q9m F]
theorem qnx(F:Nat):q02 pp (z6x F):=⟨qjp F,trivial⟩
def qny(F:Nat):TL:=⟨25,[.slot 0 .I,.row .i64 1 (.cell (.slot 2) 0) false,.segs [.sl 1 1 .whole] (.slot 2) false,.ptr 2 2 1,.slot 5 .I,.row .i64 1 (.slot 8) false,.slot 9 .I,.slot 10 .I],[.slot 5 .I],0,fun k=>u6 (q3q F k),fun k=>u6 (q4d F (q3q F k))⟩
theorem z6y(F:Nat):(qny F).ok pp Tryz.f255 F:=
 okL q00 (qnx F) [] aN (fun _=>rfl) (fun _ _=>rfl) fun k d=>by kernel_rfl
def qlc(F:Nat):ToldF:=⟨255,3,[.slot 0 .I,.row .i64 1 (.cell (.slot 1) 0) false,.segs [.sl 1 1 .whole] (.slot 1) false,.ptr 1 2 1,.row .i64 1 (.cell (.slot 2) 0) false,.segs [.sl 3 1 .whole] (.slot 2) false,.ptr 2 4 1],[.ty .I],u3 (qie F)⟩
theorem zar(F:Nat):(qlc F).ok pp:=
 okF q00 (qnx F) (fn:=Tryz.f255) [(0,(qny F).ann F)] (by kernel_rfl) (aL (by kernel_rfl) (z6y F) aN) fun d=>by kernel_rfl
def qqn(F:Nat):List ToldF:=[qlc F]
theorem qcv(F:Nat):q02 pp (qqn F):=⟨zar F,trivial⟩
def qcw(F:Nat):TL:=⟨27,[.row .i64 1 (.cell (.cap (.slot 1) 0) 0) false,.segs [.sl 1 1 .whole] (.cap (.slot 1) 0) false,.row .i64 1 (.cell (.cap (.slot 1) 1) 0) false,.segs [.sl 3 1 .whole] (.cap (.slot 1) 1) false,.fn 1 255 [.ptr 2 1,.ptr 4 1],.slot 5 .I,.slot 6 .I,.slot 9 .I,.slot 10 .I],[.slot 5 .I],0,fun k=>u6 (q0x F k),fun k=>u6 (q13 F (q0x F k))⟩
theorem qqo(F:Nat):(qcw F).ok pp Tryz.f154 F:=
 okL q00 (qcv F) [] aN (fun _=>rfl) (fun _ _=>rfl) fun k d=>by kernel_rfl
def qbc(F:Nat):ToldF:=⟨154,2,[.slot 0 .I,.row .i64 1 (.cell (.cap (.slot 1) 0) 0) false,.segs [.sl 1 1 .whole] (.cap (.slot 1) 0) false,.row .i64 1 (.cell (.cap (.slot 1) 1) 0) false,.segs [.sl 3 1 .whole] (.cap (.slot 1) 1) false,.fn 1 255 [.ptr 2 1,.ptr 4 1]],[.ty .I],u3 (qay F)⟩
theorem qu9(F:Nat):(qbc F).ok pp:=
 okF q00 (qcv F) (fn:=Tryz.f154) [(0,(qcw F).ann F)] (by kernel_rfl) (aL (by kernel_rfl) (qqo F) aN) fun d=>by kernel_rfl
def zkn(F:Nat):List ToldF:=[qbc F]
theorem zko(F:Nat):q02 pp (zkn F):=⟨qu9 F,trivial⟩
def q6n(F:Nat):ToldF:=⟨237,2,[.row .i64 1 (.slot 0) false,.row .i64 1 (.slot 1) false],[.ty .I],u2 (qba F)⟩
theorem qcx(F:Nat):(q6n F).ok pp:=
 okF q00 (zko F) (fn:=Tryz.f237) [] (by kernel_rfl) aN fun d=>by kernel_rfl
def qw0(F:Nat):List ToldF:=[qnw F,q6n F]
theorem q8t(F:Nat):q02 pp (qw0 F):=⟨zfs F,qcx F,trivial⟩
def qgb(F:Nat):TL:=⟨39,[.slot 1 .I,.slot 2 .I,.segs [.J] (.cap (.slot 3) 0) false,.fn 3 207 [.ptr 1 1],.row .i64 1 (.slot 9) true,.const 10 .nils,.slot 14 (.L 64),.slot 15 .I],[.slot 2 .I,.segs [.J] (.cap (.slot 3) 0) false,.fn 3 207 [.ptr 1 1],.row .i64 1 (.slot 9) true,.const 10 .nils],0,fun k=>u6 (q2l F k),fun k=>u6 (q5r F (q2l F k))⟩
theorem qw1(F:Nat):(qgb F).ok pp Tryz.f206 F:=
 okL q00 (q8t F) [] aN (fun _=>rfl) (fun _ _=>rfl) fun k d=>by kernel_rfl
def qgc(F:Nat):TL:=⟨39,[.segs [.J] (.cap (.slot 3) 0) false,.fn 3 207 [.ptr 1 1],.row .i64 1 (.slot 9) true,.row .i64 1 (.slot 10) true,.slot 25 .I,.slot 26 .I],[.row .i64 1 (.slot 9) true,.row .i64 1 (.slot 10) true],2,fun k=>u5 (q24 F k),fun k=>u5 (q2c F (q24 F k))⟩
theorem qw2(F:Nat):(qgc F).ok pp Tryz.f206 F:=
 okL q00 (q8t F) [] aN (fun _=>rfl) (fun _ _=>rfl) fun k d=>by kernel_rfl
def qdx(F:Nat):ToldF:=⟨206,4,[.slot 0 (.L 64),.slot 1 .I,.slot 2 .I,.segs [.J] (.cap (.slot 3) 0) false,.fn 3 207 [.ptr 1 1]],[.ty .I],u4 (q9f F)⟩
theorem qzh(F:Nat):(qdx F).ok pp:=
 okF q00 (q8t F) (fn:=Tryz.f206) [(0,(qgb F).ann F),(2,(qgc F).ann F)] (by kernel_rfl) (aL (by kernel_rfl) (qw1 F) (aL (by kernel_rfl) (qw2 F) aN)) fun d=>by kernel_rfl
def zp1(F:Nat):List ToldF:=[qdx F]
theorem zp2(F:Nat):q02 pp (zp1 F):=⟨qzh F,trivial⟩
def qfk(F:Nat):ToldF:=⟨139,3,[.slot 0 (.L 64),.slot 1 .I,.slot 2 .I],[.ty .I],u3 (q9z F)⟩
theorem qw3(F:Nat):(qfk F).ok pp:=
 okF q00 (zp2 F) (fn:=Tryz.f139) [] (by kernel_rfl) aN fun d=>by kernel_rfl
def qs6(F:Nat):TL:=⟨13,[.slot 0 .I,.segs [.hole (.L 16)] (.slot 2) true,.ptr 2 1 16,.segs [.hole (.L 16)] (.slot 3) true,.ptr 3 2 16,.slot 5 .I],[.segs [.hole (.L 16)] (.slot 2) true,.ptr 2 1 16,.segs [.hole (.L 16)] (.slot 3) true,.ptr 3 2 16],0,fun k=>u4 (q4o F k),fun k=>u4 (qap F (q4o F k))⟩
theorem zat(F:Nat):(qs6 F).ok pp Tryz.f138 F:=
 okL q00 (zox F) [] aN (fun _=>rfl) (fun _ _=>rfl) fun k d=>by kernel_rfl
def q4e(F:Nat):ToldF:=⟨138,1,[.slot 0 .I],[.ty (.L 16)],u1 (q5s F)⟩
theorem q8u(F:Nat):(q4e F).ok pp:=
 okF q00 (zox F) (fn:=Tryz.f138) [(0,(qs6 F).ann F)] (by kernel_rfl) (aL (by kernel_rfl) (zat F) aN) fun d=>by kernel_rfl
def qmr(F:Nat):ToldF:=⟨257,3,[.row .u8 1 (.slot 0) false,.slot 1 .I,.slot 2 .I],[.ty (.bool)],u3 (qnh F)⟩
theorem z9v(F:Nat):(qmr F).ok pp:=
 okF q00 (zox F) (fn:=Tryz.f257) [] (by kernel_rfl) aN fun d=>by kernel_rfl
def zkp(F:Nat):List ToldF:=[qmr F]
theorem zkq(F:Nat):q02 pp (zkp F):=⟨z9v F,trivial⟩
def qcy(F:Nat):ToldF:=⟨252,3,[.row .u8 1 (.slot 0) false,.slot 1 .I,.slot 2 .I],[.ty .I],u3 (qiv F)⟩
theorem qqp(F:Nat):(qcy F).ok pp:=
 okF q00 (zkq F) (fn:=Tryz.f252) [] (by kernel_rfl) aN fun d=>by kernel_rfl
def zp5(F:Nat):List ToldF:=[qcy F]
theorem zp6(F:Nat):q02 pp (zp5 F):=⟨qqp F,trivial⟩
def qms(F:Nat):ToldF:=⟨225,4,[.row .u8 1 (.slot 0) false,.slot 1 .I,.slot 2 .I,.slot 3 (.int .u64)],[.ty .I],u4 (qva F)⟩
theorem z9w(F:Nat):(qms F).ok pp:=
 okF q00 (zp6 F) (fn:=Tryz.f225) [] (by kernel_rfl) aN fun d=>by kernel_rfl
def qqq(F:Nat):ToldF:=⟨227,3,[.slot 0 (.int .u8),.slot 1 .I,.slot 2 (.int .u64)],[.ty (.int .u8)],u3 (z3n F)⟩
theorem zft(F:Nat):(qqq F).ok pp:=
 okF q00 (zox F) (fn:=Tryz.f227) [] (by kernel_rfl) aN fun d=>by kernel_rfl
def zfu(F:Nat):List ToldF:=[qms F,q4q F,qqq F]
theorem qw4(F:Nat):q02 pp (zfu F):=⟨z9w F,qa0 F,zft F,trivial⟩
def qw5(F:Nat):TL:=⟨48,[.slot 1 .I,.slot 3 (.int .u64),.row .u8 1 (.slot 11) true,.slot 24 .I,.slot 25 .I],[.row .u8 1 (.slot 11) true],0,fun k=>u5 (q7i F k),fun k=>u5 (qj8 F (q7i F k))⟩
theorem zfv(F:Nat):(qw5 F).ok pp Tryz.f233 F:=
 okL q00 (qw4 F) [] aN (fun _=>rfl) (fun _ _=>rfl) fun k d=>by kernel_rfl
def q7e(F:Nat):ToldF:=⟨233,4,[.row .u8 1 (.slot 0) false,.slot 1 .I,.slot 2 .I,.slot 3 (.int .u64)],[.row .u8 1,.ty .I],u4 (q6v F)⟩
theorem qfl(F:Nat):(q7e F).ok pp:=
 okF q00 (qw4 F) (fn:=Tryz.f233) [(0,(qw5 F).ann F)] (by kernel_rfl) (aL (by kernel_rfl) (zfv F) aN) fun d=>by kernel_rfl
def z6z(F:Nat):List ToldF:=[q7e F]
theorem qnz(F:Nat):q02 pp (z6z F):=⟨qfl F,trivial⟩
def qo0(F:Nat):TX:=⟨41,[.slot 0 (.int .u64),.slot 1 .I,.slot 2 .I,.slot 12 (.L 16),.slot 13 .I],[.const 8 .nils,.const 9 (.int .i64 (some 1) 1)],[.slot 0 (.int .u64)],.ret,0,fun k=>u5 (q1t F k),fun k=>u5 (q4a F (q1t F k))⟩
theorem z70(F:Nat):(qo0 F).ok pp Tryz.f200 F:=
 okX q00 (qnz F) [] aN (fun _=>rfl) (fun _ _=>rfl) (eR rfl) fun k d=>by kernel_rfl
def qcz(F:Nat):ToldF:=⟨200,4,[.slot 0 (.int .u64),.slot 1 .I,.slot 2 .I,.slot 3 (.L 16)],[.row .u8 1,.ty .I],u4 (q6w F)⟩
theorem qs7(F:Nat):(qcz F).ok pp:=
 okF q00 (qnz F) (fn:=Tryz.f200) [(0,(qo0 F).ann F)] (by kernel_rfl) (aX (by kernel_rfl) (z70 F) aN) fun d=>by kernel_rfl
def qzi(F:Nat):List ToldF:=[qcz F]
theorem qzj(F:Nat):q02 pp (qzi F):=⟨qs7 F,trivial⟩
def q8v(F:Nat):ToldF:=⟨129,1,[.slot 0 (.L 16)],[.row .u8 1,.ty .I],u1 (q3o F)⟩
theorem qjq(F:Nat):(q8v F).ok pp:=
 okF q00 (qzj F) (fn:=Tryz.f129) [] (by kernel_rfl) aN fun d=>by kernel_rfl
def zkr(F:Nat):List ToldF:=[q7e F]
theorem z0k(F:Nat):q02 pp (zkr F):=⟨qfl F,trivial⟩
def z0l(F:Nat):TX:=⟨56,[.slot 8 (.int .u64),.slot 31 (.L 16),.slot 32 .I],[.const 6 .nils,.const 7 (.int .i64 (some 1) 1)],[.slot 8 (.int .u64)],.ret,0,fun k=>u3 (q2a F k),fun k=>u3 (q7k F (q2a F k))⟩
theorem zks(F:Nat):(z0l F).ok pp Tryz.f198 F:=
 okX q00 (z0k F) [] aN (fun _=>rfl) (fun _ _=>rfl) (eR rfl) fun k d=>by kernel_rfl
def qjr(F:Nat):ToldF:=⟨198,3,[.slot 0 .I,.slot 1 .I,.slot 2 (.L 16)],[.row .u8 1,.ty .I],u3 (qb7 F)⟩
theorem z3w(F:Nat):(qjr F).ok pp:=
 okF q00 (z0k F) (fn:=Tryz.f198) [(0,(z0l F).ann F)] (by kernel_rfl) (aX (by kernel_rfl) (zks F) aN) fun d=>by kernel_rfl
def ztq(F:Nat):List ToldF:=[qfk F,q4e F,qjr F]
theorem ztr(F:Nat):q02 pp (ztq F):=⟨qw3 F,q8u F,z3w F,trivial⟩
def z3x(F:Nat):ToldF:=⟨140,1,[.slot 0 (.L 64)],[.row .u8 1],u1 (qz1 F)⟩
theorem zx3(F:Nat):(z3x F).ok pp:=
 okF q00 (ztr F) (fn:=Tryz.f140) [] (by kernel_rfl) aN fun d=>by kernel_rfl
def qld(F:Nat):ToldF:=⟨211,1,[.slot 0 .I],[.ty .I],u1 (qqj F)⟩
theorem zau(F:Nat):(qld F).ok pp:=
 okF q00 (zox F) (fn:=Tryz.f211) [] (by kernel_rfl) aN fun d=>by kernel_rfl
def qua(F:Nat):List ToldF:=[q6n F,qld F]
theorem q7y(F:Nat):q02 pp (qua F):=⟨qcx F,zau F,trivial⟩
def qdy(F:Nat):TL:=⟨39,[.slot 1 .I,.slot 2 .I,.fn 3 211 [],.row .i64 1 (.slot 9) true,.const 10 .nils,.slot 14 (.L 64),.slot 15 .I],[.slot 2 .I,.fn 3 211 [],.row .i64 1 (.slot 9) true,.const 10 .nils],0,fun k=>u5 (q2d F k),fun k=>u5 (q51 F (q2d F k))⟩
theorem qub(F:Nat):(qdy F).ok pp Tryz.f206 F:=
 okL q00 (q7y F) [] aN (fun _=>rfl) (fun _ _=>rfl) fun k d=>by kernel_rfl
def qdz(F:Nat):TL:=⟨39,[.fn 3 211 [],.row .i64 1 (.slot 9) true,.row .i64 1 (.slot 10) true,.slot 25 .I,.slot 26 .I],[.row .i64 1 (.slot 9) true,.row .i64 1 (.slot 10) true],2,fun k=>u4 (q1n F k),fun k=>u4 (q26 F (q1n F k))⟩
theorem quc(F:Nat):(qdz F).ok pp Tryz.f206 F:=
 okL q00 (q7y F) [] aN (fun _=>rfl) (fun _ _=>rfl) fun k d=>by kernel_rfl
def qd0(F:Nat):ToldF:=⟨206,4,[.slot 0 (.L 64),.slot 1 .I,.slot 2 .I,.fn 3 211 []],[.ty .I],u3 (qck F)⟩
theorem qw6(F:Nat):(qd0 F).ok pp:=
 okF q00 (q7y F) (fn:=Tryz.f206) [(0,(qdy F).ann F),(2,(qdz F).ann F)] (by kernel_rfl) (aL (by kernel_rfl) (qub F) (aL (by kernel_rfl) (quc F) aN)) fun d=>by kernel_rfl
def zkt(F:Nat):List ToldF:=[qd0 F]
theorem zku(F:Nat):q02 pp (zkt F):=⟨qw6 F,trivial⟩
def qjs(F:Nat):ToldF:=⟨146,2,[.slot 0 (.L 64),.slot 1 .I],[.ty .I],u2 (qnt F)⟩
theorem z3y(F:Nat):(qjs F).ok pp:=
 okF q00 (zku F) (fn:=Tryz.f146) [] (by kernel_rfl) aN fun d=>by kernel_rfl
def zfw(F:Nat):List ToldF:=[qcz F]
theorem zfx(F:Nat):q02 pp (zfw F):=⟨qs7 F,trivial⟩
def qgy(F:Nat):ToldF:=⟨134,3,[.slot 0 .I,.slot 1 .I,.slot 2 (.L 16)],[.row .u8 1,.ty .I],u3 (q6x F)⟩
theorem z0m(F:Nat):(qgy F).ok pp:=
 okF q00 (zfx F) (fn:=Tryz.f134) [] (by kernel_rfl) aN fun d=>by kernel_rfl
def zp7(F:Nat):List ToldF:=[q4e F,qjs F,qgy F]
theorem zp8(F:Nat):q02 pp (zp7 F):=⟨q8u F,z3y F,z0m F,trivial⟩
def z0n(F:Nat):ToldF:=⟨141,2,[.slot 0 (.L 64),.slot 1 .I],[.row .u8 1],u2 (qjh F)⟩
theorem zts(F:Nat):(z0n F).ok pp:=
 okF q00 (zp8 F) (fn:=Tryz.f141) [] (by kernel_rfl) aN fun d=>by kernel_rfl
def qjt(F:Nat):ToldF:=⟨209,2,[.slot 0 .I,.segs [.J] (.slot 1) false,.ptr 1 1 1],[.ty .I],u2 (qmn F)⟩
theorem z73(F:Nat):(qjt F).ok pp:=
 okF q00 (zox F) (fn:=Tryz.f209) [] (by kernel_rfl) aN fun d=>by kernel_rfl
def qqr(F:Nat):List ToldF:=[q6n F,qjt F]
theorem q73(F:Nat):q02 pp (qqr F):=⟨qcx F,z73 F,trivial⟩
def qd1(F:Nat):TL:=⟨39,[.slot 1 .I,.slot 2 .I,.segs [.J] (.cap (.slot 3) 0) false,.fn 3 209 [.ptr 1 1],.row .i64 1 (.slot 9) true,.const 10 .nils,.slot 14 (.L 64),.slot 15 .I],[.slot 2 .I,.segs [.J] (.cap (.slot 3) 0) false,.fn 3 209 [.ptr 1 1],.row .i64 1 (.slot 9) true,.const 10 .nils],0,fun k=>u6 (q27 F k),fun k=>u6 (q3x F (q27 F k))⟩
theorem qqs(F:Nat):(qd1 F).ok pp Tryz.f206 F:=
 okL q00 (q73 F) [] aN (fun _=>rfl) (fun _ _=>rfl) fun k d=>by kernel_rfl
def qd2(F:Nat):TL:=⟨39,[.segs [.J] (.cap (.slot 3) 0) false,.fn 3 209 [.ptr 1 1],.row .i64 1 (.slot 9) true,.row .i64 1 (.slot 10) true,.slot 25 .I,.slot 26 .I],[.row .i64 1 (.slot 9) true,.row .i64 1 (.slot 10) true],2,fun k=>u5 (q1g F k),fun k=>u5 (q20 F (q1g F k))⟩
theorem qqt(F:Nat):(qd2 F).ok pp Tryz.f206 F:=
 okL q00 (q73 F) [] aN (fun _=>rfl) (fun _ _=>rfl) fun k d=>by kernel_rfl
def qbd(F:Nat):ToldF:=⟨206,4,[.slot 0 (.L 64),.slot 1 .I,.slot 2 .I,.segs [.J] (.cap (.slot 3) 0) false,.fn 3 209 [.ptr 1 1]],[.ty .I],u4 (q71 F)⟩
theorem qud(F:Nat):(qbd F).ok pp:=
 okF q00 (q73 F) (fn:=Tryz.f206) [(0,(qd1 F).ann F),(2,(qd2 F).ann F)] (by kernel_rfl) (aL (by kernel_rfl) (qqs F) (aL (by kernel_rfl) (qqt F) aN)) fun d=>by kernel_rfl
def z41(F:Nat):List ToldF:=[q7e F]
theorem z42(F:Nat):q02 pp (z41 F):=⟨qfl F,trivial⟩
def qju(F:Nat):ToldF:=⟨236,5,[.slot 0 .I,.slot 1 .I,.row .u8 1 (.cell (.slot 2) 0) true (some 0),.segs [.sl 1 1 .own] (.slot 2) true (some 1),.ptr 2 2 1,.segs [.J] (.slot 3) true (some 2),.ptr 3 3 1,.segs [.hole (.bool)] (.slot 4) true (some 3),.ptr 4 4 1],[.psegs 1 [.row .u8 1 true],.psegs 2 [.J],.psegs 3 [.hole (.bool)]],u5 (q32 F)⟩
theorem z74(F:Nat):(qju F).ok pp:=
 okF q00 (z42 F) (fn:=Tryz.f236) [] (by kernel_rfl) aN fun d=>by kernel_rfl
def zfy(F:Nat):List ToldF:=[q7e F,qju F]
theorem qjv(F:Nat):q02 pp (zfy F):=⟨qfl F,z74 F,trivial⟩
def qw7(F:Nat):TL:=⟨62,[.segs [.hole (.L 8)] (.slot 3) true,.ptr 3 1 8,.segs [.hole (.L 2)] (.slot 4) true,.ptr 4 2 2,.segs [.hole (.L 16)] (.slot 5) true,.ptr 5 3 16,.row .u8 1 (.cell (.slot 8) 0) true,.segs [.sl 4 1 .own] (.slot 8) true,.ptr 8 5 1,.segs [.hole (.bool)] (.slot 11) true,.ptr 11 6 1,.segs [.J] (.cap (.slot 12) 1) true,.fn 12 236 [.ptr 5 1,.ptr 7 1,.ptr 6 1],.slot 22 .I],[.segs [.hole (.L 2)] (.slot 4) true,.ptr 4 1 2,.segs [.hole (.L 16)] (.slot 5) true,.ptr 5 2 16,.row .u8 1 (.cell (.slot 8) 0) true,.segs [.sl 3 1 .own] (.slot 8) true,.ptr 8 4 1,.segs [.hole (.bool)] (.slot 11) true,.ptr 11 5 1,.segs [.J] (.cap (.slot 12) 1) true,.fn 12 236 [.ptr 4 1,.ptr 6 1,.ptr 5 1]],0,fun k=>u7 (q45 F k),fun k=>u7 (qc7 F (q45 F k))⟩
theorem zfz(F:Nat):(qw7 F).ok pp Tryz.f205 F:=
 okL q00 (qjv F) [] aN (fun _=>rfl) (fun _ _=>rfl) fun k d=>by kernel_rfl
def qw8(F:Nat):TL:=⟨62,[.row .u8 1 (.cell (.slot 8) 0) true,.segs [.sl 1 1 .own] (.slot 8) true,.ptr 8 2 1,.segs [.hole (.bool)] (.slot 11) true,.ptr 11 3 1,.segs [.J] (.cap (.slot 12) 1) true,.fn 12 236 [.ptr 2 1,.ptr 4 1,.ptr 3 1],.slot 46 (.L 16),.slot 47 .I],[.row .u8 1 (.cell (.slot 8) 0) true,.segs [.sl 1 1 .own] (.slot 8) true,.ptr 8 2 1,.segs [.hole (.bool)] (.slot 11) true,.ptr 11 3 1],2,fun k=>u5 (q46 F k),fun k=>u5 (qc8 F (q46 F k))⟩
theorem zg0(F:Nat):(qw8 F).ok pp Tryz.f205 F:=
 okL q00 (qjv F) [] aN (fun _=>rfl) (fun _ _=>rfl) fun k d=>by kernel_rfl
def qgz(F:Nat):ToldF:=⟨205,3,[.slot 0 (.L 8),.slot 1 (.L 2),.slot 2 (.L 16)],[.row .u8 1,.ty .I],u3 (q4g F)⟩
theorem z0o(F:Nat):(qgz F).ok pp:=
 okF q00 (qjv F) (fn:=Tryz.f205) [(0,(qw7 F).ann F),(2,(qw8 F).ann F)] (by kernel_rfl) (aL (by kernel_rfl) (zfz F) (aL (by kernel_rfl) (zg0 F) aN)) fun d=>by kernel_rfl
def zg1(F:Nat):List ToldF:=[q4e F,qbd F,qgz F]
theorem qw9(F:Nat):q02 pp (zg1 F):=⟨q8u F,qud F,z0o F,trivial⟩
def qwa(F:Nat):TL:=⟨30,[.segs [.hole (.L 64)] (.slot 1) false,.ptr 1 1 64,.segs [.J] (.slot 2) true,.ptr 2 2 1,.segs [.hole (.L 4)] (.slot 4) true,.ptr 4 3 4,.slot 8 .I],[.segs [.J] (.slot 2) true,.ptr 2 1 1,.segs [.hole (.L 4)] (.slot 4) true,.ptr 4 2 4],0,fun k=>u4 (q64 F k),fun k=>u4 (qcl F (q64 F k))⟩
theorem zg2(F:Nat):(qwa F).ok pp Tryz.f208 F:=
 okL q00 (qw9 F) [] aN (fun _=>rfl) (fun _ _=>rfl) fun k d=>by kernel_rfl
def qs8(F:Nat):ToldF:=⟨208,2,[.slot 0 .I,.segs [.hole (.L 64)] (.slot 1) false,.ptr 1 1 64],[.row .u8 1],u2 (qji F)⟩
theorem zkv(F:Nat):(qs8 F).ok pp:=
 okF q00 (qw9 F) (fn:=Tryz.f208) [(0,(qwa F).ann F)] (by kernel_rfl) (aL (by kernel_rfl) (zg2 F) aN) fun d=>by kernel_rfl
def qwc(F:Nat):TL:=⟨17,[.slot 0 (.int .u8),.segs [.hole (.is .u64 8)] (.slot 2) true,.ptr 2 1 8,.segs [.hole (.is .u64 8)] (.slot 3) true,.ptr 3 2 8,.slot 5 .I],[.segs [.hole (.is .u64 8)] (.slot 2) true,.ptr 2 1 8,.segs [.hole (.is .u64 8)] (.slot 3) true,.ptr 3 2 8],0,fun k=>u4 (qey F k),fun k=>u4 (qv8 F (qey F k))⟩
theorem zg4(F:Nat):(qwc F).ok pp Tryz.f273 F:=
 okL q00 (zox F) [] aN (fun _=>rfl) (fun _ _=>rfl) fun k d=>by kernel_rfl
def qh0(F:Nat):ToldF:=⟨273,1,[.slot 0 (.int .u8)],[.ty (.is .u64 8)],u1 (qj7 F)⟩
theorem z0p(F:Nat):(qh0 F).ok pp:=
 okF q00 (zox F) (fn:=Tryz.f273) [(0,(qwc F).ann F)] (by kernel_rfl) (aL (by kernel_rfl) (zg4 F) aN) fun d=>by kernel_rfl
def ztt(F:Nat):List ToldF:=[qh0 F]
theorem ztu(F:Nat):q02 pp (ztt F):=⟨z0p F,trivial⟩
def z43(F:Nat):ToldF:=⟨274,2,[.row .u8 1 (.slot 0) false,.slot 1 .I],[.ty (.int .u64)],u2 (zdw F)⟩
theorem zx4(F:Nat):(z43 F).ok pp:=
 okF q00 (ztu F) (fn:=Tryz.f274) [] (by kernel_rfl) aN fun d=>by kernel_rfl
def ztv(F:Nat):List ToldF:=[qcy F,z43 F]
theorem z9x(F:Nat):q02 pp (ztv F):=⟨qqp F,zx4 F,trivial⟩
def z9y(F:Nat):TX:=⟨34,[.row .u8 1 (.slot 0) false,.slot 1 .I,.slot 8 .I,.slot 9 (.int .u64),.slot 15 .I,.slot 16 .I],[.const 6 (.int .u64 (some 0) 0),.slot 7 .I],[.slot 8 .I,.slot 9 (.int .u64)],.ret,0,fun k=>u6 (qav F k),fun k=>u6 (qky F (qav F k))⟩
theorem ztw(F:Nat):(z9y F).ok pp Tryz.f258 F:=
 okX q00 (z9x F) [] aN (fun _=>rfl) (fun _ _=>rfl) (eR rfl) fun k d=>by kernel_rfl
def qqu(F:Nat):ToldF:=⟨258,3,[.row .u8 1 (.slot 0) false,.slot 1 .I,.slot 2 .I],[.ty (.int .u64),.ty .I],u3 (qyv F)⟩
theorem zg5(F:Nat):(qqu F).ok pp:=
 okF q00 (z9x F) (fn:=Tryz.f258) [(0,(z9y F).ann F)] (by kernel_rfl) (aX (by kernel_rfl) (ztw F) aN) fun d=>by kernel_rfl
def zp9(F:Nat):List ToldF:=[qmr F,qqu F]
theorem z44(F:Nat):q02 pp (zp9 F):=⟨z9v F,zg5 F,trivial⟩
def z45(F:Nat):TL:=⟨63,[.row .u8 1 (.slot 0) false,.slot 1 .I,.slot 2 .I,.row .i64 1 (.slot 10) true,.slot 41 .I,.slot 42 .I],[.row .i64 1 (.slot 10) true],1,fun k=>u6 (qb6 F k),fun k=>u6 (qq4 F (qb6 F k))⟩
theorem zpa(F:Nat):(z45 F).ok pp Tryz.f240 F:=
 okL q00 (z44 F) [] aN (fun _=>rfl) (fun _ _=>rfl) fun k d=>by kernel_rfl
def qfm(F:Nat):ToldF:=⟨240,4,[.row .u8 1 (.slot 0) false,.slot 1 .I,.slot 2 .I,.slot 3 .I],[.row .i64 1,.ty .I],u4 (qj9 F)⟩
theorem qwd(F:Nat):(qfm F).ok pp:=
 okF q00 (z44 F) (fn:=Tryz.f240) [(1,(z45 F).ann F)] (by kernel_rfl) (aL (by kernel_rfl) (zpa F) aN) fun d=>by kernel_rfl
def zav(F:Nat):List ToldF:=[q2k F,qfm F]
theorem qs9(F:Nat):q02 pp (zav F):=⟨q5x F,qwd F,trivial⟩
def qsa(F:Nat):TL:=⟨29,[.segs [.hole (.L 16)] (.slot 2) true,.ptr 2 1 16,.segs [.hole (.L 16)] (.slot 4) true,.ptr 4 2 16,.row .i64 1 (.slot 5) true,.slot 17 .I],[.segs [.hole (.L 16)] (.slot 2) true,.ptr 2 1 16,.segs [.hole (.L 16)] (.slot 4) true,.ptr 4 2 16],0,fun k=>u4 (q35 F k),fun k=>u4 (q5f F (q35 F k))⟩
theorem zaw(F:Nat):(qsa F).ok pp Tryz.f218 F:=
 okL q00 (qs9 F) [] aN (fun _=>rfl) (fun _ _=>rfl) fun k d=>by kernel_rfl
def qo1(F:Nat):ToldF:=⟨218,1,[.row .u8 1 (.slot 0) false],[.ty (.L 16),.ty .I],u1 (ql1 F)⟩
theorem zg6(F:Nat):(qo1 F).ok pp:=
 okF q00 (qs9 F) (fn:=Tryz.f218) [(0,(qsa F).ann F)] (by kernel_rfl) (aL (by kernel_rfl) (zaw F) aN) fun d=>by kernel_rfl
def zg7(F:Nat):List ToldF:=[qfm F]
theorem zg8(F:Nat):q02 pp (zg7 F):=⟨qwd F,trivial⟩
def qsb(F:Nat):ToldF:=⟨241,1,[.row .u8 1 (.slot 0) false],[.ty .I,.ty .I,.ty (.L 16),.ty .I],u1 (qq8 F)⟩
theorem zkw(F:Nat):(qsb F).ok pp:=
 okF q00 (zg8 F) (fn:=Tryz.f241) [] (by kernel_rfl) aN fun d=>by kernel_rfl
def zax(F:Nat):List ToldF:=[q2k F]
theorem zay(F:Nat):q02 pp (zax F):=⟨q5x F,trivial⟩
def qo2(F:Nat):ToldF:=⟨231,1,[.slot 0 .I],[.ty (.L 4)],u1 (qfy F)⟩
theorem zg9(F:Nat):(qo2 F).ok pp:=
 okF q00 (zay F) (fn:=Tryz.f231) [] (by kernel_rfl) aN fun d=>by kernel_rfl
def qfn(F:Nat):ToldF:=⟨201,5,[.slot 0 .I,.slot 1 .I,.slot 2 .I,.slot 3 .I,.slot 4 .I],[.ty .I],u5 (qnj F)⟩
theorem qwe(F:Nat):(qfn F).ok pp:=
 okF q00 (zox F) (fn:=Tryz.f201) [] (by kernel_rfl) aN fun d=>by kernel_rfl
def z75(F:Nat):List ToldF:=[qfn F]
theorem qo3(F:Nat):q02 pp (z75 F):=⟨qwe F,trivial⟩
def qo4(F:Nat):TL:=⟨28,[.slot 2 .I,.slot 3 .I,.segs [.hole (.L 4)] (.slot 4) true,.ptr 4 1 4,.segs [.hole (.L 4)] (.slot 5) true,.ptr 5 2 4,.segs [.hole (.L 4)] (.slot 8) true,.ptr 8 3 4,.segs [.hole (.L 4)] (.slot 9) true,.ptr 9 4 4,.slot 12 .I],[.segs [.hole (.L 4)] (.slot 8) true,.ptr 8 1 4,.segs [.hole (.L 4)] (.slot 9) true,.ptr 9 2 4],0,fun k=>u7 (q2p F k),fun k=>u7 (q93 F (q2p F k))⟩
theorem z76(F:Nat):(qo4 F).ok pp Tryz.f232 F:=
 okL q00 (qo3 F) [] aN (fun _=>rfl) (fun _ _=>rfl) fun k d=>by kernel_rfl
def qle(F:Nat):ToldF:=⟨232,4,[.slot 0 (.L 4),.slot 1 (.L 4),.slot 2 .I,.slot 3 .I],[.ty (.L 4)],u4 (q5l F)⟩
theorem zaz(F:Nat):(qle F).ok pp:=
 okF q00 (qo3 F) (fn:=Tryz.f232) [(0,(qo4 F).ann F)] (by kernel_rfl) (aL (by kernel_rfl) (z76 F) aN) fun d=>by kernel_rfl
def z77(F:Nat):List ToldF:=[qo2 F,qle F]
theorem z78(F:Nat):q02 pp (z77 F):=⟨zg9 F,zaz F,trivial⟩
def qd3(F:Nat):ToldF:=⟨194,3,[.slot 0 .I,.slot 1 .I,.slot 2 (.bool)],[.ty (.L 16)],u3 (q94 F)⟩
theorem qsc(F:Nat):(qd3 F).ok pp:=
 okF q00 (z78 F) (fn:=Tryz.f194) [] (by kernel_rfl) aN fun d=>by kernel_rfl
def zb0(F:Nat):List ToldF:=[qsb F,qd3 F]
theorem qsd(F:Nat):q02 pp (zb0 F):=⟨zkw F,qsc F,trivial⟩
def qse(F:Nat):TL:=⟨41,[.segs [.hole (.L 64)] (.slot 4) true,.ptr 4 1 64,.segs [.hole (.L 64)] (.slot 6) true,.ptr 6 2 64,.segs [.hole (.L 16)] (.slot 11) true,.ptr 11 3 16,.slot 29 (.L 16),.slot 30 .I],[.segs [.hole (.L 64)] (.slot 4) true,.ptr 4 1 64,.segs [.hole (.L 64)] (.slot 6) true,.ptr 6 2 64],0,fun k=>u5 (q37 F k),fun k=>u5 (q5h F (q37 F k))⟩
theorem zb1(F:Nat):(qse F).ok pp Tryz.f220 F:=
 okL q00 (qsd F) [] aN (fun _=>rfl) (fun _ _=>rfl) fun k d=>by kernel_rfl
def qo5(F:Nat):ToldF:=⟨220,2,[.row .u8 1 (.slot 0) false,.slot 1 (.bool)],[.ty (.L 64),.ty .I],u2 (q6p F)⟩
theorem zga(F:Nat):(qo5 F).ok pp:=
 okF q00 (qsd F) (fn:=Tryz.f220) [(0,(qse F).ann F)] (by kernel_rfl) (aL (by kernel_rfl) (zb1 F) aN) fun d=>by kernel_rfl
def qo6(F:Nat):ToldF:=⟨219,2,[.slot 0 (.L 64),.slot 1 .I],[.ty (.L 64)],u2 (qb9 F)⟩
theorem zgb(F:Nat):(qo6 F).ok pp:=
 okF q00 (zox F) (fn:=Tryz.f219) [] (by kernel_rfl) aN fun d=>by kernel_rfl
def qwg(F:Nat):TL:=⟨23,[.slot 1 .I,.segs [.hole (.L 64)] (.slot 4) true,.ptr 4 1 64,.segs [.hole (.L 64)] (.slot 8) true,.ptr 8 2 64,.slot 11 (.L 16),.slot 12 .I],[.segs [.hole (.L 64)] (.slot 4) true,.ptr 4 1 64,.segs [.hole (.L 64)] (.slot 8) true,.ptr 8 2 64],0,fun k=>u5 (q7l F k),fun k=>u5 (qcg F (q7l F k))⟩
theorem zgd(F:Nat):(qwg F).ok pp Tryz.f217 F:=
 okL q00 (zox F) [] aN (fun _=>rfl) (fun _ _=>rfl) fun k d=>by kernel_rfl
def qh1(F:Nat):ToldF:=⟨217,4,[.slot 0 (.L 64),.slot 1 .I,.slot 2 (.L 16),.slot 3 .I],[.ty (.L 64)],u4 (qed F)⟩
theorem z0q(F:Nat):(qh1 F).ok pp:=
 okF q00 (zox F) (fn:=Tryz.f217) [(0,(qwg F).ann F)] (by kernel_rfl) (aL (by kernel_rfl) (zgd F) aN) fun d=>by kernel_rfl
def z2g(F:Nat):ToldF:=⟨150,1,[.slot 0 .I],[.ty .I],u1 (j3z F)⟩
theorem ztx(F:Nat):(z2g F).ok pp:=
 okF q00 (zox F) (fn:=Tryz.f150) [] (by kernel_rfl) aN fun d=>by kernel_rfl
def zpd(F:Nat):List ToldF:=[qh0 F]
theorem zpe(F:Nat):q02 pp (zpd F):=⟨z0p F,trivial⟩
def z0r(F:Nat):ToldF:=⟨253,2,[.row .u8 1 (.slot 0) false,.slot 1 .I],[.ty (.int .u64)],u2 (ztj F)⟩
theorem zty(F:Nat):(z0r F).ok pp:=
 okF q00 (zpe F) (fn:=Tryz.f253) [] (by kernel_rfl) aN fun d=>by kernel_rfl
def zpf(F:Nat):List ToldF:=[qcy F,z0r F]
theorem z46(F:Nat):q02 pp (zpf F):=⟨qqp F,zty F,trivial⟩
def z47(F:Nat):TX:=⟨33,[.row .u8 1 (.slot 0) false,.slot 1 .I,.slot 8 .I,.slot 9 (.int .u64),.slot 15 .I,.slot 16 .I],[.const 6 (.int .u64 (some 0) 0),.slot 7 .I],[.slot 8 .I,.slot 9 (.int .u64)],.ret,0,fun k=>u6 (qkz F k),fun k=>u6 (z3m F (qkz F k))⟩
theorem zpg(F:Nat):(z47 F).ok pp Tryz.f229 F:=
 okX q00 (z46 F) [] aN (fun _=>rfl) (fun _ _=>rfl) (eR rfl) fun k d=>by kernel_rfl
def qa2(F:Nat):ToldF:=⟨229,3,[.row .u8 1 (.slot 0) false,.slot 1 .I,.slot 2 .I],[.ty (.int .u64),.ty .I],u3 (qv9 F)⟩
theorem qlf(F:Nat):(qa2 F).ok pp:=
 okF q00 (z46 F) (fn:=Tryz.f229) [(0,(z47 F).ann F)] (by kernel_rfl) (aX (by kernel_rfl) (zpg F) aN) fun d=>by kernel_rfl
def zb4(F:Nat):List ToldF:=[qa2 F]
theorem zb5(F:Nat):q02 pp (zb4 F):=⟨qlf F,trivial⟩
def qo7(F:Nat):ToldF:=⟨256,3,[.slot 0 .I,.slot 1 .I,.row .u8 1 (.cell (.slot 2) 0) false,.segs [.sl 1 1 .whole] (.slot 2) false,.ptr 2 2 1],[.ty .I],u3 (qg5 F)⟩
theorem zge(F:Nat):(qo7 F).ok pp:=
 okF q00 (zb5 F) (fn:=Tryz.f256) [] (by kernel_rfl) aN fun d=>by kernel_rfl
def zph(F:Nat):List ToldF:=[z2g F,qo7 F]
theorem z48(F:Nat):q02 pp (zph F):=⟨ztx F,zge F,trivial⟩
def z49(F:Nat):TL:=⟨32,[.segs [.hole (.L 16)] (.slot 5) true,.ptr 5 1 16,.segs [.hole (.L 16)] (.slot 7) true,.ptr 7 2 16,.row .u8 1 (.cell (.cap (.slot 8) 0) 0) false,.segs [.sl 3 1 .whole] (.cap (.slot 8) 0) true,.fn 8 256 [.ptr 4 1],.slot 15 .I],[.segs [.hole (.L 16)] (.slot 5) true,.ptr 5 1 16,.segs [.hole (.L 16)] (.slot 7) true,.ptr 7 2 16,.row .u8 1 (.cell (.cap (.slot 8) 0) 0) false,.segs [.sl 3 1 .whole] (.cap (.slot 8) 0) true,.fn 8 256 [.ptr 4 1]],0,fun k=>u4 (ql8 F k),fun k=>u4 (z3u F (ql8 F k))⟩
theorem zpi(F:Nat):(z49 F).ok pp Tryz.f238 F:=
 okL q00 (z48 F) [] aN (fun _=>rfl) (fun _ _=>rfl) fun k d=>by kernel_rfl
def z0s(F:Nat):ToldF:=⟨238,1,[.row .u8 1 (.slot 0) false],[.ty .I,.ty .I,.ty .I,.ty (.L 16),.ty .I],u1 (ztl F)⟩
theorem ztz(F:Nat):(z0s F).ok pp:=
 okF q00 (z48 F) (fn:=Tryz.f238) [(0,(z49 F).ann F)] (by kernel_rfl) (aL (by kernel_rfl) (zpi F) aN) fun d=>by kernel_rfl
def z0t(F:Nat):ToldF:=⟨71,1,[.slot 0 .I],[.ty (.L 8)],u1 (ztn F)⟩
theorem zu0(F:Nat):(z0t F).ok pp:=
 okF q00 (zox F) (fn:=Tryz.f71) [] (by kernel_rfl) aN fun d=>by kernel_rfl
def q2b(F:Nat):ToldF:=⟨81,2,[.slot 0 .I,.slot 1 .I],[.ty .I],u2 (q23 F)⟩
theorem q47(F:Nat):(q2b F).ok pp:=
 okF q00 (zox F) (fn:=Tryz.f81) [] (by kernel_rfl) aN fun d=>by kernel_rfl
def zpl(F:Nat):List ToldF:=[q2b F]
theorem zpm(F:Nat):q02 pp (zpl F):=⟨q47 F,trivial⟩
def qmt(F:Nat):ToldF:=⟨73,4,[.slot 0 .I,.slot 1 .I,.slot 2 .I,.slot 3 (.bool)],[.ty .I],u4 (zfm F)⟩
theorem z9z(F:Nat):(qmt F).ok pp:=
 okF q00 (zpm F) (fn:=Tryz.f73) [] (by kernel_rfl) aN fun d=>by kernel_rfl
def zkx(F:Nat):List ToldF:=[z0s F,z0t F,qmt F]
theorem z0u(F:Nat):q02 pp (zkx F):=⟨ztz F,zu0 F,z9z F,trivial⟩
def z0v(F:Nat):TL:=⟨44,[.slot 1 (.bool),.segs [.hole (.L 16)] (.slot 4) true,.ptr 4 1 16,.slot 6 .I,.slot 7 .I,.segs [.hole (.L 16)] (.slot 9) true,.ptr 9 2 16,.segs [.hole (.L 8)] (.slot 11) true,.ptr 11 3 8,.slot 28 (.L 16),.slot 29 .I],[.segs [.hole (.L 16)] (.slot 4) true,.ptr 4 1 16,.segs [.hole (.L 16)] (.slot 9) true,.ptr 9 2 16],0,fun k=>u8 (qic F k),fun k=>u8 (z0e F (qic F k))⟩
theorem zky(F:Nat):(z0v F).ok pp Tryz.f214 F:=
 okL q00 (z0u F) [] aN (fun _=>rfl) (fun _ _=>rfl) fun k d=>by kernel_rfl
def qjw(F:Nat):ToldF:=⟨214,2,[.row .u8 1 (.slot 0) false,.slot 1 (.bool)],[.ty (.L 16),.ty .I],u2 (z6w F)⟩
theorem z4a(F:Nat):(qjw F).ok pp:=
 okF q00 (z0u F) (fn:=Tryz.f214) [(0,(z0v F).ann F)] (by kernel_rfl) (aL (by kernel_rfl) (zky F) aN) fun d=>by kernel_rfl
def zb6(F:Nat):List ToldF:=[qfm F]
theorem zb7(F:Nat):q02 pp (zb6 F):=⟨qwd F,trivial⟩
def qo8(F:Nat):ToldF:=⟨239,1,[.row .u8 1 (.slot 0) false],[.ty .I,.ty .I,.ty (.L 16),.ty .I],u1 (ql0 F)⟩
theorem zgh(F:Nat):(qo8 F).ok pp:=
 okF q00 (zb7 F) (fn:=Tryz.f239) [] (by kernel_rfl) aN fun d=>by kernel_rfl
def zgi(F:Nat):List ToldF:=[qfn F]
theorem qwh(F:Nat):q02 pp (zgi F):=⟨qwe F,trivial⟩
def qwi(F:Nat):TL:=⟨31,[.slot 0 .I,.slot 1 .I,.segs [.hole (.L 8)] (.slot 4) true,.ptr 4 1 8,.segs [.hole (.L 8)] (.slot 5) true,.ptr 5 2 8,.slot 6 .I,.slot 16 .I,.slot 17 .I],[.segs [.hole (.L 8)] (.slot 4) true,.ptr 4 1 8,.segs [.hole (.L 8)] (.slot 5) true,.ptr 5 2 8],0,fun k=>u7 (q62 F k),fun k=>u7 (qja F (q62 F k))⟩
theorem zgj(F:Nat):(qwi F).ok pp Tryz.f131 F:=
 okL q00 (qwh F) [] aN (fun _=>rfl) (fun _ _=>rfl) fun k d=>by kernel_rfl
def qh2(F:Nat):ToldF:=⟨131,2,[.slot 0 .I,.slot 1 .I],[.ty (.L 8)],u2 (qe9 F)⟩
theorem z0w(F:Nat):(qh2 F).ok pp:=
 okF q00 (qwh F) (fn:=Tryz.f131) [(0,(qwi F).ann F)] (by kernel_rfl) (aL (by kernel_rfl) (zgj F) aN) fun d=>by kernel_rfl
def z79(F:Nat):List ToldF:=[qo8 F,qh2 F]
theorem qo9(F:Nat):q02 pp (z79 F):=⟨zgh F,z0w F,trivial⟩
def qoa(F:Nat):TL:=⟨37,[.segs [.hole (.L 16)] (.slot 2) true,.ptr 2 1 16,.segs [.hole (.L 16)] (.slot 6) true,.ptr 6 2 16,.segs [.hole (.L 8)] (.slot 8) true,.ptr 8 3 8,.slot 25 (.L 16),.slot 26 .I],[.segs [.hole (.L 16)] (.slot 2) true,.ptr 2 1 16,.segs [.hole (.L 16)] (.slot 6) true,.ptr 6 2 16],0,fun k=>u5 (q2n F k),fun k=>u5 (q4b F (q2n F k))⟩
theorem z7a(F:Nat):(qoa F).ok pp Tryz.f215 F:=
 okL q00 (qo9 F) [] aN (fun _=>rfl) (fun _ _=>rfl) fun k d=>by kernel_rfl
def qlg(F:Nat):ToldF:=⟨215,1,[.row .u8 1 (.slot 0) false],[.ty (.L 16),.ty .I],u1 (qi1 F)⟩
theorem zb8(F:Nat):(qlg F).ok pp:=
 okF q00 (qo9 F) (fn:=Tryz.f215) [(0,(qoa F).ann F)] (by kernel_rfl) (aL (by kernel_rfl) (z7a F) aN) fun d=>by kernel_rfl
def qzk(F:Nat):List ToldF:=[qjw F,qlg F]
theorem qzl(F:Nat):q02 pp (qzk F):=⟨z4a F,zb8 F,trivial⟩
def qgd(F:Nat):ToldF:=⟨213,2,[.row .u8 1 (.slot 0) false,.segs [.J,.J,.hole (.bool)] (.slot 1) false,.ptr 1 2 3],[.ty (.L 16),.ty .I],u4 (qgu F)⟩
theorem z2h(F:Nat):(qgd F).ok pp:=
 okF q00 (qzl F) (fn:=Tryz.f213) [] (by kernel_rfl) aN fun d=>by kernel_rfl
def qzm(F:Nat):List ToldF:=[qh1 F,qgd F]
theorem qzn(F:Nat):q02 pp (qzm F):=⟨z0q F,z2h F,trivial⟩
def qge(F:Nat):ToldF:=⟨216,4,[.slot 0 (.L 64),.slot 1 .I,.row .u8 1 (.slot 2) false,.segs [.J,.J,.hole (.bool)] (.cap (.cell (.slot 3) 0) 0) false,.segs [.fnp 213 [(2,3)]] (.slot 3) false,.ptr 3 3 1],[.ty (.L 64)],u6 (q1y F)⟩
theorem z2i(F:Nat):(qge F).ok pp:=
 okF q00 (qzn F) (fn:=Tryz.f216) [] (by kernel_rfl) aN fun d=>by kernel_rfl
def qsg(F:Nat):TL:=⟨17,[.slot 0 (.bool),.segs [.hole (.L 64)] (.slot 2) true,.ptr 2 1 64,.segs [.hole (.L 64)] (.slot 3) true,.ptr 3 2 64,.slot 5 .I],[.segs [.hole (.L 64)] (.slot 2) true,.ptr 2 1 64,.segs [.hole (.L 64)] (.slot 3) true,.ptr 3 2 64],0,fun k=>u4 (qch F k),fun k=>u4 (qs1 F (qch F k))⟩
theorem zba(F:Nat):(qsg F).ok pp Tryz.f221 F:=
 okL q00 (zox F) [] aN (fun _=>rfl) (fun _ _=>rfl) fun k d=>by kernel_rfl
def qob(F:Nat):ToldF:=⟨221,1,[.slot 0 (.bool)],[.ty (.L 64)],u1 (q8l F)⟩
theorem zgk(F:Nat):(qob F).ok pp:=
 okF q00 (zox F) (fn:=Tryz.f221) [(0,(qsg F).ann F)] (by kernel_rfl) (aL (by kernel_rfl) (zba F) aN) fun d=>by kernel_rfl
def q7f(F:Nat):ToldF:=⟨259,1,[.slot 0 (.int .u8)],[.ty .I],u1 (q3j F)⟩
theorem qjx(F:Nat):(q7f F).ok pp:=
 okF q00 (zox F) (fn:=Tryz.f259) [] (by kernel_rfl) aN fun d=>by kernel_rfl
def zbb(F:Nat):List ToldF:=[q7f F]
theorem zbc(F:Nat):q02 pp (zbb F):=⟨qjx F,trivial⟩
def qoc(F:Nat):ToldF:=⟨242,1,[.row .u8 1 (.slot 0) false],[.ty .I],u1 (ql5 F)⟩
theorem zgl(F:Nat):(qoc F).ok pp:=
 okF q00 (zbc F) (fn:=Tryz.f242) [] (by kernel_rfl) aN fun d=>by kernel_rfl
def qlh(F:Nat):ToldF:=⟨260,0,[],[.row .i64 10],u0 (qqd F)⟩
theorem zbd(F:Nat):(qlh F).ok pp:=
 okF q00 (zox F) (fn:=Tryz.f260) [] (by kernel_rfl) aN fun d=>by kernel_rfl
def z2j(F:Nat):List ToldF:=[qqu F]
theorem z2k(F:Nat):q02 pp (z2j F):=⟨zg5 F,trivial⟩
def q9u(F:Nat):ToldF:=⟨261,3,[.slot 0 .I,.row .u8 1 (.cell (.slot 1) 0) false,.segs [.sl 1 1 .whole] (.slot 1) false,.ptr 1 2 1,.segs [.J] (.slot 2) true (some 2),.ptr 2 3 1],[.ty .I,.psegs 2 [.J]],u3 (q17 F)⟩
theorem qli(F:Nat):(q9u F).ok pp:=
 okF q00 (z2k F) (fn:=Tryz.f261) [] (by kernel_rfl) aN fun d=>by kernel_rfl
def qd4(F:Nat):ToldF:=⟨262,2,[.slot 0 (.agg [.I,.I,.I,.I,.I,.I,.I,.I,.I,.I]),.slot 1 .I],[.ty .I],u2 (q6z F)⟩
theorem qsh(F:Nat):(qd4 F).ok pp:=
 okF q00 (zox F) (fn:=Tryz.f262) [] (by kernel_rfl) aN fun d=>by kernel_rfl
def qdq(F:Nat):List ToldF:=[q2k F,q9u F,qd4 F]
theorem q2t(F:Nat):q02 pp (qdq F):=⟨q5x F,qli F,qsh F,trivial⟩
def q2u(F:Nat):TL:=⟨97,[.row .i64 4 (.cell (.slot 0) 13) true (some 0),.segs [.J,.J,.J,.J,.J,.J,.J,.J,.J,.J,.J,.J,.J,.sl 1 4 .own,.hole (.L 16),.hole (.L 16)] (.slot 0) false,.ptr 0 2 46,.row .u8 1 (.cell (.cap (.slot 1) 0) 0) false,.segs [.sl 3 1 .whole] (.cap (.slot 1) 0) false,.segs [.J] (.cap (.slot 1) 1) true (some 4),.fn 1 261 [.ptr 4 1,.ptr 5 1],.slot 4 .I,.slot 5 .I,.slot 6 .I,.slot 24 .I,.slot 25 .I,.slot 55 (.L 4),.slot 56 .I],[.row .i64 4 (.cell (.slot 0) 13) true (some 0),.segs [.J,.J,.J,.J,.J,.J,.J,.J,.J,.J,.J,.J,.J,.sl 1 4 .own,.hole (.L 16),.hole (.L 16)] (.slot 0) false,.ptr 0 2 46,.row .u8 1 (.cell (.cap (.slot 1) 0) 0) false,.segs [.sl 3 1 .whole] (.cap (.slot 1) 0) false,.segs [.J] (.cap (.slot 1) 1) true (some 4),.fn 1 261 [.ptr 4 1,.ptr 5 1],.slot 4 .I,.slot 5 .I,.slot 6 .I,.slot 24 .I,.slot 25 .I],2,fun k=>u25 (q06 F k),fun k=>u25 (q1j F (q06 F k))⟩
theorem q68(F:Nat):(q2u F).ok pp Tryz.f263 F:=
 okL q00 (q2t F) [] aN (fun _=>rfl) (fun _ _=>rfl) fun k d=>by kernel_rfl
def q69(F:Nat):TL:=⟨97,[.row .i64 4 (.cell (.slot 0) 13) true (some 0),.segs [.J,.J,.J,.J,.J,.J,.J,.J,.J,.J,.J,.J,.J,.sl 1 4 .own,.hole (.L 16),.hole (.L 16)] (.slot 0) false,.ptr 0 2 46,.row .u8 1 (.cell (.cap (.slot 1) 0) 0) false,.segs [.sl 3 1 .whole] (.cap (.slot 1) 0) false,.segs [.J] (.cap (.slot 1) 1) true (some 4),.fn 1 261 [.ptr 4 1,.ptr 5 1],.slot 4 .I,.slot 5 .I,.slot 24 .I,.slot 25 .I],[.row .i64 4 (.cell (.slot 0) 13) true (some 0),.segs [.J,.J,.J,.J,.J,.J,.J,.J,.J,.J,.J,.J,.J,.sl 1 4 .own,.hole (.L 16),.hole (.L 16)] (.slot 0) false,.ptr 0 2 46,.row .u8 1 (.cell (.cap (.slot 1) 0) 0) false,.segs [.sl 3 1 .whole] (.cap (.slot 1) 0) false,.segs [.J] (.cap (.slot 1) 1) true (some 4),.fn 1 261 [.ptr 4 1,.ptr 5 1]],0,fun k=>u22 (q09 F k),fun k=>u22 (q1k F (q09 F k))⟩
theorem qdr(F:Nat):(q69 F).ok pp Tryz.f263 F:=
 okL q00 (q2t F) [(2,(q2u F).ann F)] (aL (by kernel_rfl) (q68 F) aN) (fun _=>rfl) (fun _ _=>rfl) fun k d=>by kernel_rfl
def q5y(F:Nat):ToldF:=⟨263,2,[.row .i64 4 (.cell (.slot 0) 13) true (some 0),.segs [.J,.J,.J,.J,.J,.J,.J,.J,.J,.J,.J,.J,.J,.sl 1 4 .own,.hole (.L 16),.hole (.L 16)] (.slot 0) false,.ptr 0 2 46,.row .u8 1 (.cell (.cap (.slot 1) 0) 0) false,.segs [.sl 3 1 .whole] (.cap (.slot 1) 0) false,.segs [.J] (.cap (.slot 1) 1) true (some 4),.fn 1 261 [.ptr 4 1,.ptr 5 1]],[.prow 0 .i64,.psegs 4 [.J]],u18 (q2e F)⟩
theorem qef(F:Nat):(q5y F).ok pp:=
 okF q00 (q2t F) (fn:=Tryz.f263) [(2,(q2u F).ann F),(0,(q69 F).ann F)] (by kernel_rfl) (aL (by kernel_rfl) (q68 F) (aL (by kernel_rfl) (qdr F) aN)) fun d=>by kernel_rfl
def qhr(F:Nat):ToldF:=⟨280,1,[.slot 0 (.agg [.I,.I])],[.row .u8 1],u1 (qvf F)⟩
theorem z4b(F:Nat):(qhr F).ok pp:=
 okF q00 (zox F) (fn:=Tryz.f280) [] (by kernel_rfl) aN fun d=>by kernel_rfl
def qjy(F:Nat):ToldF:=⟨276,2,[.slot 0 .I,.slot 1 .I],[.ty (.bool)],u2 (qyy F)⟩
theorem z4c(F:Nat):(qjy F).ok pp:=
 okF q00 (zox F) (fn:=Tryz.f276) [] (by kernel_rfl) aN fun d=>by kernel_rfl
def z4d(F:Nat):List ToldF:=[qhr F,qjy F]
theorem z4e(F:Nat):q02 pp (z4d F):=⟨z4b F,z4c F,trivial⟩
def qjz(F:Nat):ToldF:=⟨275,3,[.slot 0 .I,.slot 1 .I,.slot 2 .I],[.ty .I],u3 (qf1 F)⟩
theorem z7f(F:Nat):(qjz F).ok pp:=
 okF q00 (z4e F) (fn:=Tryz.f275) [] (by kernel_rfl) aN fun d=>by kernel_rfl
def qod(F:Nat):List ToldF:=[qjz F]
theorem qbe(F:Nat):q02 pp (qod F):=⟨z7f F,trivial⟩
def qbf(F:Nat):TL:=⟨35,[.row .i64 4 (.cell (.slot 0) 13) false,.segs [.J,.J,.J,.J,.J,.J,.J,.J,.J,.J,.J,.J,.J,.sl 1 4 .whole,.hole (.L 16),.hole (.L 16)] (.slot 0) false,.ptr 0 2 46,.slot 1 .I,.slot 5 (.bool),.slot 6 .I],[.slot 5 (.bool)],0,fun k=>u19 (q19 F k),fun k=>u19 (q3k F (q19 F k))⟩
theorem qoe(F:Nat):(qbf F).ok pp Tryz.f264 F:=
 okL q00 (qbe F) [] aN (fun _=>rfl) (fun _ _=>rfl) fun k d=>by kernel_rfl
def qa3(F:Nat):ToldF:=⟨264,2,[.row .i64 4 (.cell (.slot 0) 13) false,.segs [.J,.J,.J,.J,.J,.J,.J,.J,.J,.J,.J,.J,.J,.sl 1 4 .whole,.hole (.L 16),.hole (.L 16)] (.slot 0) false,.ptr 0 2 46,.slot 1 .I],[.ty .I],u17 (q6d F)⟩
theorem qqv(F:Nat):(qa3 F).ok pp:=
 okF q00 (qbe F) (fn:=Tryz.f264) [(0,(qbf F).ann F)] (by kernel_rfl) (aL (by kernel_rfl) (qoe F) aN) fun d=>by kernel_rfl
def zbe(F:Nat):List ToldF:=[qlh F,q9u F,qd4 F,q5y F,qa3 F]
theorem q7g(F:Nat):q02 pp (zbe F):=⟨zbd F,qli F,qsh F,qef F,qqv F,trivial⟩
def qh3(F:Nat):TL:=⟨105,[.segs [.const (.int .i64 (some 0) 0),.const (.int .i64 (some 0) 0),.const (.int .i64 (some 0) 0),.const (.int .i64 (some 0) 0),.const (.int .i64 (some 0) 0),.const (.int .i64 (some 0) 0),.const (.int .i64 (some 0) 0),.const (.int .i64 (some 0) 0),.const (.int .i64 (some 0) 0),.const (.int .i64 (some 0) 0),.const (.int .i64 (some 0) 0),.const (.int .i64 (some 0) 0),.const (.int .i64 (some 0) 0),.const .nils,.hole (.L 16),.hole (.L 16)] (.slot 4) true,.ptr 4 1 46,.row .i64 4 (.cell (.slot 5) 13) true,.segs [.J,.J,.J,.J,.J,.J,.J,.J,.J,.J,.J,.J,.J,.sl 2 4 .own,.hole (.L 16),.hole (.L 16)] (.slot 5) true,.ptr 5 3 46,.row .u8 1 (.cell (.cap (.slot 7) 0) 0) false,.segs [.sl 4 1 .whole] (.cap (.slot 7) 0) true,.segs [.J] (.cap (.slot 7) 1) true,.fn 7 261 [.ptr 5 1,.ptr 6 1],.slot 8 .I,.slot 44 .I,.slot 49 .I,.slot 50 .I],[.segs [.const (.int .i64 (some 0) 0),.const (.int .i64 (some 0) 0),.const (.int .i64 (some 0) 0),.const (.int .i64 (some 0) 0),.const (.int .i64 (some 0) 0),.const (.int .i64 (some 0) 0),.const (.int .i64 (some 0) 0),.const (.int .i64 (some 0) 0),.const (.int .i64 (some 0) 0),.const (.int .i64 (some 0) 0),.const (.int .i64 (some 0) 0),.const (.int .i64 (some 0) 0),.const (.int .i64 (some 0) 0),.const .nils,.hole (.L 16),.hole (.L 16)] (.slot 4) true,.ptr 4 1 46,.row .i64 4 (.cell (.slot 5) 13) true,.segs [.J,.J,.J,.J,.J,.J,.J,.J,.J,.J,.J,.J,.J,.sl 2 4 .own,.hole (.L 16),.hole (.L 16)] (.slot 5) true,.ptr 5 3 46,.row .u8 1 (.cell (.cap (.slot 7) 0) 0) false,.segs [.sl 4 1 .whole] (.cap (.slot 7) 0) true,.segs [.J] (.cap (.slot 7) 1) true,.fn 7 261 [.ptr 5 1,.ptr 6 1],.slot 44 .I],2,fun k=>u24 (q4h F k),fun k=>u24 (qa9 F (q4h F k))⟩
theorem qsi(F:Nat):(qh3 F).ok pp Tryz.f243 F:=
 okL q00 (q7g F) [] aN (fun _=>rfl) (fun _ _=>rfl) fun k d=>by kernel_rfl
def qsj(F:Nat):TL:=⟨105,[.segs [.const (.int .i64 (some 0) 0),.const (.int .i64 (some 0) 0),.const (.int .i64 (some 0) 0),.const (.int .i64 (some 0) 0),.const (.int .i64 (some 0) 0),.const (.int .i64 (some 0) 0),.const (.int .i64 (some 0) 0),.const (.int .i64 (some 0) 0),.const (.int .i64 (some 0) 0),.const (.int .i64 (some 0) 0),.const (.int .i64 (some 0) 0),.const (.int .i64 (some 0) 0),.const (.int .i64 (some 0) 0),.const .nils,.hole (.L 16),.hole (.L 16)] (.slot 4) true,.ptr 4 1 46,.row .i64 4 (.cell (.slot 5) 13) true,.segs [.J,.J,.J,.J,.J,.J,.J,.J,.J,.J,.J,.J,.J,.sl 2 4 .own,.hole (.L 16),.hole (.L 16)] (.slot 5) true,.ptr 5 3 46,.row .u8 1 (.cell (.cap (.slot 7) 0) 0) false,.segs [.sl 4 1 .whole] (.cap (.slot 7) 0) true,.segs [.J] (.cap (.slot 7) 1) true,.fn 7 261 [.ptr 5 1,.ptr 6 1],.slot 44 .I],[.segs [.const (.int .i64 (some 0) 0),.const (.int .i64 (some 0) 0),.const (.int .i64 (some 0) 0),.const (.int .i64 (some 0) 0),.const (.int .i64 (some 0) 0),.const (.int .i64 (some 0) 0),.const (.int .i64 (some 0) 0),.const (.int .i64 (some 0) 0),.const (.int .i64 (some 0) 0),.const (.int .i64 (some 0) 0),.const (.int .i64 (some 0) 0),.const (.int .i64 (some 0) 0),.const (.int .i64 (some 0) 0),.const .nils,.hole (.L 16),.hole (.L 16)] (.slot 4) true,.ptr 4 1 46,.row .i64 4 (.cell (.slot 5) 13) true,.segs [.J,.J,.J,.J,.J,.J,.J,.J,.J,.J,.J,.J,.J,.sl 2 4 .own,.hole (.L 16),.hole (.L 16)] (.slot 5) true,.ptr 5 3 46,.row .u8 1 (.cell (.cap (.slot 7) 0) 0) false,.segs [.sl 4 1 .whole] (.cap (.slot 7) 0) true,.segs [.J] (.cap (.slot 7) 1) true,.fn 7 261 [.ptr 5 1,.ptr 6 1]],0,fun k=>u21 (q2i F k),fun k=>u21 (qaa F (q2i F k))⟩
theorem zbf(F:Nat):(qsj F).ok pp Tryz.f243 F:=
 okL q00 (q7g F) [(2,(qh3 F).ann F)] (aL (by kernel_rfl) (qsi F) aN) (fun _=>rfl) (fun _ _=>rfl) fun k d=>by kernel_rfl
def qsk(F:Nat):TL:=⟨105,[.segs [.const (.int .i64 (some 0) 0),.const (.int .i64 (some 0) 0),.const (.int .i64 (some 0) 0),.const (.int .i64 (some 0) 0),.const (.int .i64 (some 0) 0),.const (.int .i64 (some 0) 0),.const (.int .i64 (some 0) 0),.const (.int .i64 (some 0) 0),.const (.int .i64 (some 0) 0),.const (.int .i64 (some 0) 0),.const (.int .i64 (some 0) 0),.const (.int .i64 (some 0) 0),.const (.int .i64 (some 0) 0),.const .nils,.hole (.L 16),.hole (.L 16)] (.slot 4) true,.ptr 4 1 46,.row .i64 4 (.cell (.slot 5) 13) true,.segs [.J,.J,.J,.J,.J,.J,.J,.J,.J,.J,.J,.J,.J,.sl 2 4 .own,.hole (.L 16),.hole (.L 16)] (.slot 5) true,.ptr 5 3 46,.row .u8 1 (.cell (.cap (.slot 7) 0) 0) false,.segs [.sl 4 1 .whole] (.cap (.slot 7) 0) true,.segs [.J] (.cap (.slot 7) 1) true,.fn 7 261 [.ptr 5 1,.ptr 6 1],.slot 69 .I],[.segs [.const (.int .i64 (some 0) 0),.const (.int .i64 (some 0) 0),.const (.int .i64 (some 0) 0),.const (.int .i64 (some 0) 0),.const (.int .i64 (some 0) 0),.const (.int .i64 (some 0) 0),.const (.int .i64 (some 0) 0),.const (.int .i64 (some 0) 0),.const (.int .i64 (some 0) 0),.const (.int .i64 (some 0) 0),.const (.int .i64 (some 0) 0),.const (.int .i64 (some 0) 0),.const (.int .i64 (some 0) 0),.const .nils,.hole (.L 16),.hole (.L 16)] (.slot 4) true,.ptr 4 1 46,.row .i64 4 (.cell (.slot 5) 13) true,.segs [.J,.J,.J,.J,.J,.J,.J,.J,.J,.J,.J,.J,.J,.sl 2 4 .own,.hole (.L 16),.hole (.L 16)] (.slot 5) true,.ptr 5 3 46,.row .u8 1 (.cell (.cap (.slot 7) 0) 0) false,.segs [.sl 4 1 .whole] (.cap (.slot 7) 0) true,.segs [.J] (.cap (.slot 7) 1) true,.fn 7 261 [.ptr 5 1,.ptr 6 1]],4,fun k=>u21 (q4i F k),fun k=>u21 (qab F (q4i F k))⟩
theorem zbg(F:Nat):(qsk F).ok pp Tryz.f243 F:=
 okL q00 (q7g F) [] aN (fun _=>rfl) (fun _ _=>rfl) fun k d=>by kernel_rfl
def qsl(F:Nat):TL:=⟨105,[.segs [.const (.int .i64 (some 0) 0),.const (.int .i64 (some 0) 0),.const (.int .i64 (some 0) 0),.const (.int .i64 (some 0) 0),.const (.int .i64 (some 0) 0),.const (.int .i64 (some 0) 0),.const (.int .i64 (some 0) 0),.const (.int .i64 (some 0) 0),.const (.int .i64 (some 0) 0),.const (.int .i64 (some 0) 0),.const (.int .i64 (some 0) 0),.const (.int .i64 (some 0) 0),.const (.int .i64 (some 0) 0),.const .nils,.hole (.L 16),.hole (.L 16)] (.slot 4) true,.ptr 4 1 46,.row .i64 4 (.cell (.slot 5) 13) true,.segs [.J,.J,.J,.J,.J,.J,.J,.J,.J,.J,.J,.J,.J,.sl 2 4 .own,.hole (.L 16),.hole (.L 16)] (.slot 5) true,.ptr 5 3 46,.row .u8 1 (.cell (.cap (.slot 7) 0) 0) false,.segs [.sl 4 1 .whole] (.cap (.slot 7) 0) true,.segs [.J] (.cap (.slot 7) 1) true,.fn 7 261 [.ptr 5 1,.ptr 6 1],.slot 88 .I],[.segs [.const (.int .i64 (some 0) 0),.const (.int .i64 (some 0) 0),.const (.int .i64 (some 0) 0),.const (.int .i64 (some 0) 0),.const (.int .i64 (some 0) 0),.const (.int .i64 (some 0) 0),.const (.int .i64 (some 0) 0),.const (.int .i64 (some 0) 0),.const (.int .i64 (some 0) 0),.const (.int .i64 (some 0) 0),.const (.int .i64 (some 0) 0),.const (.int .i64 (some 0) 0),.const (.int .i64 (some 0) 0),.const .nils,.hole (.L 16),.hole (.L 16)] (.slot 4) true,.ptr 4 1 46,.row .i64 4 (.cell (.slot 5) 13) true,.segs [.J,.J,.J,.J,.J,.J,.J,.J,.J,.J,.J,.J,.J,.sl 2 4 .own,.hole (.L 16),.hole (.L 16)] (.slot 5) true,.ptr 5 3 46],6,fun k=>u21 (q4j F k),fun k=>u21 (qac F (q4j F k))⟩
theorem zbh(F:Nat):(qsl F).ok pp Tryz.f243 F:=
 okL q00 (q7g F) [] aN (fun _=>rfl) (fun _ _=>rfl) fun k d=>by kernel_rfl
def qog(F:Nat):ToldF:=⟨243,2,[.row .u8 1 (.slot 0) false,.slot 1 .I],[.agg [.J,.J,.J,.J,.J,.J,.J,.J,.J,.J,.J,.J,.J,.row .i64 4 true,.hole (.L 16),.hole (.L 16)]],u2 (ql6 F)⟩
theorem zgm(F:Nat):(qog F).ok pp:=
 okF q00 (q7g F) (fn:=Tryz.f243) [(2,(qh3 F).ann F),(0,(qsj F).ann F),(4,(qsk F).ann F),(6,(qsl F).ann F)] (by kernel_rfl) (aL (by kernel_rfl) (qsi F) (aL (by kernel_rfl) (zbf F) (aL (by kernel_rfl) (zbg F) (aL (by kernel_rfl) (zbh F) aN)))) fun d=>by kernel_rfl
def qlj(F:Nat):ToldF:=⟨277,0,[],[.ty (.is .u32 64)],u0 (z3p F)⟩
theorem zbi(F:Nat):(qlj F).ok pp:=
 okF q00 (zox F) (fn:=Tryz.f277) [] (by kernel_rfl) aN fun d=>by kernel_rfl
def qsm(F:Nat):ToldF:=⟨278,0,[],[.ty (.is .u16 64)],u0 (zff F)⟩
theorem zl1(F:Nat):(qsm F).ok pp:=
 okF q00 (zox F) (fn:=Tryz.f278) [] (by kernel_rfl) aN fun d=>by kernel_rfl
def zbj(F:Nat):List ToldF:=[qjy F,qlj F,qsm F]
theorem zbk(F:Nat):q02 pp (zbj F):=⟨z4c F,zbi F,zl1 F,trivial⟩
def qoh(F:Nat):ToldF:=⟨265,3,[.slot 0 .I,.slot 1 .I,.slot 2 .I],[.ty .I],u3 (ql2 F)⟩
theorem zgp(F:Nat):(qoh F).ok pp:=
 okF q00 (zbk F) (fn:=Tryz.f265) [] (by kernel_rfl) aN fun d=>by kernel_rfl
def qhs(F:Nat):ToldF:=⟨254,1,[.slot 0 .I],[.row .i64 1],u1 (qc1 F)⟩
theorem z4f(F:Nat):(qhs F).ok pp:=
 okF q00 (zox F) (fn:=Tryz.f254) [] (by kernel_rfl) aN fun d=>by kernel_rfl
def zgq(F:Nat):List ToldF:=[qfn F,qhs F]
theorem zgr(F:Nat):q02 pp (zgq F):=⟨qwe F,z4f F,trivial⟩
def qh4(F:Nat):ToldF:=⟨235,4,[.slot 0 .I,.slot 1 .I,.slot 2 .I,.slot 3 .I],[.ty .I],u4 (q2z F)⟩
theorem z0x(F:Nat):(qh4 F).ok pp:=
 okF q00 (zgr F) (fn:=Tryz.f235) [] (by kernel_rfl) aN fun d=>by kernel_rfl
def qoi(F:Nat):List ToldF:=[qoh F,qh4 F]
theorem qbg(F:Nat):q02 pp (qoi F):=⟨zgp F,z0x F,trivial⟩
def qbh(F:Nat):TL:=⟨126,[.row .i64 4 (.cell (.slot 0) 13) false,.segs [.J,.J,.J,.J,.J,.J,.J,.J,.J,.J,.J,.J,.J,.sl 1 4 .whole,.hole (.L 16),.hole (.L 16)] (.slot 0) false,.ptr 0 2 46,.segs [.hole (.L 4)] (.slot 4) true,.ptr 4 3 4,.segs [.hole (.L 4)] (.slot 6) true,.ptr 6 4 4,.segs [.hole (.L 4)] (.slot 7) true,.ptr 7 5 4,.slot 8 .I,.slot 9 .I,.slot 10 .I,.slot 11 .I,.segs [.hole (.L 4)] (.slot 12) true,.ptr 12 6 4,.slot 81 .I],[.row .i64 4 (.cell (.slot 0) 13) false,.segs [.J,.J,.J,.J,.J,.J,.J,.J,.J,.J,.J,.J,.J,.sl 1 4 .whole,.hole (.L 16),.hole (.L 16)] (.slot 0) false,.ptr 0 2 46,.segs [.hole (.L 4)] (.slot 4) true,.ptr 4 3 4,.segs [.hole (.L 4)] (.slot 6) true,.ptr 6 4 4,.segs [.hole (.L 4)] (.slot 7) true,.ptr 7 5 4,.slot 10 .I,.slot 11 .I,.segs [.hole (.L 4)] (.slot 12) true,.ptr 12 6 4],0,fun k=>u25 (q0j F k),fun k=>u25 (q3l F (q0j F k))⟩
theorem qoj(F:Nat):(qbh F).ok pp Tryz.f244 F:=
 okL q00 (qbg F) [] aN (fun _=>rfl) (fun _ _=>rfl) fun k d=>by kernel_rfl
def qa4(F:Nat):ToldF:=⟨244,2,[.row .i64 4 (.cell (.slot 0) 13) false,.segs [.J,.J,.J,.J,.J,.J,.J,.J,.J,.J,.J,.J,.J,.sl 1 4 .whole,.hole (.L 16),.hole (.L 16)] (.slot 0) false,.ptr 0 2 46,.slot 1 .I],[.ty (.L 4)],u17 (q6e F)⟩
theorem qqw(F:Nat):(qa4 F).ok pp:=
 okF q00 (qbg F) (fn:=Tryz.f244) [(0,(qbh F).ann F)] (by kernel_rfl) (aL (by kernel_rfl) (qoj F) aN) fun d=>by kernel_rfl
def z4g(F:Nat):List ToldF:=[qoc F,qog F,qa4 F]
theorem qlk(F:Nat):q02 pp (z4g F):=⟨zgl F,zgm F,qqw F,trivial⟩
def qll(F:Nat):TL:=⟨29,[.segs [.hole (.L 64)] (.slot 2) true,.ptr 2 1 64,.segs [.hole (.L 64)] (.slot 4) true,.ptr 4 2 64,.row .i64 4 (.cell (.slot 6) 13) true,.segs [.J,.J,.J,.J,.J,.J,.J,.J,.J,.J,.J,.J,.J,.sl 3 4 .own,.hole (.L 16),.hole (.L 16)] (.slot 6) true,.ptr 6 4 46,.slot 20 .I],[.segs [.hole (.L 64)] (.slot 2) true,.ptr 2 1 64,.segs [.hole (.L 64)] (.slot 4) true,.ptr 4 2 64],0,fun k=>u19 (q30 F k),fun k=>u19 (q86 F (q30 F k))⟩
theorem z4h(F:Nat):(qll F).ok pp Tryz.f222 F:=
 okL q00 (qlk F) [] aN (fun _=>rfl) (fun _ _=>rfl) fun k d=>by kernel_rfl
def qk0(F:Nat):ToldF:=⟨222,1,[.row .u8 1 (.slot 0) false],[.ty (.L 64),.ty .I],u1 (q9y F)⟩
theorem z7i(F:Nat):(qk0 F).ok pp:=
 okF q00 (qlk F) (fn:=Tryz.f222) [(0,(qll F).ann F)] (by kernel_rfl) (aL (by kernel_rfl) (z4h F) aN) fun d=>by kernel_rfl
def z2p(F:Nat):List ToldF:=[qa2 F]
theorem z2q(F:Nat):q02 pp (z2p F):=⟨qlf F,trivial⟩
def qht(F:Nat):ToldF:=⟨228,3,[.slot 0 .I,.slot 1 .I,.row .u8 1 (.cell (.slot 2) 0) false,.segs [.sl 1 1 .whole] (.slot 2) false,.ptr 2 2 1],[.ty .I],u3 (q1m F)⟩
theorem z4i(F:Nat):(qht F).ok pp:=
 okF q00 (z2q F) (fn:=Tryz.f228) [] (by kernel_rfl) aN fun d=>by kernel_rfl
def qd5(F:Nat):ToldF:=⟨165,1,[.slot 0 .I],[.ty .I],u1 (q3w F)⟩
theorem qsn(F:Nat):(qd5 F).ok pp:=
 okF q00 (zox F) (fn:=Tryz.f165) [] (by kernel_rfl) aN fun d=>by kernel_rfl
def zbl(F:Nat):List ToldF:=[qht F,qd5 F]
theorem qh5(F:Nat):q02 pp (zbl F):=⟨z4i F,qsn F,trivial⟩
def qso(F:Nat):TL:=⟨95,[.segs [.const (.bool (some false) false),.const (.bool (some false) false),.hole (.L 3),.hole (.L 3),.hole (.L 2),.hole (.L 16)] (.slot 2) true,.ptr 2 1 26,.segs [.hole (.bool),.hole (.bool),.hole (.L 3),.hole (.L 3),.hole (.L 2),.hole (.L 16)] (.slot 4) true,.ptr 4 2 26,.row .u8 1 (.cell (.cap (.slot 5) 0) 0) false,.segs [.sl 3 1 .whole] (.cap (.slot 5) 0) true,.fn 5 228 [.ptr 4 1],.slot 22 .I],[.segs [.const (.bool (some false) false),.const (.bool (some false) false),.hole (.L 3),.hole (.L 3),.hole (.L 2),.hole (.L 16)] (.slot 2) true,.ptr 2 1 26,.segs [.hole (.bool),.hole (.bool),.hole (.L 3),.hole (.L 3),.hole (.L 2),.hole (.L 16)] (.slot 4) true,.ptr 4 2 26,.row .u8 1 (.cell (.cap (.slot 5) 0) 0) false,.segs [.sl 3 1 .whole] (.cap (.slot 5) 0) true,.fn 5 228 [.ptr 4 1]],0,fun k=>u12 (qc2 F k),fun k=>u12 (qrp F (qc2 F k))⟩
theorem zbm(F:Nat):(qso F).ok pp Tryz.f168 F:=
 okL q00 (qh5 F) [] aN (fun _=>rfl) (fun _ _=>rfl) fun k d=>by kernel_rfl
def qsp(F:Nat):TL:=⟨95,[.segs [.const (.bool (some false) false),.const (.bool (some false) false),.hole (.L 3),.hole (.L 3),.hole (.L 2),.hole (.L 16)] (.slot 2) true,.ptr 2 1 26,.segs [.hole (.bool),.hole (.bool),.hole (.L 3),.hole (.L 3),.hole (.L 2),.hole (.L 16)] (.slot 4) true,.ptr 4 2 26,.row .u8 1 (.cell (.cap (.slot 5) 0) 0) false,.segs [.sl 3 1 .whole] (.cap (.slot 5) 0) true,.fn 5 228 [.ptr 4 1],.slot 75 .I],[.segs [.const (.bool (some false) false),.const (.bool (some false) false),.hole (.L 3),.hole (.L 3),.hole (.L 2),.hole (.L 16)] (.slot 2) true,.ptr 2 1 26,.segs [.hole (.bool),.hole (.bool),.hole (.L 3),.hole (.L 3),.hole (.L 2),.hole (.L 16)] (.slot 4) true,.ptr 4 2 26],2,fun k=>u12 (qc3 F k),fun k=>u12 (qrq F (qc3 F k))⟩
theorem zbn(F:Nat):(qsp F).ok pp Tryz.f168 F:=
 okL q00 (qh5 F) [] aN (fun _=>rfl) (fun _ _=>rfl) fun k d=>by kernel_rfl
def q9n(F:Nat):ToldF:=⟨168,1,[.row .u8 1 (.slot 0) false],[.ty (.agg [.bool,.bool,.L 3,.L 3,.L 2,.L 16]),.ty .I],u1 (q8f F)⟩
theorem qk1(F:Nat):(q9n F).ok pp:=
 okF q00 (qh5 F) (fn:=Tryz.f168) [(0,(qso F).ann F),(2,(qsp F).ann F)] (by kernel_rfl) (aL (by kernel_rfl) (zbm F) (aL (by kernel_rfl) (zbn F) aN)) fun d=>by kernel_rfl
def zbo(F:Nat):List ToldF:=[q2k F]
theorem qsq(F:Nat):q02 pp (zbo F):=⟨q5x F,trivial⟩
def qsr(F:Nat):TL:=⟨61,[.segs [.hole (.bool),.hole (.bool),.hole (.L 3),.hole (.L 3),.hole (.L 2),.hole (.L 16)] (.slot 1) true,.ptr 1 1 26,.segs [.hole (.L 8)] (.slot 2) true,.ptr 2 2 8,.segs [.hole (.L 8)] (.slot 4) true,.ptr 4 3 8,.slot 5 .I,.slot 13 .I],[.segs [.hole (.L 8)] (.slot 2) true,.ptr 2 1 8,.segs [.hole (.L 8)] (.slot 4) true,.ptr 4 2 8,.slot 5 .I],0,fun k=>u10 (qc4 F k),fun k=>u10 (qrs F (qc4 F k))⟩
theorem zbp(F:Nat):(qsr F).ok pp Tryz.f156 F:=
 okL q00 (qsq F) [] aN (fun _=>rfl) (fun _ _=>rfl) fun k d=>by kernel_rfl
def q9o(F:Nat):ToldF:=⟨156,1,[.slot 0 (.agg [.bool,.bool,.L 3,.L 3,.L 2,.L 16])],[.ty (.L 8),.ty .I],u1 (ql3 F)⟩
theorem qk2(F:Nat):(q9o F).ok pp:=
 okF q00 (qsq F) (fn:=Tryz.f156) [(0,(qsr F).ann F)] (by kernel_rfl) (aL (by kernel_rfl) (zbp F) aN) fun d=>by kernel_rfl
def qh6(F:Nat):ToldF:=⟨152,2,[.slot 0 (.bool),.slot 1 .I],[.ty .I],u2 (z2b F)⟩
theorem z0y(F:Nat):(qh6 F).ok pp:=
 okF q00 (zox F) (fn:=Tryz.f152) [] (by kernel_rfl) aN fun d=>by kernel_rfl
def qok(F:Nat):ToldF:=⟨79,1,[.slot 0 .I],[.ty (.L 4)],u1 (z9p F)⟩
theorem zgu(F:Nat):(qok F).ok pp:=
 okF q00 (zox F) (fn:=Tryz.f79) [] (by kernel_rfl) aN fun d=>by kernel_rfl
def zbs(F:Nat):List ToldF:=[q2b F,q9o F,qh6 F,qok F]
theorem qh7(F:Nat):q02 pp (zbs F):=⟨q47 F,qk2 F,z0y F,zgu F,trivial⟩
def qh8(F:Nat):TL:=⟨55,[.segs [.hole (.bool),.hole (.bool),.hole (.L 3),.hole (.L 3),.hole (.L 2),.hole (.L 16)] (.slot 1) true,.ptr 1 1 26,.segs [.hole (.L 64)] (.slot 2) true,.ptr 2 2 64,.segs [.hole (.L 8)] (.slot 3) true,.ptr 3 3 8,.segs [.hole (.L 64)] (.slot 5) true,.ptr 5 4 64,.slot 6 .I,.slot 7 .I,.slot 8 .I,.slot 16 (.L 16),.slot 17 .I,.slot 30 .I],[.segs [.hole (.bool),.hole (.bool),.hole (.L 3),.hole (.L 3),.hole (.L 2),.hole (.L 16)] (.slot 1) true,.ptr 1 1 26,.segs [.hole (.L 64)] (.slot 2) true,.ptr 2 2 64,.segs [.hole (.L 8)] (.slot 3) true,.ptr 3 3 8,.segs [.hole (.L 64)] (.slot 5) true,.ptr 5 4 64,.slot 16 (.L 16),.slot 17 .I],2,fun k=>u15 (qc5 F k),fun k=>u15 (qrt F (qc5 F k))⟩
theorem qss(F:Nat):(qh8 F).ok pp Tryz.f245 F:=
 okL q00 (qh7 F) [] aN (fun _=>rfl) (fun _ _=>rfl) fun k d=>by kernel_rfl
def qst(F:Nat):TL:=⟨55,[.segs [.hole (.bool),.hole (.bool),.hole (.L 3),.hole (.L 3),.hole (.L 2),.hole (.L 16)] (.slot 1) true,.ptr 1 1 26,.segs [.hole (.L 64)] (.slot 2) true,.ptr 2 2 64,.segs [.hole (.L 8)] (.slot 3) true,.ptr 3 3 8,.segs [.hole (.L 64)] (.slot 5) true,.ptr 5 4 64,.slot 16 (.L 16),.slot 17 .I],[.segs [.hole (.L 64)] (.slot 2) true,.ptr 2 1 64,.segs [.hole (.L 64)] (.slot 5) true,.ptr 5 2 64],0,fun k=>u11 (qc6 F k),fun k=>u11 (qru F (qc6 F k))⟩
theorem zbt(F:Nat):(qst F).ok pp Tryz.f245 F:=
 okL q00 (qh7 F) [(2,(qh8 F).ann F)] (aL (by kernel_rfl) (qss F) aN) (fun _=>rfl) (fun _ _=>rfl) fun k d=>by kernel_rfl
def qeg(F:Nat):ToldF:=⟨245,1,[.slot 0 (.agg [.bool,.bool,.L 3,.L 3,.L 2,.L 16])],[.ty (.L 64)],u1 (qvi F)⟩
theorem qwj(F:Nat):(qeg F).ok pp:=
 okF q00 (qh7 F) (fn:=Tryz.f245) [(2,(qh8 F).ann F),(0,(qst F).ann F)] (by kernel_rfl) (aL (by kernel_rfl) (qss F) (aL (by kernel_rfl) (zbt F) aN)) fun d=>by kernel_rfl
def z7l(F:Nat):List ToldF:=[q9n F,qeg F]
theorem z7m(F:Nat):q02 pp (z7l F):=⟨qk1 F,qwj F,trivial⟩
def qlm(F:Nat):ToldF:=⟨223,1,[.row .u8 1 (.slot 0) false],[.ty (.L 64),.ty .I],u1 (z3s F)⟩
theorem zbu(F:Nat):(qlm F).ok pp:=
 okF q00 (z7m F) (fn:=Tryz.f223) [] (by kernel_rfl) aN fun d=>by kernel_rfl
def zbv(F:Nat):List ToldF:=[qms F,q4q F,qqq F]
theorem qsu(F:Nat):q02 pp (zbv F):=⟨z9w F,qa0 F,zft F,trivial⟩
def qsv(F:Nat):TL:=⟨52,[.slot 1 .I,.slot 2 .I,.slot 3 (.int .u64),.row .u8 1 (.slot 11) true,.slot 24 .I,.slot 25 .I],[.row .u8 1 (.slot 11) true],0,fun k=>u6 (qbz F k),fun k=>u6 (qro F (qbz F k))⟩
theorem zbw(F:Nat):(qsv F).ok pp Tryz.f151 F:=
 okL q00 (qsu F) [] aN (fun _=>rfl) (fun _ _=>rfl) fun k d=>by kernel_rfl
def q4f(F:Nat):ToldF:=⟨151,4,[.row .u8 1 (.slot 0) false,.slot 1 .I,.slot 2 .I,.slot 3 (.int .u64)],[.row .u8 1,.ty .I],u4 (q8c F)⟩
theorem q8w(F:Nat):(q4f F).ok pp:=
 okF q00 (qsu F) (fn:=Tryz.f151) [(0,(qsv F).ann F)] (by kernel_rfl) (aL (by kernel_rfl) (zbw F) aN) fun d=>by kernel_rfl
def qzo(F:Nat):List ToldF:=[qa2 F]
theorem qhu(F:Nat):q02 pp (qzo F):=⟨qlf F,trivial⟩
def qhv(F:Nat):TL:=⟨30,[.row .u8 1 (.cell (.slot 2) 0) false,.segs [.sl 1 1 .whole,.hole (.bool),.hole (.bool),.hole (.L 3),.hole (.L 3),.hole (.L 2),.hole (.L 16),.hole (.bool)] (.slot 2) true,.ptr 2 2 28,.slot 5 .I,.row .i64 1 (.slot 10) false,.slot 11 .I,.slot 12 .I],[.slot 5 .I],0,fun k=>u12 (q70 F k),fun k=>u12 (qhq F (q70 F k))⟩
theorem qzp(F:Nat):(qhv F).ok pp Tryz.f266 F:=
 okL q00 (qhu F) [] aN (fun _=>rfl) (fun _ _=>rfl) fun k d=>by kernel_rfl
def q3f(F:Nat):ToldF:=⟨266,2,[.row .u8 1 (.part (.slot 0) 0) false,.cells 0 [.sl 1 1 .whole,.hole (.bool),.hole (.bool),.hole (.L 3),.hole (.L 3),.hole (.L 2),.hole (.L 16),.hole (.bool)],.row .i64 1 (.slot 1) false],[.ty .I],u9 (q1c F)⟩
theorem q74(F:Nat):(q3f F).ok pp:=
 okF q00 (qhu F) (fn:=Tryz.f266) [(0,(qhv F).ann F)] (by kernel_rfl) (aL (by kernel_rfl) (qzp F) aN) fun d=>by kernel_rfl
def zgv(F:Nat):List ToldF:=[q9n F,q4f F,q3f F]
theorem zgw(F:Nat):q02 pp (zgv F):=⟨qk1 F,q8w F,q74 F,trivial⟩
def qsw(F:Nat):ToldF:=⟨246,2,[.row .u8 1 (.slot 0) false,.slot 1 (.bool)],[.agg [.row .u8 1 false,.hole (.bool),.hole (.bool),.hole (.L 3),.hole (.L 3),.hole (.L 2),.hole (.L 16),.hole (.bool)]],u2 (zfk F)⟩
theorem zl2(F:Nat):(qsw F).ok pp:=
 okF q00 (zgw F) (fn:=Tryz.f246) [] (by kernel_rfl) aN fun d=>by kernel_rfl
def qwk(F:Nat):List ToldF:=[q9o F]
theorem qwl(F:Nat):q02 pp (qwk F):=⟨qk2 F,trivial⟩
def qe0(F:Nat):ToldF:=⟨247,1,[.row .u8 1 (.part (.slot 0) 0) false,.cells 0 [.sl 1 1 .whole,.hole (.bool),.hole (.bool),.hole (.L 3),.hole (.L 3),.hole (.L 2),.hole (.L 16),.hole (.bool)]],[.ty .I],u8 (qnq F)⟩
theorem qzq(F:Nat):(qe0 F).ok pp:=
 okF q00 (qwl F) (fn:=Tryz.f247) [] (by kernel_rfl) aN fun d=>by kernel_rfl
def qqx(F:Nat):List ToldF:=[q9o F,qh6 F,qeg F]
theorem qd6(F:Nat):q02 pp (qqx F):=⟨qk2 F,z0y F,qwj F,trivial⟩
def qd7(F:Nat):TL:=⟨42,[.row .u8 1 (.cell (.slot 1) 0) false,.segs [.sl 1 1 .whole,.hole (.bool),.hole (.bool),.hole (.L 3),.hole (.L 3),.hole (.L 2),.hole (.L 16),.hole (.bool)] (.slot 1) true,.ptr 1 2 28,.segs [.hole (.L 64)] (.slot 2) true,.ptr 2 3 64,.segs [.hole (.L 64)] (.slot 3) true,.ptr 3 4 64,.segs [.hole (.L 8)] (.slot 4) true,.ptr 4 5 8,.slot 19 (.L 16),.slot 20 .I],[.segs [.hole (.L 64)] (.slot 2) true,.ptr 2 1 64,.segs [.hole (.L 64)] (.slot 3) true,.ptr 3 2 64],0,fun k=>u13 (q50 F k),fun k=>u13 (qcb F (q50 F k))⟩
theorem qqy(F:Nat):(qd7 F).ok pp Tryz.f248 F:=
 okL q00 (qd6 F) [] aN (fun _=>rfl) (fun _ _=>rfl) fun k d=>by kernel_rfl
def qbi(F:Nat):ToldF:=⟨248,1,[.row .u8 1 (.part (.slot 0) 0) false,.cells 0 [.sl 1 1 .whole,.hole (.bool),.hole (.bool),.hole (.L 3),.hole (.L 3),.hole (.L 2),.hole (.L 16),.hole (.bool)]],[.ty (.L 64)],u8 (qjf F)⟩
theorem que(F:Nat):(qbi F).ok pp:=
 okF q00 (qd6 F) (fn:=Tryz.f248) [(0,(qd7 F).ann F)] (by kernel_rfl) (aL (by kernel_rfl) (qqy F) aN) fun d=>by kernel_rfl
def qzr(F:Nat):List ToldF:=[qa2 F]
theorem qzs(F:Nat):q02 pp (qzr F):=⟨qlf F,trivial⟩
def q3g(F:Nat):ToldF:=⟨169,3,[.row .u8 1 (.part (.slot 0) 0) false,.cells 0 [.sl 1 1 .whole,.hole (.bool),.hole (.bool),.hole (.L 3),.hole (.L 3),.hole (.L 2),.hole (.L 16),.hole (.bool)],.slot 1 .I,.slot 2 .I],[.ty .I],u10 (q08 F)⟩
theorem q75(F:Nat):(q3g F).ok pp:=
 okF q00 (qzs F) (fn:=Tryz.f169) [] (by kernel_rfl) aN fun d=>by kernel_rfl
def zgx(F:Nat):List ToldF:=[q2k F]
theorem qwm(F:Nat):q02 pp (zgx F):=⟨q5x F,trivial⟩
def qwn(F:Nat):TL:=⟨23,[.segs [.hole (.L 3)] (.slot 3) true,.ptr 3 1 3,.segs [.hole (.L 4)] (.slot 4) true,.ptr 4 2 4,.segs [.hole (.L 4)] (.slot 5) true,.ptr 5 3 4,.slot 9 (.L 3),.slot 10 .I],[.segs [.hole (.L 4)] (.slot 4) true,.ptr 4 1 4,.segs [.hole (.L 4)] (.slot 5) true,.ptr 5 2 4],0,fun k=>u5 (qf9 F k),fun k=>u5 (qvp F (qf9 F k))⟩
theorem zgy(F:Nat):(qwn F).ok pp Tryz.f279 F:=
 okL q00 (qwm F) [] aN (fun _=>rfl) (fun _ _=>rfl) fun k d=>by kernel_rfl
def qh9(F:Nat):ToldF:=⟨279,2,[.slot 0 (.L 3),.slot 1 (.L 3)],[.ty (.L 4)],u2 (z2d F)⟩
theorem z0z(F:Nat):(qh9 F).ok pp:=
 okF q00 (qwm F) (fn:=Tryz.f279) [(0,(qwn F).ann F)] (by kernel_rfl) (aL (by kernel_rfl) (zgy F) aN) fun d=>by kernel_rfl
def zbx(F:Nat):List ToldF:=[qh9 F]
theorem zby(F:Nat):q02 pp (zbx F):=⟨z0z F,trivial⟩
def qeh(F:Nat):ToldF:=⟨267,1,[.slot 0 (.L 3)],[.ty (.L 4)],u1 (q8g F)⟩
theorem qwo(F:Nat):(qeh F).ok pp:=
 okF q00 (zby F) (fn:=Tryz.f267) [] (by kernel_rfl) aN fun d=>by kernel_rfl
def q9v(F:Nat):ToldF:=⟨268,1,[.slot 0 .I],[.ty .I],u1 (qcc F)⟩
theorem qln(F:Nat):(q9v F).ok pp:=
 okF q00 (zox F) (fn:=Tryz.f268) [] (by kernel_rfl) aN fun d=>by kernel_rfl
def zbz(F:Nat):List ToldF:=[q2b F]
theorem qsx(F:Nat):q02 pp (zbz F):=⟨q47 F,trivial⟩
def qsy(F:Nat):TL:=⟨19,[.slot 1 .I,.segs [.hole (.L 4)] (.slot 2) true,.ptr 2 1 4,.segs [.hole (.L 4)] (.slot 4) true,.ptr 4 2 4,.slot 6 .I],[.segs [.hole (.L 4)] (.slot 2) true,.ptr 2 1 4,.segs [.hole (.L 4)] (.slot 4) true,.ptr 4 2 4],0,fun k=>u4 (qcd F k),fun k=>u4 (qrv F (qcd F k))⟩
theorem zc0(F:Nat):(qsy F).ok pp Tryz.f270 F:=
 okL q00 (qsx F) [] aN (fun _=>rfl) (fun _ _=>rfl) fun k d=>by kernel_rfl
def qei(F:Nat):ToldF:=⟨270,2,[.slot 0 (.L 4),.slot 1 .I],[.ty (.L 4)],u2 (q3d F)⟩
theorem qwp(F:Nat):(qei F).ok pp:=
 okF q00 (qsx F) (fn:=Tryz.f270) [(0,(qsy F).ann F)] (by kernel_rfl) (aL (by kernel_rfl) (zc0 F) aN) fun d=>by kernel_rfl
def qgg(F:Nat):TL:=⟨22,[.segs [.hole (.L 16)] (.slot 3) true,.ptr 3 1 16,.segs [.hole (.L 64)] (.slot 4) true,.ptr 4 2 64,.segs [.hole (.L 64)] (.slot 5) true,.ptr 5 3 64,.slot 10 (.L 16),.slot 11 .I],[.segs [.hole (.L 64)] (.slot 4) true,.ptr 4 1 64,.segs [.hole (.L 64)] (.slot 5) true,.ptr 5 2 64],0,fun k=>u5 (q6f F k),fun k=>u5 (qg4 F (q6f F k))⟩
theorem qwr(F:Nat):(qgg F).ok pp Tryz.f269 F:=
 okL q00 (zox F) [] aN (fun _=>rfl) (fun _ _=>rfl) fun k d=>by kernel_rfl
def q7z(F:Nat):ToldF:=⟨269,2,[.row .u8 1 (.part (.slot 0) 0) false,.cells 0 [.sl 1 1 .whole,.hole (.bool),.hole (.bool),.hole (.L 3),.hole (.L 3),.hole (.L 2),.hole (.L 16),.hole (.bool)],.slot 1 (.L 16)],[.ty (.L 64)],u9 (q9d F)⟩
theorem qhw(F:Nat):(q7z F).ok pp:=
 okF q00 (zox F) (fn:=Tryz.f269) [(0,(qgg F).ann F)] (by kernel_rfl) (aL (by kernel_rfl) (qwr F) aN) fun d=>by kernel_rfl
def qzt(F:Nat):List ToldF:=[q3f F,q3g F,qeh F,q9v F,qei F,q7z F]
theorem qzu(F:Nat):q02 pp (qzt F):=⟨q74 F,q75 F,qwo F,qln F,qwp F,qhw F,trivial⟩
def qgh(F:Nat):ToldF:=⟨249,1,[.row .u8 1 (.part (.slot 0) 0) false,.cells 0 [.sl 1 1 .whole,.hole (.bool),.hole (.bool),.hole (.L 3),.hole (.L 3),.hole (.L 2),.hole (.L 16),.hole (.bool)]],[.ty (.L 64)],u8 (qrw F)⟩
theorem z2t(F:Nat):(qgh F).ok pp:=
 okF q00 (qzu F) (fn:=Tryz.f249) [] (by kernel_rfl) aN fun d=>by kernel_rfl
def qzv(F:Nat):List ToldF:=[q3f F,q3g F,qeh F,q9v F,qei F,q7z F]
theorem qzw(F:Nat):q02 pp (qzv F):=⟨q74 F,q75 F,qwo F,qln F,qwp F,qhw F,trivial⟩
def qgi(F:Nat):ToldF:=⟨250,1,[.row .u8 1 (.part (.slot 0) 0) false,.cells 0 [.sl 1 1 .whole,.hole (.bool),.hole (.bool),.hole (.L 3),.hole (.L 3),.hole (.L 2),.hole (.L 16),.hole (.bool)]],[.ty (.L 64)],u8 (qrx F)⟩
theorem z2u(F:Nat):(qgi F).ok pp:=
 okF q00 (qzw F) (fn:=Tryz.f250) [] (by kernel_rfl) aN fun d=>by kernel_rfl
def zc1(F:Nat):List ToldF:=[qh9 F]
theorem zc2(F:Nat):q02 pp (zc1 F):=⟨z0z F,trivial⟩
def qol(F:Nat):ToldF:=⟨272,1,[.slot 0 (.L 3)],[.ty (.L 4)],u1 (ql7 F)⟩
theorem zgz(F:Nat):(qol F).ok pp:=
 okF q00 (zc2 F) (fn:=Tryz.f272) [] (by kernel_rfl) aN fun d=>by kernel_rfl
def zc3(F:Nat):List ToldF:=[q2b F]
theorem qha(F:Nat):q02 pp (zc3 F):=⟨q47 F,trivial⟩
def qhb(F:Nat):TL:=⟨57,[.segs [.hole (.L 4)] (.slot 3) true,.ptr 3 1 4,.segs [.hole (.L 4)] (.slot 4) true,.ptr 4 2 4,.segs [.hole (.L 4)] (.slot 5) true,.ptr 5 3 4,.segs [.hole (.L 64)] (.slot 6) true,.ptr 6 4 64,.segs [.hole (.L 64)] (.slot 7) true,.ptr 7 5 64,.slot 8 .I,.slot 11 .I,.slot 17 .I],[.segs [.hole (.L 4)] (.slot 3) true,.ptr 3 1 4,.segs [.hole (.L 4)] (.slot 4) true,.ptr 4 2 4,.segs [.hole (.L 4)] (.slot 5) true,.ptr 5 3 4,.segs [.hole (.L 64)] (.slot 6) true,.ptr 6 4 64,.segs [.hole (.L 64)] (.slot 7) true,.ptr 7 5 64,.slot 11 .I],2,fun k=>u8 (qce F k),fun k=>u8 (qry F (qce F k))⟩
theorem qsz(F:Nat):(qhb F).ok pp Tryz.f271 F:=
 okL q00 (qha F) [] aN (fun _=>rfl) (fun _ _=>rfl) fun k d=>by kernel_rfl
def qt0(F:Nat):TL:=⟨57,[.segs [.hole (.L 4)] (.slot 3) true,.ptr 3 1 4,.segs [.hole (.L 4)] (.slot 4) true,.ptr 4 2 4,.segs [.hole (.L 4)] (.slot 5) true,.ptr 5 3 4,.segs [.hole (.L 64)] (.slot 6) true,.ptr 6 4 64,.segs [.hole (.L 64)] (.slot 7) true,.ptr 7 5 64,.slot 11 .I],[.segs [.hole (.L 64)] (.slot 6) true,.ptr 6 1 64,.segs [.hole (.L 64)] (.slot 7) true,.ptr 7 2 64],0,fun k=>u6 (qcf F k),fun k=>u6 (qrz F (qcf F k))⟩
theorem zc4(F:Nat):(qt0 F).ok pp Tryz.f271 F:=
 okL q00 (qha F) [(2,(qhb F).ann F)] (aL (by kernel_rfl) (qsz F) aN) (fun _=>rfl) (fun _ _=>rfl) fun k d=>by kernel_rfl
def qom(F:Nat):ToldF:=⟨271,3,[.slot 0 (.L 4),.slot 1 (.L 4),.slot 2 (.L 4)],[.ty (.L 64)],u3 (z9q F)⟩
theorem zh0(F:Nat):(qom F).ok pp:=
 okF q00 (qha F) (fn:=Tryz.f271) [(2,(qhb F).ann F),(0,(qt0 F).ann F)] (by kernel_rfl) (aL (by kernel_rfl) (qsz F) (aL (by kernel_rfl) (zc4 F) aN)) fun d=>by kernel_rfl
def qqz(F:Nat):List ToldF:=[q3f F,q3g F,qol F,qom F]
theorem qr0(F:Nat):q02 pp (qqz F):=⟨q74 F,q75 F,zgz F,zh0 F,trivial⟩
def qbj(F:Nat):ToldF:=⟨251,1,[.row .u8 1 (.part (.slot 0) 0) false,.cells 0 [.sl 1 1 .whole,.hole (.bool),.hole (.bool),.hole (.L 3),.hole (.L 3),.hole (.L 2),.hole (.L 16),.hole (.bool)]],[.ty (.L 64)],u8 (qjg F)⟩
theorem quf(F:Nat):(qbj F).ok pp:=
 okF q00 (qr0 F) (fn:=Tryz.f251) [] (by kernel_rfl) aN fun d=>by kernel_rfl
def z7n(F:Nat):List ToldF:=[qsw F,qe0 F,qbi F,qgh F,qgi F,qbj F]
theorem qon(F:Nat):q02 pp (z7n F):=⟨zl2 F,qzq F,que F,z2t F,z2u F,quf F,trivial⟩
def qoo(F:Nat):TL:=⟨57,[.segs [.hole (.L 64)] (.slot 4) true,.ptr 4 1 64,.row .u8 1 (.cell (.slot 6) 0) false,.segs [.sl 2 1 .whole,.hole (.bool),.hole (.bool),.hole (.L 3),.hole (.L 3),.hole (.L 2),.hole (.L 16),.hole (.bool)] (.slot 6) true,.ptr 6 3 28,.slot 7 .I,.segs [.hole (.L 64)] (.slot 9) true,.ptr 9 4 64,.slot 36 (.L 16),.slot 37 .I],[.segs [.hole (.L 64)] (.slot 4) true,.ptr 4 1 64,.segs [.hole (.L 64)] (.slot 9) true,.ptr 9 2 64],0,fun k=>u13 (q3p F k),fun k=>u13 (qnr F (q3p F k))⟩
theorem z7o(F:Nat):(qoo F).ok pp Tryz.f224 F:=
 okL q00 (qon F) [] aN (fun _=>rfl) (fun _ _=>rfl) fun k d=>by kernel_rfl
def qlo(F:Nat):ToldF:=⟨224,2,[.row .u8 1 (.slot 0) false,.slot 1 (.bool)],[.ty (.L 64),.ty .I],u2 (qia F)⟩
theorem zc5(F:Nat):(qlo F).ok pp:=
 okF q00 (qon F) (fn:=Tryz.f224) [(0,(qoo F).ann F)] (by kernel_rfl) (aL (by kernel_rfl) (z7o F) aN) fun d=>by kernel_rfl
def z7p(F:Nat):List ToldF:=[qo1 F,qo5 F,qo6 F,qh1 F,qjw F,qge F,qob F,qk0 F,qlm F,qlo F]
theorem z7q(F:Nat):q02 pp (z7p F):=⟨zg6 F,zga F,zgb F,z0q F,z4a F,z2i F,zgk F,z7i F,zbu F,zc5 F,trivial⟩
def qlp(F:Nat):ToldF:=⟨148,5,[.slot 0 .I,.slot 1 (.agg [.I,.I,.bool]),.row .u8 1 (.slot 2) false,.row .u8 1 (.slot 3) false,.row .u8 1 (.slot 4) false],[.ty (.L 64),.ty .I],u5 (q15 F)⟩
theorem zc6(F:Nat):(qlp F).ok pp:=
 okF q00 (z7q F) (fn:=Tryz.f148) [] (by kernel_rfl) aN fun d=>by kernel_rfl
def z7r(F:Nat):List ToldF:=[qa1 F,qlp F]
theorem z7s(F:Nat):q02 pp (z7r F):=⟨qlb F,zc6 F,trivial⟩
def qlq(F:Nat):ToldF:=⟨68,2,[.slot 0 .I,.row .u8 1 (.slot 1) false],[.ty (.L 64),.ty .I],u2 (qid F)⟩
theorem zc7(F:Nat):(qlq F).ok pp:=
 okF q00 (z7s F) (fn:=Tryz.f68) [] (by kernel_rfl) aN fun d=>by kernel_rfl
def zh1(F:Nat):List ToldF:=[q9m F]
theorem qk3(F:Nat):q02 pp (zh1 F):=⟨qjp F,trivial⟩
def qk4(F:Nat):TL:=⟨38,[.slot 2 .I,.segs [.hole (.L 64)] (.slot 3) true,.ptr 3 1 64,.segs [.hole (.L 64)] (.slot 4) true,.ptr 4 2 64,.slot 7 .I,.slot 8 .I,.slot 10 .I,.slot 13 .I],[.slot 2 .I,.segs [.hole (.L 64)] (.slot 3) true,.ptr 3 1 64,.segs [.hole (.L 64)] (.slot 4) true,.ptr 4 2 64,.slot 7 .I,.slot 10 .I],2,fun k=>u7 (q7m F k),fun k=>u7 (qci F (q7m F k))⟩
theorem qws(F:Nat):(qk4 F).ok pp Tryz.f69 F:=
 okL q00 (qk3 F) [] aN (fun _=>rfl) (fun _ _=>rfl) fun k d=>by kernel_rfl
def qwt(F:Nat):TL:=⟨38,[.slot 2 .I,.segs [.hole (.L 64)] (.slot 3) true,.ptr 3 1 64,.segs [.hole (.L 64)] (.slot 4) true,.ptr 4 2 64,.slot 7 .I,.slot 10 .I],[.slot 7 .I],0,fun k=>u5 (q7n F k),fun k=>u5 (qcj F (q7n F k))⟩
theorem zh2(F:Nat):(qwt F).ok pp Tryz.f69 F:=
 okL q00 (qk3 F) [(2,(qk4 F).ann F)] (aL (by kernel_rfl) (qws F) aN) (fun _=>rfl) (fun _ _=>rfl) fun k d=>by kernel_rfl
def qt1(F:Nat):ToldF:=⟨69,3,[.slot 0 (.L 64),.slot 1 (.L 64),.slot 2 .I],[.ty .I],u3 (qqh F)⟩
theorem zl3(F:Nat):(qt1 F).ok pp:=
 okF q00 (qk3 F) (fn:=Tryz.f69) [(2,(qk4 F).ann F),(0,(qwt F).ann F)] (by kernel_rfl) (aL (by kernel_rfl) (qws F) (aL (by kernel_rfl) (zh2 F) aN)) fun d=>by kernel_rfl
def zc8(F:Nat):List ToldF:=[qa1 F,qee F,qlq F,qt1 F]
theorem zc9(F:Nat):q02 pp (zc8 F):=⟨qlb F,qvz F,zc7 F,zl3 F,trivial⟩
def q9p(F:Nat):ToldF:=⟨26,3,[.slot 0 .I,.row .u8 1 (.slot 1) false,.slot 2 (.L 64)],[.ty .I,.ty .I],u3 (q8m F)⟩
theorem qk5(F:Nat):(q9p F).ok pp:=
 okF q00 (zc9 F) (fn:=Tryz.f26) [] (by kernel_rfl) aN fun d=>by kernel_rfl
def zh3(F:Nat):List ToldF:=[q9p F]
theorem zh4(F:Nat):q02 pp (zh3 F):=⟨qk5 F,trivial⟩
def qhc(F:Nat):ToldF:=⟨145,4,[.slot 0 .I,.slot 1 (.L 64),.row .u8 1 (.slot 2) false,.row .u8 1 (.slot 3) false],[.row .u8 1 false],u4 (qjj F)⟩
theorem z10(F:Nat):(qhc F).ok pp:=
 okF q00 (zh4 F) (fn:=Tryz.f145) [] (by kernel_rfl) aN fun d=>by kernel_rfl
def zu1(F:Nat):List ToldF:=[qs8 F,qhc F]
theorem zu2(F:Nat):q02 pp (zu1 F):=⟨zkv F,z10 F,trivial⟩
def z4j(F:Nat):ToldF:=⟨142,1,[.slot 0 (.L 64)],[.row .u8 1 false],u1 (zov F)⟩
theorem zx5(F:Nat):(z4j F).ok pp:=
 okF q00 (zu2 F) (fn:=Tryz.f142) [] (by kernel_rfl) aN fun d=>by kernel_rfl
def z4k(F:Nat):List ToldF:=[q2k F,q2b F]
theorem z4l(F:Nat):q02 pp (z4k F):=⟨q5x F,q47 F,trivial⟩
def qk6(F:Nat):ToldF:=⟨210,1,[.slot 0 .I],[.ty .I],u1 (z0f F)⟩
theorem z7t(F:Nat):(qk6 F).ok pp:=
 okF q00 (z4l F) (fn:=Tryz.f210) [] (by kernel_rfl) aN fun d=>by kernel_rfl
def qr1(F:Nat):List ToldF:=[q6n F,qk6 F]
theorem q76(F:Nat):q02 pp (qr1 F):=⟨qcx F,z7t F,trivial⟩
def qd8(F:Nat):TL:=⟨39,[.slot 1 .I,.slot 2 .I,.fn 3 210 [],.row .i64 1 (.slot 9) true,.const 10 .nils,.slot 14 (.L 64),.slot 15 .I],[.slot 2 .I,.fn 3 210 [],.row .i64 1 (.slot 9) true,.const 10 .nils],0,fun k=>u5 (q52 F k),fun k=>u5 (qcm F (q52 F k))⟩
theorem qr2(F:Nat):(qd8 F).ok pp Tryz.f206 F:=
 okL q00 (q76 F) [] aN (fun _=>rfl) (fun _ _=>rfl) fun k d=>by kernel_rfl
def qd9(F:Nat):TL:=⟨39,[.fn 3 210 [],.row .i64 1 (.slot 9) true,.row .i64 1 (.slot 10) true,.slot 25 .I,.slot 26 .I],[.row .i64 1 (.slot 9) true,.row .i64 1 (.slot 10) true],2,fun k=>u4 (q53 F k),fun k=>u4 (qcn F (q53 F k))⟩
theorem qr3(F:Nat):(qd9 F).ok pp Tryz.f206 F:=
 okL q00 (q76 F) [] aN (fun _=>rfl) (fun _ _=>rfl) fun k d=>by kernel_rfl
def qbk(F:Nat):ToldF:=⟨206,4,[.slot 0 (.L 64),.slot 1 .I,.slot 2 .I,.fn 3 210 []],[.ty .I],u3 (qjk F)⟩
theorem qug(F:Nat):(qbk F).ok pp:=
 okF q00 (q76 F) (fn:=Tryz.f206) [(0,(qd8 F).ann F),(2,(qd9 F).ann F)] (by kernel_rfl) (aL (by kernel_rfl) (qr2 F) (aL (by kernel_rfl) (qr3 F) aN)) fun d=>by kernel_rfl
def z4m(F:Nat):List ToldF:=[q4f F]
theorem z4n(F:Nat):q02 pp (z4m F):=⟨q8w F,trivial⟩
def qk7(F:Nat):ToldF:=⟨163,5,[.slot 0 .I,.slot 1 .I,.slot 2 .I,.row .u8 1 (.cell (.slot 3) 0) true (some 0),.segs [.sl 1 1 .own] (.slot 3) true (some 1),.ptr 3 2 1,.segs [.hole (.bool)] (.slot 4) true (some 2),.ptr 4 3 1],[.psegs 1 [.row .u8 1 true],.psegs 2 [.hole (.bool)]],u5 (q0z F)⟩
theorem z7u(F:Nat):(qk7 F).ok pp:=
 okF q00 (z4n F) (fn:=Tryz.f163) [] (by kernel_rfl) aN fun d=>by kernel_rfl
def qop(F:Nat):ToldF:=⟨164,1,[.slot 0 (.bool)],[.ty .I],u1 (qg1 F)⟩
theorem zh5(F:Nat):(qop F).ok pp:=
 okF q00 (zox F) (fn:=Tryz.f164) [] (by kernel_rfl) aN fun d=>by kernel_rfl
def zh6(F:Nat):List ToldF:=[qd5 F,qk7 F,qop F]
theorem qk8(F:Nat):q02 pp (zh6 F):=⟨qsn F,z7u F,zh5 F,trivial⟩
def qwu(F:Nat):TL:=⟨129,[.segs [.hole (.bool),.hole (.bool),.hole (.L 3),.hole (.L 3),.hole (.L 2),.hole (.L 16)] (.slot 1) true,.ptr 1 1 26,.row .u8 1 (.cell (.slot 4) 0) true,.segs [.sl 2 1 .own] (.slot 4) true,.ptr 4 3 1,.segs [.hole (.bool)] (.slot 5) true,.ptr 5 4 1,.fn 6 163 [.ptr 3 1,.ptr 4 1],.slot 13 .I],[.segs [.hole (.bool),.hole (.bool),.hole (.L 3),.hole (.L 3),.hole (.L 2),.hole (.L 16)] (.slot 1) true,.ptr 1 1 26,.row .u8 1 (.cell (.slot 4) 0) true,.segs [.sl 2 1 .own] (.slot 4) true,.ptr 4 3 1,.segs [.hole (.bool)] (.slot 5) true,.ptr 5 4 1,.fn 6 163 [.ptr 3 1,.ptr 4 1]],0,fun k=>u9 (qf2 F k),fun k=>u9 (qvg F (qf2 F k))⟩
theorem zh7(F:Nat):(qwu F).ok pp Tryz.f83 F:=
 okL q00 (qk8 F) [] aN (fun _=>rfl) (fun _ _=>rfl) fun k d=>by kernel_rfl
def qwv(F:Nat):TL:=⟨129,[.row .u8 1 (.cell (.slot 4) 0) true,.segs [.sl 1 1 .own] (.slot 4) true,.ptr 4 2 1,.segs [.hole (.bool)] (.slot 5) true,.ptr 5 3 1,.fn 6 163 [.ptr 2 1,.ptr 3 1],.slot 96 (.L 16),.slot 97 .I],[.row .u8 1 (.cell (.slot 4) 0) true,.segs [.sl 1 1 .own] (.slot 4) true,.ptr 4 2 1,.segs [.hole (.bool)] (.slot 5) true,.ptr 5 3 1],2,fun k=>u4 (qf3 F k),fun k=>u4 (qvh F (qf3 F k))⟩
theorem zh8(F:Nat):(qwv F).ok pp Tryz.f83 F:=
 okL q00 (qk8 F) [] aN (fun _=>rfl) (fun _ _=>rfl) fun k d=>by kernel_rfl
def qt2(F:Nat):ToldF:=⟨83,1,[.slot 0 (.agg [.bool,.bool,.L 3,.L 3,.L 2,.L 16])],[.row .u8 1,.ty .I],u1 (zfh F)⟩
theorem zl4(F:Nat):(qt2 F).ok pp:=
 okF q00 (qk8 F) (fn:=Tryz.f83) [(0,(qwu F).ann F),(2,(qwv F).ann F)] (by kernel_rfl) (aL (by kernel_rfl) (zh7 F) (aL (by kernel_rfl) (zh8 F) aN)) fun d=>by kernel_rfl
def zh9(F:Nat):List ToldF:=[qbk F,qt2 F]
theorem qww(F:Nat):q02 pp (zh9 F):=⟨qug F,zl4 F,trivial⟩
def qwx(F:Nat):TL:=⟨24,[.segs [.hole (.L 64)] (.slot 1) true,.ptr 1 1 64,.segs [.const (.bool (some true) true),.const (.bool (some false) false),.hole (.L 3),.hole (.L 3),.hole (.L 2),.hole (.L 16)] (.slot 3) true,.ptr 3 2 26,.slot 8 .I],[.segs [.const (.bool (some true) true),.const (.bool (some false) false),.hole (.L 3),.hole (.L 3),.hole (.L 2),.hole (.L 16)] (.slot 3) true,.ptr 3 1 26],0,fun k=>u6 (qfd F k),fun k=>u6 (qvv F (qfd F k))⟩
theorem zha(F:Nat):(qwx F).ok pp Tryz.f143 F:=
 okL q00 (qww F) [] aN (fun _=>rfl) (fun _ _=>rfl) fun k d=>by kernel_rfl
def qt3(F:Nat):ToldF:=⟨143,1,[.slot 0 (.L 64)],[.row .u8 1],u1 (zfn F)⟩
theorem zl5(F:Nat):(qt3 F).ok pp:=
 okF q00 (qww F) (fn:=Tryz.f143) [(0,(qwx F).ann F)] (by kernel_rfl) (aL (by kernel_rfl) (zha F) aN) fun d=>by kernel_rfl
def z7v(F:Nat):List ToldF:=[q4f F]
theorem z7w(F:Nat):q02 pp (z7v F):=⟨q8w F,trivial⟩
def qlr(F:Nat):ToldF:=⟨167,4,[.slot 0 .I,.slot 1 .I,.slot 2 .I,.row .u8 1 (.cell (.slot 3) 0) true (some 0),.segs [.sl 1 1 .own] (.slot 3) true (some 1),.ptr 3 2 1],[.psegs 1 [.row .u8 1 true]],u4 (q5o F)⟩
theorem zcc(F:Nat):(qlr F).ok pp:=
 okF q00 (z7w F) (fn:=Tryz.f167) [] (by kernel_rfl) aN fun d=>by kernel_rfl
def z7x(F:Nat):List ToldF:=[q4f F]
theorem qoq(F:Nat):q02 pp (z7x F):=⟨q8w F,trivial⟩
def qor(F:Nat):TL:=⟨30,[.slot 0 .I,.row .i64 1 (.slot 1) false,.row .u8 1 (.cell (.slot 2) 0) true,.segs [.sl 2 1 .own] (.slot 2) true (some 2),.ptr 2 3 1,.sl 7 1 1 .whole,.slot 8 .I,.slot 9 .I],[.row .u8 1 (.cell (.slot 2) 0) true,.segs [.sl 1 1 .own] (.slot 2) true (some 2),.ptr 2 2 1],0,fun k=>u5 (qam F k),fun k=>u5 (qnp F (qam F k))⟩
theorem z7y(F:Nat):(qor F).ok pp Tryz.f166 F:=
 okL q00 (qoq F) [] aN (fun _=>rfl) (fun _ _=>rfl) fun k d=>by kernel_rfl
def qls(F:Nat):ToldF:=⟨166,3,[.slot 0 .I,.row .i64 1 (.slot 1) false,.row .u8 1 (.cell (.slot 2) 0) true (some 1),.segs [.sl 2 1 .own] (.slot 2) true (some 2),.ptr 2 3 1],[.psegs 2 [.row .u8 1 true]],u3 (q5p F)⟩
theorem zcd(F:Nat):(qls F).ok pp:=
 okF q00 (qoq F) (fn:=Tryz.f166) [(0,(qor F).ann F)] (by kernel_rfl) (aL (by kernel_rfl) (z7y F) aN) fun d=>by kernel_rfl
def zl6(F:Nat):List ToldF:=[q9n F,q3g F,qlr F,qls F]
theorem qmu(F:Nat):q02 pp (zl6 F):=⟨qk1 F,q75 F,zcc F,zcd F,trivial⟩
def z11(F:Nat):TX:=⟨127,[.segs [.hole (.L 3)] (.slot 3) true,.ptr 3 1 3,.segs [.hole (.L 3)] (.slot 4) true,.ptr 4 2 3,.segs [.hole (.L 3)] (.slot 5) true,.ptr 5 3 3,.slot 21 (.L 9),.slot 22 .I],[.const 6 .nils,.const 7 (.int .i64 (some 1) 1)],[.segs [.hole (.L 3)] (.slot 3) true,.ptr 3 1 3,.segs [.hole (.L 3)] (.slot 4) true,.ptr 4 2 3,.segs [.hole (.L 3)] (.slot 5) true,.ptr 5 3 3],.ret,0,fun k=>u5 (qi8 F k),fun k=>u5 (z0b F (qi8 F k))⟩
theorem zl7(F:Nat):(z11 F).ok pp Tryz.f85 F:=
 okX q00 (qmu F) [] aN (fun _=>rfl) (fun _ _=>rfl) (eR rfl) fun k d=>by kernel_rfl
def z12(F:Nat):TL:=⟨127,[.row .u8 1 (.cell (.slot 10) 0) true,.segs [.sl 1 1 .own] (.slot 10) true,.ptr 10 2 1,.fn 11 166 [.ptr 2 1],.fn 12 167 [.ptr 2 1],.segs [.hole (.bool),.hole (.bool),.hole (.L 3),.hole (.L 3),.hole (.L 2),.hole (.L 16)] (.slot 13) true,.ptr 13 3 26,.slot 89 .I],[.row .u8 1 (.cell (.slot 10) 0) true,.segs [.sl 1 1 .own] (.slot 10) true,.ptr 10 2 1,.fn 11 166 [.ptr 2 1],.fn 12 167 [.ptr 2 1]],2,fun k=>u8 (qi9 F k),fun k=>u8 (z0c F (qi9 F k))⟩
theorem zl8(F:Nat):(z12 F).ok pp Tryz.f85 F:=
 okL q00 (qmu F) [] aN (fun _=>rfl) (fun _ _=>rfl) fun k d=>by kernel_rfl
def qwy(F:Nat):ToldF:=⟨85,3,[.slot 0 (.L 3),.slot 1 (.L 3),.slot 2 (.L 3)],[.row .u8 1,.ty .I],u3 (znl F)⟩
theorem zpn(F:Nat):(qwy F).ok pp:=
 okF q00 (qmu F) (fn:=Tryz.f85) [(0,(z11 F).ann F),(2,(z12 F).ann F)] (by kernel_rfl) (aX (by kernel_rfl) (zl7 F) (aL (by kernel_rfl) (zl8 F) aN)) fun d=>by kernel_rfl
def zhb(F:Nat):List ToldF:=[qfk F,qwy F]
theorem zhc(F:Nat):q02 pp (zhb F):=⟨qw3 F,zpn F,trivial⟩
def qt4(F:Nat):ToldF:=⟨144,1,[.slot 0 (.L 64)],[.row .u8 1],u1 (qqk F)⟩
theorem zl9(F:Nat):(qt4 F).ok pp:=
 okF q00 (zhc F) (fn:=Tryz.f144) [] (by kernel_rfl) aN fun d=>by kernel_rfl
def zu3(F:Nat):List ToldF:=[z2g F,q4f F]
theorem qwz(F:Nat):q02 pp (zu3 F):=⟨ztx F,q8w F,trivial⟩
def za0(F:Nat):TL:=⟨65,[.row .u8 1 (.slot 10) true,.row .i64 3 (.slot 11) true,.slot 27 (.L 16),.slot 28 .I],[.row .u8 1 (.slot 10) true,.row .i64 3 (.slot 11) true],0,fun k=>u4 (qqf F k),fun k=>u4 (z9s F (qqf F k))⟩
theorem zu4(F:Nat):(za0 F).ok pp Tryz.f75 F:=
 okL q00 (qwz F) [] aN (fun _=>rfl) (fun _ _=>rfl) fun k d=>by kernel_rfl
def za1(F:Nat):TL:=⟨65,[.row .u8 1 (.slot 10) true,.const 14 (.bool (some true) true),.row .i64 3 (.slot 40) true,.slot 41 .I,.slot 42 .I],[.row .u8 1 (.slot 10) true,.slot 14 (.bool)],2,fun k=>u4 (qqg F k),fun k=>u4 (z9t F (qqg F k))⟩
theorem zu5(F:Nat):(za1 F).ok pp Tryz.f75 F:=
 okL q00 (qwz F) [] aN (fun _=>rfl) (fun _ _=>rfl) fun k d=>by kernel_rfl
def qr4(F:Nat):ToldF:=⟨75,4,[.slot 0 .I,.slot 1 .I,.slot 2 .I,.slot 3 (.L 16)],[.row .u8 1,.ty .I],u4 (zou F)⟩
theorem zhd(F:Nat):(qr4 F).ok pp:=
 okF q00 (qwz F) (fn:=Tryz.f75) [(0,(za0 F).ann F),(2,(za1 F).ann F)] (by kernel_rfl) (aL (by kernel_rfl) (zu4 F) (aL (by kernel_rfl) (zu5 F) aN)) fun d=>by kernel_rfl
def z7z(F:Nat):List ToldF:=[qmt F]
theorem z80(F:Nat):q02 pp (z7z F):=⟨z9z F,trivial⟩
def qlt(F:Nat):ToldF:=⟨212,1,[.slot 0 .I],[.ty .I],u1 (z3v F)⟩
theorem zce(F:Nat):(qlt F).ok pp:=
 okF q00 (z80 F) (fn:=Tryz.f212) [] (by kernel_rfl) aN fun d=>by kernel_rfl
def quh(F:Nat):List ToldF:=[q6n F,qlt F]
theorem q80(F:Nat):q02 pp (quh F):=⟨qcx F,zce F,trivial⟩
def qe1(F:Nat):TL:=⟨39,[.slot 1 .I,.slot 2 .I,.fn 3 212 [],.row .i64 1 (.slot 9) true,.const 10 .nils,.slot 14 (.L 64),.slot 15 .I],[.slot 2 .I,.fn 3 212 [],.row .i64 1 (.slot 9) true,.const 10 .nils],0,fun k=>u5 (q5t F k),fun k=>u5 (qdv F (q5t F k))⟩
theorem qui(F:Nat):(qe1 F).ok pp Tryz.f206 F:=
 okL q00 (q80 F) [] aN (fun _=>rfl) (fun _ _=>rfl) fun k d=>by kernel_rfl
def qe2(F:Nat):TL:=⟨39,[.fn 3 212 [],.row .i64 1 (.slot 9) true,.row .i64 1 (.slot 10) true,.slot 25 .I,.slot 26 .I],[.row .i64 1 (.slot 9) true,.row .i64 1 (.slot 10) true],2,fun k=>u4 (q5u F k),fun k=>u4 (qdw F (q5u F k))⟩
theorem quj(F:Nat):(qe2 F).ok pp Tryz.f206 F:=
 okL q00 (q80 F) [] aN (fun _=>rfl) (fun _ _=>rfl) fun k d=>by kernel_rfl
def qda(F:Nat):ToldF:=⟨206,4,[.slot 0 (.L 64),.slot 1 .I,.slot 2 .I,.fn 3 212 []],[.ty .I],u3 (ql9 F)⟩
theorem qx0(F:Nat):(qda F).ok pp:=
 okF q00 (q80 F) (fn:=Tryz.f206) [(0,(qe1 F).ann F),(2,(qe2 F).ann F)] (by kernel_rfl) (aL (by kernel_rfl) (qui F) (aL (by kernel_rfl) (quj F) aN)) fun d=>by kernel_rfl
def zla(F:Nat):List ToldF:=[q4e F,qr4 F,qda F]
theorem zlb(F:Nat):q02 pp (zla F):=⟨q8u F,zhd F,qx0 F,trivial⟩
def qx1(F:Nat):ToldF:=⟨147,2,[.slot 0 (.L 64),.slot 1 .I],[.row .u8 1],u2 (qz2 F)⟩
theorem zpo(F:Nat):(qx1 F).ok pp:=
 okF q00 (zlb F) (fn:=Tryz.f147) [] (by kernel_rfl) aN fun d=>by kernel_rfl
def zlc(F:Nat):List ToldF:=[qfk F,q4e F,q8v F,z3x F,qjs F,z0n F,qhc F,z4j F,qt3 F,qt4 F,qr4 F,qx1 F]
theorem zld(F:Nat):q02 pp (zlc F):=⟨qw3 F,q8u F,qjq F,zx3 F,z3y F,zts F,z10 F,zx5 F,zl5 F,zl9 F,zhd F,zpo F,trivial⟩
def qx2(F:Nat):ToldF:=⟨67,2,[.slot 0 .I,.slot 1 (.L 64)],[.row .u8 1 false],u2 (q2m F)⟩
theorem zpp(F:Nat):(qx2 F).ok pp:=
 okF q00 (zld F) (fn:=Tryz.f67) [] (by kernel_rfl) aN fun d=>by kernel_rfl
def zle(F:Nat):List ToldF:=[qa1 F,qvy F,qee F,qx2 F]
theorem zlf(F:Nat):q02 pp (zle F):=⟨qlb F,zoy F,qvz F,zpp F,trivial⟩
def qk9(F:Nat):ToldF:=⟨25,2,[.slot 0 .I,.slot 1 (.L 64)],[.row .u8 1 false,.ty .I],u2 (q9g F)⟩
theorem z4o(F:Nat):(qk9 F).ok pp:=
 okF q00 (zlf F) (fn:=Tryz.f25) [] (by kernel_rfl) aN fun d=>by kernel_rfl
def qdb(F:Nat):ToldF:=⟨13,1,[.slot 0 .I],[.ty (.agg [.I,.I,.bool]),.ty .I],u1 (qqi F)⟩
theorem qr5(F:Nat):(qdb F).ok pp:=
 okF q00 (zox F) (fn:=Tryz.f13) [] (by kernel_rfl) aN fun d=>by kernel_rfl
def qdd(F:Nat):TX:=⟨27,[.segs [.hole (.L 64)] (.slot 1) true,.ptr 1 1 64,.slot 3 .I,.slot 4 .I],[.const 2 (.bool (some false) false)],[.segs [.hole (.L 64)] (.slot 1) true,.ptr 1 1 64,.slot 3 .I],.ret,2,fun k=>u3 (q1d F k),fun k=>u3 (q3m F (q1d F k))⟩
theorem qlu(F:Nat):(qdd F).ok pp Tryz.f33 F:=
 okX q00 (zox F) [] aN (fun _=>rfl) (fun _ _=>rfl) (eR rfl) fun k d=>by kernel_rfl
def qlv(F:Nat):TX:=⟨27,[.segs [.hole (.L 64)] (.slot 1) true,.ptr 1 1 64,.slot 3 .I],[.const 2 (.bool (some false) false)],[],.ret,0,fun k=>u2 (q1e F k),fun k=>u2 (q3n F (q1e F k))⟩
theorem z4q(F:Nat):(qlv F).ok pp Tryz.f33 F:=
 okX q00 (zox F) [(2,(qdd F).ann F)] (aX (by kernel_rfl) (qlu F) aN) (fun _=>rfl) (fun _ _=>rfl) (eR rfl) fun k d=>by kernel_rfl
def qka(F:Nat):ToldF:=⟨33,1,[.slot 0 (.L 64)],[.ty (.bool)],u1 (q63 F)⟩
theorem z81(F:Nat):(qka F).ok pp:=
 okF q00 (zox F) (fn:=Tryz.f33) [(2,(qdd F).ann F),(0,(qlv F).ann F)] (by kernel_rfl) (aX (by kernel_rfl) (qlu F) (aX (by kernel_rfl) (z4q F) aN)) fun d=>by kernel_rfl
def zhe(F:Nat):List ToldF:=[qdb F]
theorem qkb(F:Nat):q02 pp (zhe F):=⟨qr5 F,trivial⟩
def qkc(F:Nat):TL:=⟨44,[.segs [.hole (.L 64)] (.slot 3) true,.ptr 3 1 64,.segs [.hole (.L 64)] (.slot 4) true,.ptr 4 2 64,.segs [.J,.J,.hole (.bool)] (.slot 5) true,.ptr 5 3 3,.slot 7 .I,.slot 8 .I,.slot 18 (.bool)],[.segs [.hole (.L 64)] (.slot 3) true,.ptr 3 1 64,.segs [.hole (.L 64)] (.slot 4) true,.ptr 4 2 64,.segs [.J,.J,.hole (.bool)] (.slot 5) true,.ptr 5 3 3,.slot 7 .I,.slot 18 (.bool)],2,fun k=>u8 (q7r F k),fun k=>u8 (qco F (q7r F k))⟩
theorem qx3(F:Nat):(qkc F).ok pp Tryz.f19 F:=
 okL q00 (qkb F) [] aN (fun _=>rfl) (fun _ _=>rfl) fun k d=>by kernel_rfl
def qx4(F:Nat):TL:=⟨44,[.segs [.hole (.L 64)] (.slot 3) true,.ptr 3 1 64,.segs [.hole (.L 64)] (.slot 4) true,.ptr 4 2 64,.segs [.J,.J,.hole (.bool)] (.slot 5) true,.ptr 5 3 3,.slot 7 .I],[.segs [.hole (.L 64)] (.slot 3) true,.ptr 3 1 64,.segs [.hole (.L 64)] (.slot 4) true,.ptr 4 2 64],0,fun k=>u6 (q7s F k),fun k=>u6 (qcp F (q7s F k))⟩
theorem zhf(F:Nat):(qx4 F).ok pp Tryz.f19 F:=
 okL q00 (qkb F) [(2,(qkc F).ann F)] (aL (by kernel_rfl) (qx3 F) aN) (fun _=>rfl) (fun _ _=>rfl) fun k d=>by kernel_rfl
def qt5(F:Nat):ToldF:=⟨19,2,[.slot 0 .I,.slot 1 (.L 64)],[.ty (.L 64)],u2 (qql F)⟩
theorem zlg(F:Nat):(qt5 F).ok pp:=
 okF q00 (qkb F) (fn:=Tryz.f19) [(2,(qkc F).ann F),(0,(qx4 F).ann F)] (by kernel_rfl) (aL (by kernel_rfl) (qx3 F) (aL (by kernel_rfl) (zhf F) aN)) fun d=>by kernel_rfl
def qx6(F:Nat):TL:=⟨13,[.slot 0 .I,.slot 3 .I,.slot 4 .I],[.slot 3 .I],0,fun k=>u3 (qf0 F k),fun k=>u3 (qvd F (qf0 F k))⟩
theorem zhh(F:Nat):(qx6 F).ok pp Tryz.f87 F:=
 okL q00 (zox F) [] aN (fun _=>rfl) (fun _ _=>rfl) fun k d=>by kernel_rfl
def qhd(F:Nat):ToldF:=⟨87,1,[.slot 0 .I],[.ty .I],u1 (qaw F)⟩
theorem z13(F:Nat):(qhd F).ok pp:=
 okF q00 (zox F) (fn:=Tryz.f87) [(0,(qx6 F).ann F)] (by kernel_rfl) (aL (by kernel_rfl) (zhh F) aN) fun d=>by kernel_rfl
def qfo(F:Nat):ToldF:=⟨86,2,[.slot 0 .I,.slot 1 .I],[.ty .I],u2 (qjb F)⟩
theorem qx7(F:Nat):(qfo F).ok pp:=
 okF q00 (zox F) (fn:=Tryz.f86) [] (by kernel_rfl) aN fun d=>by kernel_rfl
def zlh(F:Nat):List ToldF:=[qhd F,qfo F]
theorem z14(F:Nat):q02 pp (zlh F):=⟨z13 F,qx7 F,trivial⟩
def z15(F:Nat):TL:=⟨35,[.slot 0 .I,.slot 1 .I,.slot 5 .I,.slot 6 .I],[.slot 5 .I],0,fun k=>u4 (qi3 F k),fun k=>u4 (z08 F (qi3 F k))⟩
theorem zli(F:Nat):(z15 F).ok pp Tryz.f92 F:=
 okL q00 (z14 F) [] aN (fun _=>rfl) (fun _ _=>rfl) fun k d=>by kernel_rfl
def q4r(F:Nat):ToldF:=⟨92,2,[.slot 0 .I,.slot 1 .I],[.ty .I],u2 (q0e F)⟩
theorem q9q(F:Nat):(q4r F).ok pp:=
 okF q00 (z14 F) (fn:=Tryz.f92) [(0,(z15 F).ann F)] (by kernel_rfl) (aL (by kernel_rfl) (zli F) aN) fun d=>by kernel_rfl
def z16(F:Nat):ToldF:=⟨88,1,[.slot 0 .I],[.ty .I],u1 (qjd F)⟩
theorem zu8(F:Nat):(z16 F).ok pp:=
 okF q00 (zox F) (fn:=Tryz.f88) [] (by kernel_rfl) aN fun d=>by kernel_rfl
def qx8(F:Nat):ToldF:=⟨230,3,[.row .u8 1 (.slot 0) false,.slot 1 .I,.slot 2 .I],[.ty (.bool)],u3 (qyw F)⟩
theorem zpu(F:Nat):(qx8 F).ok pp:=
 okF q00 (zox F) (fn:=Tryz.f230) [] (by kernel_rfl) aN fun d=>by kernel_rfl
def z4s(F:Nat):TL:=⟨30,[.slot 7 .I,.slot 8 .I,.slot 9 .I],[.slot 8 .I],0,fun k=>u3 (q8d F k),fun k=>u3 (qq5 F (q8d F k))⟩
theorem zpw(F:Nat):(z4s F).ok pp Tryz.f172 F:=
 okL q00 (zox F) [] aN (fun _=>rfl) (fun _ _=>rfl) fun k d=>by kernel_rfl
def qmv(F:Nat):ToldF:=⟨172,3,[.row .u8 1 (.slot 0) false,.slot 1 .I,.slot 2 (.bool)],[.ty .I],u3 (qc0 F)⟩
theorem za2(F:Nat):(qmv F).ok pp:=
 okF q00 (zox F) (fn:=Tryz.f172) [(0,(z4s F).ann F)] (by kernel_rfl) (aL (by kernel_rfl) (zpw F) aN) fun d=>by kernel_rfl
def zpx(F:Nat):List ToldF:=[qx8 F,qmv F]
theorem z4t(F:Nat):q02 pp (zpx F):=⟨zpu F,za2 F,trivial⟩
def z4u(F:Nat):TL:=⟨52,[.row .u8 1 (.slot 0) false,.slot 1 .I,.slot 2 .I,.slot 3 (.bool),.slot 10 (.int .u64),.slot 11 .I],[.slot 10 (.int .u64)],0,fun k=>u6 (q8e F k),fun k=>u6 (qq6 F (q8e F k))⟩
theorem zpy(F:Nat):(z4u F).ok pp Tryz.f170 F:=
 okL q00 (z4t F) [] aN (fun _=>rfl) (fun _ _=>rfl) fun k d=>by kernel_rfl
def qfp(F:Nat):ToldF:=⟨170,4,[.row .u8 1 (.slot 0) false,.slot 1 .I,.slot 2 .I,.slot 3 (.bool)],[.ty (.int .u64),.ty .I],u4 (qni F)⟩
theorem qx9(F:Nat):(qfp F).ok pp:=
 okF q00 (z4t F) (fn:=Tryz.f170) [(0,(z4u F).ann F)] (by kernel_rfl) (aL (by kernel_rfl) (zpy F) aN) fun d=>by kernel_rfl
def qxb(F:Nat):TL:=⟨13,[.slot 0 .I,.slot 3 (.int .u64),.slot 4 .I],[.slot 3 (.int .u64)],0,fun k=>u3 (qez F k),fun k=>u3 (qvb F (qez F k))⟩
theorem zhj(F:Nat):(qxb F).ok pp Tryz.f171 F:=
 okL q00 (zox F) [] aN (fun _=>rfl) (fun _ _=>rfl) fun k d=>by kernel_rfl
def qt6(F:Nat):ToldF:=⟨171,1,[.slot 0 .I],[.ty (.int .u64)],u1 (qe8 F)⟩
theorem zll(F:Nat):(qt6 F).ok pp:=
 okF q00 (zox F) (fn:=Tryz.f171) [(0,(qxb F).ann F)] (by kernel_rfl) (aL (by kernel_rfl) (zhj F) aN) fun d=>by kernel_rfl
def zpz(F:Nat):List ToldF:=[qmv F,qfp F,qt6 F]
theorem z4v(F:Nat):q02 pp (zpz F):=⟨za2 F,qx9 F,zll F,trivial⟩
def z4w(F:Nat):TL:=⟨91,[.slot 1 .I,.slot 2 .I,.slot 3 (.bool),.slot 4 (.int .u64),.row .u8 1 (.slot 14) true,.slot 15 .I],[.row .u8 1 (.slot 14) true],0,fun k=>u6 (qfu F k),fun k=>u6 (z3o F (qfu F k))⟩
theorem zq0(F:Nat):(z4w F).ok pp Tryz.f90 F:=
 okL q00 (z4v F) [] aN (fun _=>rfl) (fun _ _=>rfl) fun k d=>by kernel_rfl
def z17(F:Nat):ToldF:=⟨90,5,[.row .u8 1 (.slot 0) false,.slot 1 .I,.slot 2 .I,.slot 3 (.bool),.slot 4 (.int .u64)],[.row .u8 1,.ty .I],u5 (ztk F)⟩
theorem zu9(F:Nat):(z17 F).ok pp:=
 okF q00 (z4v F) (fn:=Tryz.f90) [(0,(z4w F).ann F)] (by kernel_rfl) (aL (by kernel_rfl) (zq0 F) aN) fun d=>by kernel_rfl
def zhk(F:Nat):List ToldF:=[qfp F]
theorem zhl(F:Nat):q02 pp (zhk F):=⟨qx9 F,trivial⟩
def q5k(F:Nat):ToldF:=⟨108,3,[.row .u8 1 (.slot 0) false,.slot 1 .I,.slot 2 .I],[.ty .I],u3 (q2g F)⟩
theorem qa5(F:Nat):(q5k F).ok pp:=
 okF q00 (zhl F) (fn:=Tryz.f108) [] (by kernel_rfl) aN fun d=>by kernel_rfl
def zhm(F:Nat):List ToldF:=[q5k F]
theorem qxc(F:Nat):q02 pp (zhm F):=⟨qa5 F,trivial⟩
def qxd(F:Nat):TL:=⟨33,[.row .u8 1 (.slot 0) false,.segs [.hole (.L 16)] (.slot 4) true,.ptr 4 2 16,.segs [.hole (.L 16)] (.slot 6) true,.ptr 6 3 16,.slot 7 .I],[.row .u8 1 (.slot 0) false,.segs [.hole (.L 16)] (.slot 4) true,.ptr 4 2 16,.segs [.hole (.L 16)] (.slot 6) true,.ptr 6 3 16],0,fun k=>u4 (q40 F k),fun k=>u4 (q6g F (q40 F k))⟩
theorem zhn(F:Nat):(qxd F).ok pp Tryz.f104 F:=
 okL q00 (qxc F) [] aN (fun _=>rfl) (fun _ _=>rfl) fun k d=>by kernel_rfl
def qt7(F:Nat):ToldF:=⟨104,1,[.row .u8 1 (.slot 0) false],[.ty .I,.ty .I,.ty (.L 16),.ty .I],u1 (qq7 F)⟩
theorem zlm(F:Nat):(qt7 F).ok pp:=
 okF q00 (qxc F) (fn:=Tryz.f104) [(0,(qxd F).ann F)] (by kernel_rfl) (aL (by kernel_rfl) (zhn F) aN) fun d=>by kernel_rfl
def zq1(F:Nat):List ToldF:=[qfo F]
theorem zq2(F:Nat):q02 pp (zq1 F):=⟨qx7 F,trivial⟩
def qa6(F:Nat):ToldF:=⟨180,5,[.slot 0 .I,.slot 1 .I,.slot 2 .I,.slot 3 .I,.slot 4 .I],[.ty .I],u5 (qfv F)⟩
theorem qlw(F:Nat):(qa6 F).ok pp:=
 okF q00 (zq2 F) (fn:=Tryz.f180) [] (by kernel_rfl) aN fun d=>by kernel_rfl
def zln(F:Nat):List ToldF:=[qa6 F]
theorem qmw(F:Nat):q02 pp (zln F):=⟨qlw F,trivial⟩
def z18(F:Nat):TL:=⟨39,[.slot 0 .I,.slot 1 .I,.segs [.hole (.L 8)] (.slot 4) true,.ptr 4 1 8,.segs [.hole (.L 8)] (.slot 5) true,.ptr 5 2 8,.slot 6 .I],[.segs [.hole (.L 8)] (.slot 4) true,.ptr 4 1 8,.segs [.hole (.L 8)] (.slot 5) true,.ptr 5 2 8],0,fun k=>u5 (q8z F k),fun k=>u5 (qmf F (q8z F k))⟩
theorem zlo(F:Nat):(z18 F).ok pp Tryz.f105 F:=
 okL q00 (qmw F) [] aN (fun _=>rfl) (fun _ _=>rfl) fun k d=>by kernel_rfl
def z19(F:Nat):TL:=⟨39,[.slot 0 .I,.slot 1 .I,.segs [.hole (.L 8)] (.slot 4) true,.ptr 4 1 8,.segs [.hole (.L 8)] (.slot 5) true,.ptr 5 2 8,.slot 7 .I],[.segs [.hole (.L 8)] (.slot 4) true,.ptr 4 1 8,.segs [.hole (.L 8)] (.slot 5) true,.ptr 5 2 8],2,fun k=>u5 (q90 F k),fun k=>u5 (qmg F (q90 F k))⟩
theorem zlp(F:Nat):(z19 F).ok pp Tryz.f105 F:=
 okL q00 (qmw F) [] aN (fun _=>rfl) (fun _ _=>rfl) fun k d=>by kernel_rfl
def qxe(F:Nat):ToldF:=⟨105,2,[.slot 0 .I,.slot 1 .I],[.ty (.L 8)],u2 (qyx F)⟩
theorem zq3(F:Nat):(qxe F).ok pp:=
 okF q00 (qmw F) (fn:=Tryz.f105) [(0,(z18 F).ann F),(2,(z19 F).ann F)] (by kernel_rfl) (aL (by kernel_rfl) (zlo F) (aL (by kernel_rfl) (zlp F) aN)) fun d=>by kernel_rfl
def zcf(F:Nat):List ToldF:=[qt7 F,qxe F]
theorem qt8(F:Nat):q02 pp (zcf F):=⟨zlm F,zq3 F,trivial⟩
def qt9(F:Nat):TL:=⟨36,[.segs [.hole (.L 16)] (.slot 2) true,.ptr 2 1 16,.segs [.hole (.L 16)] (.slot 6) true,.ptr 6 2 16,.segs [.hole (.L 8)] (.slot 8) true,.ptr 8 3 8,.slot 9 .I],[.segs [.hole (.L 16)] (.slot 2) true,.ptr 2 1 16,.segs [.hole (.L 16)] (.slot 6) true,.ptr 6 2 16],0,fun k=>u4 (q36 F k),fun k=>u4 (q5g F (q36 F k))⟩
theorem zcg(F:Nat):(qt9 F).ok pp Tryz.f50 F:=
 okL q00 (qt8 F) [] aN (fun _=>rfl) (fun _ _=>rfl) fun k d=>by kernel_rfl
def qos(F:Nat):ToldF:=⟨50,1,[.row .u8 1 (.slot 0) false],[.ty (.L 16),.ty .I],u1 (qfw F)⟩
theorem zho(F:Nat):(qos F).ok pp:=
 okF q00 (qt8 F) (fn:=Tryz.f50) [(0,(qt9 F).ann F)] (by kernel_rfl) (aL (by kernel_rfl) (zcg F) aN) fun d=>by kernel_rfl
def zhp(F:Nat):List ToldF:=[q5k F]
theorem qxf(F:Nat):q02 pp (zhp F):=⟨qa5 F,trivial⟩
def qxg(F:Nat):TL:=⟨29,[.row .u8 1 (.slot 0) false,.segs [.hole (.L 16)] (.slot 4) true,.ptr 4 2 16,.segs [.hole (.L 16)] (.slot 6) true,.ptr 6 3 16,.slot 7 .I],[.row .u8 1 (.slot 0) false,.segs [.hole (.L 16)] (.slot 4) true,.ptr 4 2 16,.segs [.hole (.L 16)] (.slot 6) true,.ptr 6 3 16],0,fun k=>u4 (q43 F k),fun k=>u4 (q6i F (q43 F k))⟩
theorem zhq(F:Nat):(qxg F).ok pp Tryz.f106 F:=
 okL q00 (qxf F) [] aN (fun _=>rfl) (fun _ _=>rfl) fun k d=>by kernel_rfl
def qta(F:Nat):ToldF:=⟨106,1,[.row .u8 1 (.slot 0) false],[.ty .I,.ty .I,.ty (.L 16),.ty .I],u1 (qq9 F)⟩
theorem zlq(F:Nat):(qta F).ok pp:=
 okF q00 (qxf F) (fn:=Tryz.f106) [(0,(qxg F).ann F)] (by kernel_rfl) (aL (by kernel_rfl) (zhq F) aN) fun d=>by kernel_rfl
def zch(F:Nat):List ToldF:=[q4r F]
theorem zci(F:Nat):q02 pp (zch F):=⟨q9q F,trivial⟩
def qot(F:Nat):ToldF:=⟨181,1,[.slot 0 .I],[.ty (.L 4)],u1 (qfz F)⟩
theorem zhr(F:Nat):(qot F).ok pp:=
 okF q00 (zci F) (fn:=Tryz.f181) [] (by kernel_rfl) aN fun d=>by kernel_rfl
def zq4(F:Nat):List ToldF:=[qa6 F]
theorem z4x(F:Nat):q02 pp (zq4 F):=⟨qlw F,trivial⟩
def z4y(F:Nat):TL:=⟨28,[.slot 2 .I,.slot 3 .I,.segs [.hole (.L 4)] (.slot 4) true,.ptr 4 1 4,.segs [.hole (.L 4)] (.slot 5) true,.ptr 5 2 4,.segs [.hole (.L 4)] (.slot 8) true,.ptr 8 3 4,.segs [.hole (.L 4)] (.slot 9) true,.ptr 9 4 4,.slot 10 .I],[.segs [.hole (.L 4)] (.slot 8) true,.ptr 8 1 4,.segs [.hole (.L 4)] (.slot 9) true,.ptr 9 2 4],0,fun k=>u7 (q6q F k),fun k=>u7 (qi6 F (q6q F k))⟩
theorem zq5(F:Nat):(z4y F).ok pp Tryz.f182 F:=
 okL q00 (z4x F) [] aN (fun _=>rfl) (fun _ _=>rfl) fun k d=>by kernel_rfl
def z1a(F:Nat):ToldF:=⟨182,4,[.slot 0 (.L 4),.slot 1 (.L 4),.slot 2 .I,.slot 3 .I],[.ty (.L 4)],u4 (qg0 F)⟩
theorem zua(F:Nat):(z1a F).ok pp:=
 okF q00 (z4x F) (fn:=Tryz.f182) [(0,(z4y F).ann F)] (by kernel_rfl) (aL (by kernel_rfl) (zq5 F) aN) fun d=>by kernel_rfl
def z82(F:Nat):List ToldF:=[qot F,z1a F]
theorem z83(F:Nat):q02 pp (z82 F):=⟨zhr F,zua F,trivial⟩
def qlx(F:Nat):ToldF:=⟨107,3,[.slot 0 .I,.slot 1 .I,.slot 2 (.bool)],[.ty (.L 16)],u3 (qi7 F)⟩
theorem zcj(F:Nat):(qlx F).ok pp:=
 okF q00 (z83 F) (fn:=Tryz.f107) [] (by kernel_rfl) aN fun d=>by kernel_rfl
def zck(F:Nat):List ToldF:=[qta F,qlx F]
theorem qtb(F:Nat):q02 pp (zck F):=⟨zlq F,zcj F,trivial⟩
def qtc(F:Nat):TL:=⟨41,[.segs [.hole (.L 64)] (.slot 4) true,.ptr 4 1 64,.segs [.hole (.L 64)] (.slot 6) true,.ptr 6 2 64,.segs [.hole (.L 16)] (.slot 9) true,.ptr 9 3 16,.segs [.hole (.L 16)] (.slot 11) true,.ptr 11 4 16,.slot 12 .I],[.segs [.hole (.L 64)] (.slot 4) true,.ptr 4 1 64,.segs [.hole (.L 64)] (.slot 6) true,.ptr 6 2 64],0,fun k=>u5 (q38 F k),fun k=>u5 (q5i F (q38 F k))⟩
theorem zcl(F:Nat):(qtc F).ok pp Tryz.f51 F:=
 okL q00 (qtb F) [] aN (fun _=>rfl) (fun _ _=>rfl) fun k d=>by kernel_rfl
def qou(F:Nat):ToldF:=⟨51,2,[.row .u8 1 (.slot 0) false,.slot 1 (.bool)],[.ty (.L 64),.ty .I],u2 (q44 F)⟩
theorem zhs(F:Nat):(qou F).ok pp:=
 okF q00 (qtb F) (fn:=Tryz.f51) [(0,(qtc F).ann F)] (by kernel_rfl) (aL (by kernel_rfl) (zcl F) aN) fun d=>by kernel_rfl
def zht(F:Nat):List ToldF:=[q4r F,q5k F]
theorem qxh(F:Nat):q02 pp (zht F):=⟨q9q F,qa5 F,trivial⟩
def qxi(F:Nat):TL:=⟨23,[.row .u8 1 (.slot 0) false,.segs [.hole (.L 16)] (.slot 2) true,.ptr 2 2 16,.segs [.hole (.L 16)] (.slot 4) true,.ptr 4 3 16,.slot 5 .I],[.segs [.hole (.L 16)] (.slot 2) true,.ptr 2 1 16,.segs [.hole (.L 16)] (.slot 4) true,.ptr 4 2 16],0,fun k=>u4 (q41 F k),fun k=>u4 (q6h F (q41 F k))⟩
theorem zhu(F:Nat):(qxi F).ok pp Tryz.f52 F:=
 okL q00 (qxh F) [] aN (fun _=>rfl) (fun _ _=>rfl) fun k d=>by kernel_rfl
def qtd(F:Nat):ToldF:=⟨52,1,[.row .u8 1 (.slot 0) false],[.ty (.L 16),.ty .I],u1 (qjc F)⟩
theorem zlr(F:Nat):(qtd F).ok pp:=
 okF q00 (qxh F) (fn:=Tryz.f52) [(0,(qxi F).ann F)] (by kernel_rfl) (aL (by kernel_rfl) (zhu F) aN) fun d=>by kernel_rfl
def z1c(F:Nat):TL:=⟨20,[.slot 2 .I,.segs [.hole (.L 64)] (.slot 3) true,.ptr 3 1 64,.segs [.hole (.L 16)] (.slot 4) true,.ptr 4 2 16,.segs [.hole (.L 64)] (.slot 6) true,.ptr 6 3 64,.slot 7 .I],[.segs [.hole (.L 64)] (.slot 3) true,.ptr 3 1 64,.segs [.hole (.L 64)] (.slot 6) true,.ptr 6 2 64],0,fun k=>u5 (q9h F k),fun k=>u5 (qfe F (q9h F k))⟩
theorem zlt(F:Nat):(z1c F).ok pp Tryz.f53 F:=
 okL q00 (zox F) [] aN (fun _=>rfl) (fun _ _=>rfl) fun k d=>by kernel_rfl
def qxj(F:Nat):ToldF:=⟨53,3,[.slot 0 (.L 64),.slot 1 (.L 16),.slot 2 .I],[.ty (.L 64)],u3 (q14 F)⟩
theorem zq6(F:Nat):(qxj F).ok pp:=
 okF q00 (zox F) (fn:=Tryz.f53) [(0,(z1c F).ann F)] (by kernel_rfl) (aL (by kernel_rfl) (zlt F) aN) fun d=>by kernel_rfl
def qxl(F:Nat):TL:=⟨15,[.slot 0 .I,.segs [.hole (.L 64)] (.slot 2) true,.ptr 2 1 64,.segs [.hole (.L 64)] (.slot 3) true,.ptr 3 2 64,.slot 4 .I],[.segs [.hole (.L 64)] (.slot 2) true,.ptr 2 1 64,.segs [.hole (.L 64)] (.slot 3) true,.ptr 3 2 64],0,fun k=>u4 (qff F k),fun k=>u4 (qvw F (qff F k))⟩
theorem zhw(F:Nat):(qxl F).ok pp Tryz.f54 F:=
 okL q00 (zox F) [] aN (fun _=>rfl) (fun _ _=>rfl) fun k d=>by kernel_rfl
def qte(F:Nat):ToldF:=⟨54,1,[.slot 0 .I],[.ty (.L 64)],u1 (q4p F)⟩
theorem zlu(F:Nat):(qte F).ok pp:=
 okF q00 (zox F) (fn:=Tryz.f54) [(0,(qxl F).ann F)] (by kernel_rfl) (aL (by kernel_rfl) (zhw F) aN) fun d=>by kernel_rfl
def zlv(F:Nat):List ToldF:=[q5k F]
theorem z1d(F:Nat):q02 pp (zlv F):=⟨qa5 F,trivial⟩
def z1e(F:Nat):TX:=⟨16,[.row .u8 1 (.slot 0) false,.slot 3 .I],[.slot 2 .I],[],.ret,0,fun k=>u2 (q5n F k),fun k=>u2 (qf8 F (q5n F k))⟩
theorem zlw(F:Nat):(z1e F).ok pp Tryz.f109 F:=
 okX q00 (z1d F) [] aN (fun _=>rfl) (fun _ _=>rfl) (eR rfl) fun k d=>by kernel_rfl
def qxm(F:Nat):ToldF:=⟨109,1,[.row .u8 1 (.slot 0) false],[.ty .I],u1 (qyz F)⟩
theorem zq7(F:Nat):(qxm F).ok pp:=
 okF q00 (z1d F) (fn:=Tryz.f109) [(0,(z1e F).ann F)] (by kernel_rfl) (aX (by kernel_rfl) (zlw F) aN) fun d=>by kernel_rfl
def qtf(F:Nat):ToldF:=⟨110,0,[],[.row .i64 10],u0 (z2c F)⟩
theorem zlx(F:Nat):(qtf F).ok pp:=
 okF q00 (zox F) (fn:=Tryz.f110) [] (by kernel_rfl) aN fun d=>by kernel_rfl
def qzx(F:Nat):List ToldF:=[q5k F]
theorem qzy(F:Nat):q02 pp (qzx F):=⟨qa5 F,trivial⟩
def qgj(F:Nat):ToldF:=⟨111,2,[.row .u8 1 (.cell (.slot 0) 0) false,.segs [.sl 1 1 .whole,.J] (.slot 0) true (some 1),.ptr 0 2 2,.slot 1 .I],[.ty .I,.psegs 1 [.row .u8 1 false,.J]],u3 (q0p F)⟩
theorem z2v(F:Nat):(qgj F).ok pp:=
 okF q00 (qzy F) (fn:=Tryz.f111) [] (by kernel_rfl) aN fun d=>by kernel_rfl
def qly(F:Nat):ToldF:=⟨183,1,[.slot 0 .I],[.row .i64 1],u1 (q92 F)⟩
theorem zcm(F:Nat):(qly F).ok pp:=
 okF q00 (zox F) (fn:=Tryz.f183) [] (by kernel_rfl) aN fun d=>by kernel_rfl
def zcn(F:Nat):List ToldF:=[qly F]
theorem zco(F:Nat):q02 pp (zcn F):=⟨zcm F,trivial⟩
def qov(F:Nat):ToldF:=⟨112,3,[.slot 0 .I,.slot 1 .I,.slot 2 .I],[.ty .I],u3 (qfx F)⟩
theorem zhz(F:Nat):(qov F).ok pp:=
 okF q00 (zco F) (fn:=Tryz.f112) [] (by kernel_rfl) aN fun d=>by kernel_rfl
def z1f(F:Nat):ToldF:=⟨184,0,[],[.row .i64 1],u0 (zfg F)⟩
theorem zub(F:Nat):(z1f F).ok pp:=
 okF q00 (zox F) (fn:=Tryz.f184) [] (by kernel_rfl) aN fun d=>by kernel_rfl
def qtg(F:Nat):ToldF:=⟨185,0,[],[.row .i64 1],u0 (z2a F)⟩
theorem zly(F:Nat):(qtg F).ok pp:=
 okF q00 (zox F) (fn:=Tryz.f185) [] (by kernel_rfl) aN fun d=>by kernel_rfl
def zlz(F:Nat):List ToldF:=[z1f F,qtg F]
theorem z1g(F:Nat):q02 pp (zlz F):=⟨zub F,zly F,trivial⟩
def z1h(F:Nat):TL:=⟨53,[.slot 2 .I,.slot 7 .I,.slot 8 .I,.slot 9 .I],[.slot 7 .I,.slot 8 .I],0,fun k=>u4 (q6y F k),fun k=>u4 (z09 F (q6y F k))⟩
theorem zm0(F:Nat):(z1h F).ok pp Tryz.f113 F:=
 okL q00 (z1g F) [] aN (fun _=>rfl) (fun _ _=>rfl) fun k d=>by kernel_rfl
def qxn(F:Nat):ToldF:=⟨113,3,[.slot 0 .I,.slot 1 .I,.slot 2 .I],[.ty .I],u3 (qnk F)⟩
theorem zqa(F:Nat):(qxn F).ok pp:=
 okF q00 (z1g F) (fn:=Tryz.f113) [(0,(z1h F).ann F)] (by kernel_rfl) (aL (by kernel_rfl) (zm0 F) aN) fun d=>by kernel_rfl
def qlz(F:Nat):ToldF:=⟨186,1,[.slot 0 .I],[.row .i64 1],u1 (qi4 F)⟩
theorem zcp(F:Nat):(qlz F).ok pp:=
 okF q00 (zox F) (fn:=Tryz.f186) [] (by kernel_rfl) aN fun d=>by kernel_rfl
def zqb(F:Nat):List ToldF:=[qa6 F,qlz F]
theorem zqc(F:Nat):q02 pp (zqb F):=⟨qlw F,zcp F,trivial⟩
def z1i(F:Nat):ToldF:=⟨114,4,[.slot 0 .I,.slot 1 .I,.slot 2 .I,.slot 3 .I],[.ty .I],u4 (q6j F)⟩
theorem zuc(F:Nat):(z1i F).ok pp:=
 okF q00 (zqc F) (fn:=Tryz.f114) [] (by kernel_rfl) aN fun d=>by kernel_rfl
def zcq(F:Nat):List ToldF:=[q4r F,qxm F,qtf F,qgj F,qov F,qxn F,z1i F]
theorem q0v(F:Nat):q02 pp (zcq F):=⟨q9q F,zq7 F,zlx F,z2v F,zhz F,zqa F,zuc F,trivial⟩
def qhe(F:Nat):TL:=⟨368,[.segs [.hole (.L 64)] (.slot 2) true,.ptr 2 1 64,.segs [.hole (.L 64)] (.slot 4) true,.ptr 4 2 64,.segs [.J,.J,.J,.J,.J,.J,.J,.J,.J,.J] (.slot 6) true,.ptr 6 3 10,.row .u8 1 (.cell (.slot 7) 0) false,.segs [.sl 4 1 .whole,.J] (.slot 7) true,.ptr 7 5 2,.slot 8 .I,.slot 9 .I,.slot 10 .I,.row .i64 4 (.slot 11) true,.slot 12 .I,.slot 13 .I,.slot 14 .I],[.segs [.hole (.L 64)] (.slot 2) true,.ptr 2 1 64,.segs [.hole (.L 64)] (.slot 4) true,.ptr 4 2 64,.segs [.J,.J,.J,.J,.J,.J,.J,.J,.J,.J] (.slot 6) true,.ptr 6 3 10,.row .u8 1 (.cell (.slot 7) 0) false,.segs [.sl 4 1 .whole,.J] (.slot 7) true,.ptr 7 5 2,.slot 8 .I,.slot 9 .I,.slot 10 .I,.row .i64 4 (.slot 11) true,.slot 12 .I],2,fun k=>u21 (q39 F k),fun k=>u21 (qad F (q39 F k))⟩
theorem qth(F:Nat):(qhe F).ok pp Tryz.f55 F:=
 okL q00 (q0v F) [] aN (fun _=>rfl) (fun _ _=>rfl) fun k d=>by kernel_rfl
def qti(F:Nat):TL:=⟨368,[.segs [.hole (.L 64)] (.slot 2) true,.ptr 2 1 64,.segs [.hole (.L 64)] (.slot 4) true,.ptr 4 2 64,.segs [.J,.J,.J,.J,.J,.J,.J,.J,.J,.J] (.slot 6) true,.ptr 6 3 10,.row .u8 1 (.cell (.slot 7) 0) false,.segs [.sl 4 1 .whole,.J] (.slot 7) true,.ptr 7 5 2,.slot 8 .I,.slot 9 .I,.slot 10 .I,.row .i64 4 (.slot 11) true,.slot 12 .I],[.segs [.hole (.L 64)] (.slot 2) true,.ptr 2 1 64,.segs [.hole (.L 64)] (.slot 4) true,.ptr 4 2 64,.segs [.J,.J,.J,.J,.J,.J,.J,.J,.J,.J] (.slot 6) true,.ptr 6 3 10,.row .u8 1 (.cell (.slot 7) 0) false,.segs [.sl 4 1 .whole,.J] (.slot 7) true,.ptr 7 5 2,.slot 8 .I,.slot 9 .I,.slot 10 .I,.row .i64 4 (.slot 11) true],0,fun k=>u19 (q2j F k),fun k=>u19 (qae F (q2j F k))⟩
theorem zcr(F:Nat):(qti F).ok pp Tryz.f55 F:=
 okL q00 (q0v F) [(2,(qhe F).ann F)] (aL (by kernel_rfl) (qth F) aN) (fun _=>rfl) (fun _ _=>rfl) fun k d=>by kernel_rfl
def qhf(F:Nat):TL:=⟨368,[.segs [.hole (.L 64)] (.slot 2) true,.ptr 2 1 64,.segs [.hole (.L 64)] (.slot 4) true,.ptr 4 2 64,.segs [.J,.J,.J,.J,.J,.J,.J,.J,.J,.J] (.slot 6) true,.ptr 6 3 10,.row .u8 1 (.cell (.slot 7) 0) false,.segs [.sl 4 1 .whole,.J] (.slot 7) true,.ptr 7 5 2,.slot 8 .I,.slot 9 .I,.slot 10 .I,.row .i64 4 (.slot 11) true,.const 15 (.int .i64 (some 1) 1),.slot 16 .I,.slot 17 .I,.slot 18 .I],[.segs [.hole (.L 64)] (.slot 2) true,.ptr 2 1 64,.segs [.hole (.L 64)] (.slot 4) true,.ptr 4 2 64,.segs [.J,.J,.J,.J,.J,.J,.J,.J,.J,.J] (.slot 6) true,.ptr 6 3 10,.row .u8 1 (.cell (.slot 7) 0) false,.segs [.sl 4 1 .whole,.J] (.slot 7) true,.ptr 7 5 2,.slot 8 .I,.slot 9 .I,.slot 10 .I,.row .i64 4 (.slot 11) true,.const 15 (.int .i64 (some 1) 1),.slot 16 .I],6,fun k=>u21 (q3a F k),fun k=>u21 (qaf F (q3a F k))⟩
theorem qtj(F:Nat):(qhf F).ok pp Tryz.f55 F:=
 okL q00 (q0v F) [] aN (fun _=>rfl) (fun _ _=>rfl) fun k d=>by kernel_rfl
def qtk(F:Nat):TL:=⟨368,[.segs [.hole (.L 64)] (.slot 2) true,.ptr 2 1 64,.segs [.hole (.L 64)] (.slot 4) true,.ptr 4 2 64,.segs [.J,.J,.J,.J,.J,.J,.J,.J,.J,.J] (.slot 6) true,.ptr 6 3 10,.row .u8 1 (.cell (.slot 7) 0) false,.segs [.sl 4 1 .whole,.J] (.slot 7) true,.ptr 7 5 2,.slot 8 .I,.slot 9 .I,.slot 10 .I,.row .i64 4 (.slot 11) true,.const 15 (.int .i64 (some 1) 1),.slot 16 .I],[.segs [.hole (.L 64)] (.slot 2) true,.ptr 2 1 64,.segs [.hole (.L 64)] (.slot 4) true,.ptr 4 2 64,.segs [.J,.J,.J,.J,.J,.J,.J,.J,.J,.J] (.slot 6) true,.ptr 6 3 10,.row .u8 1 (.cell (.slot 7) 0) false,.segs [.sl 4 1 .whole,.J] (.slot 7) true,.ptr 7 5 2,.slot 8 .I,.slot 9 .I,.slot 10 .I,.row .i64 4 (.slot 11) true,.const 15 (.int .i64 (some 1) 1)],4,fun k=>u19 (q4k F k),fun k=>u19 (qag F (q4k F k))⟩
theorem zcs(F:Nat):(qtk F).ok pp Tryz.f55 F:=
 okL q00 (q0v F) [(6,(qhf F).ann F)] (aL (by kernel_rfl) (qtj F) aN) (fun _=>rfl) (fun _ _=>rfl) fun k d=>by kernel_rfl
def qej(F:Nat):TL:=⟨368,[.segs [.hole (.L 64)] (.slot 2) true,.ptr 2 1 64,.segs [.hole (.L 64)] (.slot 4) true,.ptr 4 2 64,.segs [.J,.J,.J,.J,.J,.J,.J,.J,.J,.J] (.slot 6) true,.ptr 6 3 10,.row .u8 1 (.cell (.slot 7) 0) false,.segs [.sl 4 1 .whole,.J] (.slot 7) true,.ptr 7 5 2,.slot 8 .I,.slot 9 .I,.slot 10 .I,.row .i64 4 (.slot 11) true,.const 15 (.int .i64 (some 1) 1),.slot 19 .I,.slot 20 .I,.slot 21 .I],[.segs [.hole (.L 64)] (.slot 2) true,.ptr 2 1 64,.segs [.hole (.L 64)] (.slot 4) true,.ptr 4 2 64,.segs [.J,.J,.J,.J,.J,.J,.J,.J,.J,.J] (.slot 6) true,.ptr 6 3 10,.row .u8 1 (.cell (.slot 7) 0) false,.segs [.sl 4 1 .whole,.J] (.slot 7) true,.ptr 7 5 2,.slot 8 .I,.slot 9 .I,.slot 10 .I,.row .i64 4 (.slot 11) true,.const 15 (.int .i64 (some 1) 1),.slot 19 .I],10,fun k=>u21 (q2q F k),fun k=>u21 (q95 F (q2q F k))⟩
theorem qow(F:Nat):(qej F).ok pp Tryz.f55 F:=
 okL q00 (q0v F) [] aN (fun _=>rfl) (fun _ _=>rfl) fun k d=>by kernel_rfl
def qtl(F:Nat):TL:=⟨368,[.segs [.hole (.L 64)] (.slot 2) true,.ptr 2 1 64,.segs [.hole (.L 64)] (.slot 4) true,.ptr 4 2 64,.segs [.J,.J,.J,.J,.J,.J,.J,.J,.J,.J] (.slot 6) true,.ptr 6 3 10,.row .u8 1 (.cell (.slot 7) 0) false,.segs [.sl 4 1 .whole,.J] (.slot 7) true,.ptr 7 5 2,.slot 8 .I,.slot 9 .I,.slot 10 .I,.row .i64 4 (.slot 11) true,.const 15 (.int .i64 (some 1) 1),.slot 19 .I],[.segs [.hole (.L 64)] (.slot 2) true,.ptr 2 1 64,.segs [.hole (.L 64)] (.slot 4) true,.ptr 4 2 64,.segs [.J,.J,.J,.J,.J,.J,.J,.J,.J,.J] (.slot 6) true,.ptr 6 3 10,.row .u8 1 (.cell (.slot 7) 0) false,.segs [.sl 4 1 .whole,.J] (.slot 7) true,.ptr 7 5 2,.slot 8 .I,.slot 9 .I,.slot 10 .I,.row .i64 4 (.slot 11) true,.const 15 (.int .i64 (some 1) 1)],8,fun k=>u19 (q3b F k),fun k=>u19 (qah F (q3b F k))⟩
theorem zct(F:Nat):(qtl F).ok pp Tryz.f55 F:=
 okL q00 (q0v F) [(10,(qej F).ann F)] (aL (by kernel_rfl) (qow F) aN) (fun _=>rfl) (fun _ _=>rfl) fun k d=>by kernel_rfl
def qek(F:Nat):TL:=⟨368,[.segs [.hole (.L 64)] (.slot 2) true,.ptr 2 1 64,.segs [.hole (.L 64)] (.slot 4) true,.ptr 4 2 64,.segs [.J,.J,.J,.J,.J,.J,.J,.J,.J,.J] (.slot 6) true,.ptr 6 3 10,.row .u8 1 (.cell (.slot 7) 0) false,.segs [.sl 4 1 .whole,.J] (.slot 7) true,.ptr 7 5 2,.slot 8 .I,.slot 9 .I,.slot 10 .I,.row .i64 4 (.slot 11) true,.slot 15 .I,.slot 22 .I,.slot 23 .I],[.segs [.hole (.L 64)] (.slot 2) true,.ptr 2 1 64,.segs [.hole (.L 64)] (.slot 4) true,.ptr 4 2 64,.segs [.J,.J,.J,.J,.J,.J,.J,.J,.J,.J] (.slot 6) true,.ptr 6 3 10,.row .u8 1 (.cell (.slot 7) 0) false,.segs [.sl 4 1 .whole,.J] (.slot 7) true,.ptr 7 5 2,.slot 8 .I,.slot 9 .I,.slot 10 .I,.row .i64 4 (.slot 11) true,.slot 15 .I,.slot 22 .I],14,fun k=>u21 (q2r F k),fun k=>u21 (q96 F (q2r F k))⟩
theorem qox(F:Nat):(qek F).ok pp Tryz.f55 F:=
 okL q00 (q0v F) [] aN (fun _=>rfl) (fun _ _=>rfl) fun k d=>by kernel_rfl
def qoy(F:Nat):TL:=⟨368,[.segs [.hole (.L 64)] (.slot 2) true,.ptr 2 1 64,.segs [.hole (.L 64)] (.slot 4) true,.ptr 4 2 64,.segs [.J,.J,.J,.J,.J,.J,.J,.J,.J,.J] (.slot 6) true,.ptr 6 3 10,.row .u8 1 (.cell (.slot 7) 0) false,.segs [.sl 4 1 .whole,.J] (.slot 7) true,.ptr 7 5 2,.slot 8 .I,.slot 9 .I,.slot 10 .I,.row .i64 4 (.slot 11) true,.slot 15 .I,.slot 22 .I],[.segs [.hole (.L 64)] (.slot 2) true,.ptr 2 1 64,.segs [.hole (.L 64)] (.slot 4) true,.ptr 4 2 64,.segs [.J,.J,.J,.J,.J,.J,.J,.J,.J,.J] (.slot 6) true,.ptr 6 3 10,.row .u8 1 (.cell (.slot 7) 0) false,.segs [.sl 4 1 .whole,.J] (.slot 7) true,.ptr 7 5 2,.slot 8 .I,.slot 9 .I,.slot 10 .I,.row .i64 4 (.slot 11) true],12,fun k=>u20 (q1u F k),fun k=>u20 (q97 F (q1u F k))⟩
theorem z88(F:Nat):(qoy F).ok pp Tryz.f55 F:=
 okL q00 (q0v F) [(14,(qek F).ann F)] (aL (by kernel_rfl) (qox F) aN) (fun _=>rfl) (fun _ _=>rfl) fun k d=>by kernel_rfl
def qel(F:Nat):TL:=⟨368,[.segs [.hole (.L 64)] (.slot 2) true,.ptr 2 1 64,.segs [.hole (.L 64)] (.slot 4) true,.ptr 4 2 64,.segs [.J,.J,.J,.J,.J,.J,.J,.J,.J,.J] (.slot 6) true,.ptr 6 3 10,.row .u8 1 (.cell (.slot 7) 0) false,.segs [.sl 4 1 .whole,.J] (.slot 7) true,.ptr 7 5 2,.slot 8 .I,.slot 9 .I,.slot 10 .I,.row .i64 4 (.slot 11) true,.segs [.hole (.L 16)] (.slot 24) true,.ptr 24 7 16,.segs [.hole (.L 16)] (.slot 25) true,.ptr 25 8 16,.slot 26 .I,.slot 27 .I,.slot 28 .I],[.segs [.hole (.L 64)] (.slot 2) true,.ptr 2 1 64,.segs [.hole (.L 64)] (.slot 4) true,.ptr 4 2 64,.segs [.J,.J,.J,.J,.J,.J,.J,.J,.J,.J] (.slot 6) true,.ptr 6 3 10,.row .u8 1 (.cell (.slot 7) 0) false,.segs [.sl 4 1 .whole,.J] (.slot 7) true,.ptr 7 5 2,.slot 8 .I,.slot 9 .I,.slot 10 .I,.row .i64 4 (.slot 11) true,.segs [.hole (.L 16)] (.slot 24) true,.ptr 24 7 16,.segs [.hole (.L 16)] (.slot 25) true,.ptr 25 8 16,.slot 26 .I,.slot 27 .I],18,fun k=>u23 (q1v F k),fun k=>u23 (q98 F (q1v F k))⟩
theorem qoz(F:Nat):(qel F).ok pp Tryz.f55 F:=
 okL q00 (q0v F) [] aN (fun _=>rfl) (fun _ _=>rfl) fun k d=>by kernel_rfl
def qp0(F:Nat):TL:=⟨368,[.segs [.hole (.L 64)] (.slot 2) true,.ptr 2 1 64,.segs [.hole (.L 64)] (.slot 4) true,.ptr 4 2 64,.segs [.J,.J,.J,.J,.J,.J,.J,.J,.J,.J] (.slot 6) true,.ptr 6 3 10,.row .u8 1 (.cell (.slot 7) 0) false,.segs [.sl 4 1 .whole,.J] (.slot 7) true,.ptr 7 5 2,.slot 8 .I,.slot 9 .I,.slot 10 .I,.row .i64 4 (.slot 11) true,.segs [.hole (.L 16)] (.slot 24) true,.ptr 24 7 16,.segs [.hole (.L 16)] (.slot 25) true,.ptr 25 8 16,.slot 26 .I],[.segs [.hole (.L 64)] (.slot 2) true,.ptr 2 1 64,.segs [.hole (.L 64)] (.slot 4) true,.ptr 4 2 64,.segs [.J,.J,.J,.J,.J,.J,.J,.J,.J,.J] (.slot 6) true,.ptr 6 3 10,.row .u8 1 (.cell (.slot 7) 0) false,.segs [.sl 4 1 .whole,.J] (.slot 7) true,.ptr 7 5 2,.slot 8 .I,.slot 9 .I,.slot 10 .I,.row .i64 4 (.slot 11) true,.segs [.hole (.L 16)] (.slot 24) true,.ptr 24 7 16,.segs [.hole (.L 16)] (.slot 25) true,.ptr 25 8 16],16,fun k=>u21 (q1w F k),fun k=>u21 (q99 F (q1w F k))⟩
theorem z89(F:Nat):(qp0 F).ok pp Tryz.f55 F:=
 okL q00 (q0v F) [(18,(qel F).ann F)] (aL (by kernel_rfl) (qoz F) aN) (fun _=>rfl) (fun _ _=>rfl) fun k d=>by kernel_rfl
def qp1(F:Nat):TL:=⟨368,[.segs [.hole (.L 64)] (.slot 2) true,.ptr 2 1 64,.segs [.hole (.L 64)] (.slot 4) true,.ptr 4 2 64,.segs [.J,.J,.J,.J,.J,.J,.J,.J,.J,.J] (.slot 6) true,.ptr 6 3 10,.row .u8 1 (.cell (.slot 7) 0) false,.segs [.sl 4 1 .whole,.J] (.slot 7) true,.ptr 7 5 2,.slot 8 .I,.slot 9 .I,.slot 10 .I,.row .i64 4 (.slot 11) true,.segs [.hole (.L 16)] (.slot 24) true,.ptr 24 7 16,.segs [.hole (.L 16)] (.slot 25) true,.ptr 25 8 16,.slot 29 .I],[.segs [.hole (.L 64)] (.slot 2) true,.ptr 2 1 64,.segs [.hole (.L 64)] (.slot 4) true,.ptr 4 2 64,.segs [.J,.J,.J,.J,.J,.J,.J,.J,.J,.J] (.slot 6) true,.ptr 6 3 10,.slot 8 .I,.slot 9 .I,.slot 10 .I,.row .i64 4 (.slot 11) true,.segs [.hole (.L 16)] (.slot 24) true,.ptr 24 5 16,.segs [.hole (.L 16)] (.slot 25) true,.ptr 25 6 16],20,fun k=>u21 (q10 F k),fun k=>u21 (q6k F (q10 F k))⟩
theorem z8a(F:Nat):(qp1 F).ok pp Tryz.f55 F:=
 okL q00 (q0v F) [] aN (fun _=>rfl) (fun _ _=>rfl) fun k d=>by kernel_rfl
def qem(F:Nat):TL:=⟨368,[.segs [.hole (.L 64)] (.slot 2) true,.ptr 2 1 64,.segs [.hole (.L 64)] (.slot 4) true,.ptr 4 2 64,.segs [.J,.J,.J,.J,.J,.J,.J,.J,.J,.J] (.slot 6) true,.ptr 6 3 10,.slot 8 .I,.slot 9 .I,.slot 10 .I,.row .i64 4 (.slot 11) true,.segs [.hole (.L 16)] (.slot 24) true,.ptr 24 5 16,.segs [.hole (.L 16)] (.slot 25) true,.ptr 25 6 16,.slot 31 .I,.segs [.hole (.L 4)] (.slot 33) true,.ptr 33 7 4,.segs [.hole (.L 4)] (.slot 34) true,.ptr 34 8 4,.slot 35 .I,.slot 36 .I,.slot 37 .I,.slot 38 .I,.slot 39 .I],[.segs [.hole (.L 64)] (.slot 2) true,.ptr 2 1 64,.segs [.hole (.L 64)] (.slot 4) true,.ptr 4 2 64,.segs [.J,.J,.J,.J,.J,.J,.J,.J,.J,.J] (.slot 6) true,.ptr 6 3 10,.slot 8 .I,.slot 9 .I,.slot 10 .I,.row .i64 4 (.slot 11) true,.segs [.hole (.L 16)] (.slot 24) true,.ptr 24 5 16,.segs [.hole (.L 16)] (.slot 25) true,.ptr 25 6 16,.slot 31 .I,.segs [.hole (.L 4)] (.slot 33) true,.ptr 33 7 4,.segs [.hole (.L 4)] (.slot 34) true,.ptr 34 8 4,.slot 37 .I,.slot 38 .I],24,fun k=>u26 (q11 F k),fun k=>u26 (q9a F (q11 F k))⟩
theorem qp2(F:Nat):(qem F).ok pp Tryz.f55 F:=
 okL q00 (q0v F) [] aN (fun _=>rfl) (fun _ _=>rfl) fun k d=>by kernel_rfl
def qp3(F:Nat):TL:=⟨368,[.segs [.hole (.L 64)] (.slot 2) true,.ptr 2 1 64,.segs [.hole (.L 64)] (.slot 4) true,.ptr 4 2 64,.segs [.J,.J,.J,.J,.J,.J,.J,.J,.J,.J] (.slot 6) true,.ptr 6 3 10,.slot 8 .I,.slot 9 .I,.slot 10 .I,.row .i64 4 (.slot 11) true,.segs [.hole (.L 16)] (.slot 24) true,.ptr 24 5 16,.segs [.hole (.L 16)] (.slot 25) true,.ptr 25 6 16,.slot 31 .I],[.segs [.hole (.L 64)] (.slot 2) true,.ptr 2 1 64,.segs [.hole (.L 64)] (.slot 4) true,.ptr 4 2 64],22,fun k=>u19 (q1x F k),fun k=>u19 (q9b F (q1x F k))⟩
theorem z8b(F:Nat):(qp3 F).ok pp Tryz.f55 F:=
 okL q00 (q0v F) [(24,(qem F).ann F)] (aL (by kernel_rfl) (qp2 F) aN) (fun _=>rfl) (fun _ _=>rfl) fun k d=>by kernel_rfl
def qp4(F:Nat):ToldF:=⟨55,1,[.row .u8 1 (.slot 0) false],[.ty (.L 64),.ty .I],u1 (qg2 F)⟩
theorem zi2(F:Nat):(qp4 F).ok pp:=
 okF q00 (q0v F) (fn:=Tryz.f55) [(2,(qhe F).ann F),(0,(qti F).ann F),(6,(qhf F).ann F),(4,(qtk F).ann F),(10,(qej F).ann F),(8,(qtl F).ann F),(14,(qek F).ann F),(12,(qoy F).ann F),(18,(qel F).ann F),(16,(qp0 F).ann F),(20,(qp1 F).ann F),(24,(qem F).ann F),(22,(qp3 F).ann F)] (by kernel_rfl) (aL (by kernel_rfl) (qth F) (aL (by kernel_rfl) (zcr F) (aL (by kernel_rfl) (qtj F) (aL (by kernel_rfl) (zcs F) (aL (by kernel_rfl) (qow F) (aL (by kernel_rfl) (zct F) (aL (by kernel_rfl) (qox F) (aL (by kernel_rfl) (z88 F) (aL (by kernel_rfl) (qoz F) (aL (by kernel_rfl) (z89 F) (aL (by kernel_rfl) (z8a F) (aL (by kernel_rfl) (qp2 F) (aL (by kernel_rfl) (z8b F) aN))))))))))))) fun d=>by kernel_rfl
def zqd(F:Nat):List ToldF:=[qfp F]
theorem zqe(F:Nat):q02 pp (zqd F):=⟨qx9 F,trivial⟩
def q66(F:Nat):ToldF:=⟨118,3,[.row .u8 1 (.slot 0) false,.slot 1 .I,.slot 2 .I],[.ty .I],u3 (q2x F)⟩
theorem qbl(F:Nat):(q66 F).ok pp:=
 okF q00 (zqe F) (fn:=Tryz.f118) [] (by kernel_rfl) aN fun d=>by kernel_rfl
def zi3(F:Nat):List ToldF:=[q66 F]
theorem qxo(F:Nat):q02 pp (zi3 F):=⟨qbl F,trivial⟩
def qxp(F:Nat):TL:=⟨30,[.row .u8 1 (.slot 0) false,.segs [.hole (.L 16)] (.slot 2) true,.ptr 2 2 16,.segs [.hole (.L 16)] (.slot 3) true,.ptr 3 3 16,.slot 4 .I],[.segs [.hole (.L 16)] (.slot 2) true,.ptr 2 1 16,.segs [.hole (.L 16)] (.slot 3) true,.ptr 3 2 16],0,fun k=>u4 (qf4 F k),fun k=>u4 (qvj F (qf4 F k))⟩
theorem zi4(F:Nat):(qxp F).ok pp Tryz.f187 F:=
 okL q00 (qxo F) [] aN (fun _=>rfl) (fun _ _=>rfl) fun k d=>by kernel_rfl
def qtm(F:Nat):ToldF:=⟨187,1,[.row .u8 1 (.slot 0) false],[.ty (.L 16)],u1 (zfi F)⟩
theorem zm1(F:Nat):(qtm F).ok pp:=
 okF q00 (qxo F) (fn:=Tryz.f187) [(0,(qxp F).ann F)] (by kernel_rfl) (aL (by kernel_rfl) (zi4 F) aN) fun d=>by kernel_rfl
def zi5(F:Nat):List ToldF:=[q66 F,qtm F]
theorem qxq(F:Nat):q02 pp (zi5 F):=⟨qbl F,zm1 F,trivial⟩
def qxr(F:Nat):TL:=⟨78,[.row .u8 1 (.slot 0) false,.segs [.const (.bool (some false) false),.const (.bool (some false) false),.hole (.L 3),.hole (.L 3),.hole (.L 2),.hole (.L 16)] (.slot 2) true,.ptr 2 2 26,.segs [.hole (.bool),.hole (.bool),.hole (.L 3),.hole (.L 3),.hole (.L 2),.hole (.L 16)] (.slot 4) true,.ptr 4 3 26,.slot 5 .I],[.row .u8 1 (.slot 0) false,.segs [.const (.bool (some false) false),.const (.bool (some false) false),.hole (.L 3),.hole (.L 3),.hole (.L 2),.hole (.L 16)] (.slot 2) true,.ptr 2 2 26,.segs [.hole (.bool),.hole (.bool),.hole (.L 3),.hole (.L 3),.hole (.L 2),.hole (.L 16)] (.slot 4) true,.ptr 4 3 26],0,fun k=>u12 (qf5 F k),fun k=>u12 (qvk F (qf5 F k))⟩
theorem zi6(F:Nat):(qxr F).ok pp Tryz.f115 F:=
 okL q00 (qxq F) [] aN (fun _=>rfl) (fun _ _=>rfl) fun k d=>by kernel_rfl
def qhg(F:Nat):ToldF:=⟨115,1,[.row .u8 1 (.slot 0) false],[.ty (.agg [.bool,.bool,.L 3,.L 3,.L 2,.L 16]),.ty .I],u1 (qqb F)⟩
theorem z1j(F:Nat):(qhg F).ok pp:=
 okF q00 (qxq F) (fn:=Tryz.f115) [(0,(qxr F).ann F)] (by kernel_rfl) (aL (by kernel_rfl) (zi6 F) aN) fun d=>by kernel_rfl
def z4z(F:Nat):ToldF:=⟨99,3,[.slot 0 .I,.slot 1 .I,.slot 2 .I],[.ty (.bool)],u3 (zz8 F)⟩
theorem zx6(F:Nat):(z4z F).ok pp:=
 okF q00 (zox F) (fn:=Tryz.f99) [] (by kernel_rfl) aN fun d=>by kernel_rfl
def qfq(F:Nat):ToldF:=⟨174,2,[.slot 0 .I,.slot 1 .I],[.ty .I],u2 (qvl F)⟩
theorem qxs(F:Nat):(qfq F).ok pp:=
 okF q00 (zox F) (fn:=Tryz.f174) [] (by kernel_rfl) aN fun d=>by kernel_rfl
def zi7(F:Nat):List ToldF:=[q4r F,z4z F,qfq F]
theorem qxt(F:Nat):q02 pp (zi7 F):=⟨q9q F,zx6 F,qxs F,trivial⟩
def qxu(F:Nat):TL:=⟨62,[.segs [.hole (.bool),.hole (.bool),.hole (.L 3),.hole (.L 3),.hole (.L 2),.hole (.L 16)] (.slot 1) true,.ptr 1 1 26,.segs [.hole (.L 8)] (.slot 2) true,.ptr 2 2 8,.segs [.hole (.L 8)] (.slot 4) true,.ptr 4 3 8,.slot 5 .I,.slot 6 .I],[.segs [.hole (.L 8)] (.slot 2) true,.ptr 2 1 8,.segs [.hole (.L 8)] (.slot 4) true,.ptr 4 2 8,.slot 5 .I],0,fun k=>u10 (qf6 F k),fun k=>u10 (qvm F (qf6 F k))⟩
theorem zi8(F:Nat):(qxu F).ok pp Tryz.f100 F:=
 okL q00 (qxt F) [] aN (fun _=>rfl) (fun _ _=>rfl) fun k d=>by kernel_rfl
def qaq(F:Nat):ToldF:=⟨100,1,[.slot 0 (.agg [.bool,.bool,.L 3,.L 3,.L 2,.L 16])],[.ty (.L 8),.ty .I],u1 (qje F)⟩
theorem qmx(F:Nat):(qaq F).ok pp:=
 okF q00 (qxt F) (fn:=Tryz.f100) [(0,(qxu F).ann F)] (by kernel_rfl) (aL (by kernel_rfl) (zi8 F) aN) fun d=>by kernel_rfl
def zm2(F:Nat):List ToldF:=[qfq F]
theorem zm3(F:Nat):q02 pp (zm2 F):=⟨qxs F,trivial⟩
def qkd(F:Nat):ToldF:=⟨101,2,[.slot 0 (.bool),.slot 1 .I],[.ty .I],u2 (z6u F)⟩
theorem z50(F:Nat):(qkd F).ok pp:=
 okF q00 (zm3 F) (fn:=Tryz.f101) [] (by kernel_rfl) aN fun d=>by kernel_rfl
def zi9(F:Nat):List ToldF:=[qfq F]
theorem zia(F:Nat):q02 pp (zi9 F):=⟨qxs F,trivial⟩
def qtn(F:Nat):ToldF:=⟨103,1,[.slot 0 .I],[.ty (.L 4)],u1 (zfj F)⟩
theorem zm4(F:Nat):(qtn F).ok pp:=
 okF q00 (zia F) (fn:=Tryz.f103) [] (by kernel_rfl) aN fun d=>by kernel_rfl
def qar(F:Nat):ToldF:=⟨95,2,[.slot 0 .I,.slot 1 .I],[.ty .I],u2 (qec F)⟩
theorem qmy(F:Nat):(qar F).ok pp:=
 okF q00 (zox F) (fn:=Tryz.f95) [] (by kernel_rfl) aN fun d=>by kernel_rfl
def zqh(F:Nat):List ToldF:=[qar F]
theorem z51(F:Nat):q02 pp (zqh F):=⟨qmy F,trivial⟩
def z52(F:Nat):TL:=⟨19,[.slot 1 .I,.segs [.hole (.L 4)] (.slot 2) true,.ptr 2 1 4,.segs [.hole (.L 4)] (.slot 4) true,.ptr 4 2 4,.slot 5 .I],[.segs [.hole (.L 4)] (.slot 2) true,.ptr 2 1 4,.segs [.hole (.L 4)] (.slot 4) true,.ptr 4 2 4],0,fun k=>u4 (ql4 F k),fun k=>u4 (z3t F (ql4 F k))⟩
theorem zqi(F:Nat):(z52 F).ok pp Tryz.f102 F:=
 okL q00 (z51 F) [] aN (fun _=>rfl) (fun _ _=>rfl) fun k d=>by kernel_rfl
def qmz(F:Nat):ToldF:=⟨102,2,[.slot 0 (.L 4),.slot 1 .I],[.ty (.L 4)],u2 (q7c F)⟩
theorem za3(F:Nat):(qmz F).ok pp:=
 okF q00 (z51 F) (fn:=Tryz.f102) [(0,(z52 F).ann F)] (by kernel_rfl) (aL (by kernel_rfl) (zqi F) aN) fun d=>by kernel_rfl
def zid(F:Nat):List ToldF:=[qaq F,qkd F,qtn F,qmz F]
theorem qxv(F:Nat):q02 pp (zid F):=⟨qmx F,z50 F,zm4 F,za3 F,trivial⟩
def qxw(F:Nat):TL:=⟨39,[.segs [.hole (.bool),.hole (.bool),.hole (.L 3),.hole (.L 3),.hole (.L 2),.hole (.L 16)] (.slot 1) true,.ptr 1 1 26,.segs [.hole (.L 64)] (.slot 2) true,.ptr 2 2 64,.segs [.hole (.L 8)] (.slot 3) true,.ptr 3 3 8,.segs [.hole (.L 64)] (.slot 5) true,.ptr 5 4 64,.slot 6 .I],[.segs [.hole (.L 64)] (.slot 2) true,.ptr 2 1 64,.segs [.hole (.L 64)] (.slot 5) true,.ptr 5 2 64],0,fun k=>u10 (qf7 F k),fun k=>u10 (qvn F (qf7 F k))⟩
theorem zie(F:Nat):(qxw F).ok pp Tryz.f49 F:=
 okL q00 (qxv F) [] aN (fun _=>rfl) (fun _ _=>rfl) fun k d=>by kernel_rfl
def qhh(F:Nat):ToldF:=⟨49,1,[.slot 0 (.agg [.bool,.bool,.L 3,.L 3,.L 2,.L 16])],[.ty (.L 64)],u1 (qqc F)⟩
theorem z1k(F:Nat):(qhh F).ok pp:=
 okF q00 (qxv F) (fn:=Tryz.f49) [(0,(qxw F).ann F)] (by kernel_rfl) (aL (by kernel_rfl) (zie F) aN) fun d=>by kernel_rfl
def zcu(F:Nat):List ToldF:=[qhg F,qhh F]
theorem zcv(F:Nat):q02 pp (zcu F):=⟨z1j F,z1k F,trivial⟩
def qp5(F:Nat):ToldF:=⟨56,1,[.row .u8 1 (.slot 0) false],[.ty (.L 64),.ty .I],u1 (qvo F)⟩
theorem zif(F:Nat):(qp5 F).ok pp:=
 okF q00 (zcv F) (fn:=Tryz.f56) [] (by kernel_rfl) aN fun d=>by kernel_rfl
def zig(F:Nat):List ToldF:=[z17 F,qhg F]
theorem zih(F:Nat):q02 pp (zig F):=⟨zu9 F,z1j F,trivial⟩
def qhi(F:Nat):ToldF:=⟨119,2,[.row .u8 1 (.slot 0) false,.slot 1 (.bool)],[.ty (.agg [.bool,.bool,.L 3,.L 3,.L 2,.L 16])],u2 (qqe F)⟩
theorem z1l(F:Nat):(qhi F).ok pp:=
 okF q00 (zih F) (fn:=Tryz.f119) [] (by kernel_rfl) aN fun d=>by kernel_rfl
def zm5(F:Nat):List ToldF:=[qaq F,qhi F]
theorem zm6(F:Nat):q02 pp (zm5 F):=⟨qmx F,z1l F,trivial⟩
def qxx(F:Nat):ToldF:=⟨116,2,[.row .u8 1 (.slot 0) false,.slot 1 (.bool)],[.ty .I],u2 (znm F)⟩
theorem zqj(F:Nat):(qxx F).ok pp:=
 okF q00 (zm6 F) (fn:=Tryz.f116) [] (by kernel_rfl) aN fun d=>by kernel_rfl
def zqk(F:Nat):List ToldF:=[q66 F]
theorem zql(F:Nat):q02 pp (zqk F):=⟨qbl F,trivial⟩
def qn0(F:Nat):ToldF:=⟨179,3,[.row .u8 1 (.slot 0) false,.slot 1 .I,.slot 2 .I],[.ty .I],u3 (q3v F)⟩
theorem za4(F:Nat):(qn0 F).ok pp:=
 okF q00 (zql F) (fn:=Tryz.f179) [] (by kernel_rfl) aN fun d=>by kernel_rfl
def zm7(F:Nat):List ToldF:=[q66 F]
theorem z1m(F:Nat):q02 pp (zm7 F):=⟨qbl F,trivial⟩
def z1n(F:Nat):TL:=⟨23,[.row .u8 1 (.slot 0) false,.row .i64 1 (.slot 1) false,.slot 5 .I,.slot 6 .I],[.slot 5 .I],0,fun k=>u4 (qib F k),fun k=>u4 (z0d F (qib F k))⟩
theorem zm8(F:Nat):(z1n F).ok pp Tryz.f188 F:=
 okL q00 (z1m F) [] aN (fun _=>rfl) (fun _ _=>rfl) fun k d=>by kernel_rfl
def qke(F:Nat):ToldF:=⟨188,2,[.row .u8 1 (.slot 0) false,.row .i64 1 (.slot 1) false],[.ty .I],u2 (q9e F)⟩
theorem z53(F:Nat):(qke F).ok pp:=
 okF q00 (z1m F) (fn:=Tryz.f188) [(0,(z1n F).ann F)] (by kernel_rfl) (aL (by kernel_rfl) (zm8 F) aN) fun d=>by kernel_rfl
def zm9(F:Nat):List ToldF:=[q4r F]
theorem zma(F:Nat):q02 pp (zm9 F):=⟨q9q F,trivial⟩
def qxy(F:Nat):ToldF:=⟨190,1,[.slot 0 (.L 3)],[.ty (.L 4)],u1 (qz0 F)⟩
theorem zqm(F:Nat):(qxy F).ok pp:=
 okF q00 (zma F) (fn:=Tryz.f190) [] (by kernel_rfl) aN fun d=>by kernel_rfl
def zii(F:Nat):List ToldF:=[qa6 F,qar F]
theorem qkf(F:Nat):q02 pp (zii F):=⟨qlw F,qmy F,trivial⟩
def qkg(F:Nat):TL:=⟨58,[.segs [.hole (.L 4)] (.slot 3) true,.ptr 3 1 4,.segs [.hole (.L 4)] (.slot 4) true,.ptr 4 2 4,.segs [.hole (.L 4)] (.slot 5) true,.ptr 5 3 4,.segs [.hole (.L 64)] (.slot 6) true,.ptr 6 4 64,.segs [.hole (.L 64)] (.slot 7) true,.ptr 7 5 64,.slot 8 .I,.slot 9 .I],[.segs [.hole (.L 4)] (.slot 3) true,.ptr 3 1 4,.segs [.hole (.L 4)] (.slot 4) true,.ptr 4 2 4,.segs [.hole (.L 4)] (.slot 5) true,.ptr 5 3 4,.segs [.hole (.L 64)] (.slot 6) true,.ptr 6 4 64,.segs [.hole (.L 64)] (.slot 7) true,.ptr 7 5 64,.slot 8 .I],2,fun k=>u7 (qfa F k),fun k=>u7 (qvr F (qfa F k))⟩
theorem qxz(F:Nat):(qkg F).ok pp Tryz.f189 F:=
 okL q00 (qkf F) [] aN (fun _=>rfl) (fun _ _=>rfl) fun k d=>by kernel_rfl
def qy0(F:Nat):TL:=⟨58,[.segs [.hole (.L 4)] (.slot 3) true,.ptr 3 1 4,.segs [.hole (.L 4)] (.slot 4) true,.ptr 4 2 4,.segs [.hole (.L 4)] (.slot 5) true,.ptr 5 3 4,.segs [.hole (.L 64)] (.slot 6) true,.ptr 6 4 64,.segs [.hole (.L 64)] (.slot 7) true,.ptr 7 5 64,.slot 8 .I],[.segs [.hole (.L 64)] (.slot 6) true,.ptr 6 1 64,.segs [.hole (.L 64)] (.slot 7) true,.ptr 7 2 64],0,fun k=>u6 (qfb F k),fun k=>u6 (qvs F (qfb F k))⟩
theorem zij(F:Nat):(qy0 F).ok pp Tryz.f189 F:=
 okL q00 (qkf F) [(2,(qkg F).ann F)] (aL (by kernel_rfl) (qxz F) aN) (fun _=>rfl) (fun _ _=>rfl) fun k d=>by kernel_rfl
def qto(F:Nat):ToldF:=⟨189,3,[.slot 0 (.L 4),.slot 1 (.L 4),.slot 2 (.L 4)],[.ty (.L 64)],u3 (zfl F)⟩
theorem zmb(F:Nat):(qto F).ok pp:=
 okF q00 (qkf F) (fn:=Tryz.f189) [(2,(qkg F).ann F),(0,(qy0 F).ann F)] (by kernel_rfl) (aL (by kernel_rfl) (qxz F) (aL (by kernel_rfl) (zij F) aN)) fun d=>by kernel_rfl
def zcw(F:Nat):List ToldF:=[qn0 F,qke F,qxy F,qto F]
theorem zcx(F:Nat):q02 pp (zcw F):=⟨za4 F,z53 F,zqm F,zmb F,trivial⟩
def qp6(F:Nat):ToldF:=⟨117,1,[.row .u8 1 (.slot 0) false],[.ty (.L 64)],u1 (z9r F)⟩
theorem zik(F:Nat):(qp6 F).ok pp:=
 okF q00 (zcx F) (fn:=Tryz.f117) [] (by kernel_rfl) aN fun d=>by kernel_rfl
def zcy(F:Nat):List ToldF:=[q4r F]
theorem zcz(F:Nat):q02 pp (zcy F):=⟨q9q F,trivial⟩
def qp7(F:Nat):ToldF:=⟨191,1,[.slot 0 (.L 3)],[.ty (.L 4)],u1 (q3e F)⟩
theorem zil(F:Nat):(qp7 F).ok pp:=
 okF q00 (zcz F) (fn:=Tryz.f191) [] (by kernel_rfl) aN fun d=>by kernel_rfl
def qkh(F:Nat):ToldF:=⟨192,1,[.slot 0 .I],[.ty .I],u1 (qfc F)⟩
theorem z8c(F:Nat):(qkh F).ok pp:=
 okF q00 (zox F) (fn:=Tryz.f192) [] (by kernel_rfl) aN fun d=>by kernel_rfl
def qp8(F:Nat):ToldF:=⟨193,1,[.slot 0 (.L 3)],[.ty .I],u1 (qvt F)⟩
theorem zim(F:Nat):(qp8 F).ok pp:=
 okF q00 (zox F) (fn:=Tryz.f193) [] (by kernel_rfl) aN fun d=>by kernel_rfl
def zmc(F:Nat):List ToldF:=[qmz F,qn0 F,qke F,qp7 F,qkh F,qp8 F]
theorem zmd(F:Nat):q02 pp (zmc F):=⟨za3 F,za4 F,z53 F,zil F,z8c F,zim F,trivial⟩
def qy1(F:Nat):ToldF:=⟨120,2,[.row .u8 1 (.slot 0) false,.slot 1 .I],[.ty (.L 16)],u2 (z6v F)⟩
theorem zqn(F:Nat):(qy1 F).ok pp:=
 okF q00 (zmd F) (fn:=Tryz.f120) [] (by kernel_rfl) aN fun d=>by kernel_rfl
def zd2(F:Nat):List ToldF:=[q66 F,qaq F,qkd F,qhh F,qhi F,qxx F,qp6 F,qy1 F]
theorem qtp(F:Nat):q02 pp (zd2 F):=⟨qbl F,qmx F,z50 F,z1k F,z1l F,zqj F,zik F,zqn F,trivial⟩
def qtq(F:Nat):TL:=⟨91,[.row .u8 1 (.slot 0) false,.segs [.hole (.L 64)] (.slot 4) true,.ptr 4 2 64,.slot 6 .I,.slot 7 (.bool),.segs [.hole (.bool),.hole (.bool),.hole (.L 3),.hole (.L 3),.hole (.L 2),.hole (.L 16)] (.slot 8) true,.ptr 8 3 26,.segs [.hole (.L 64)] (.slot 9) true,.ptr 9 4 64,.segs [.hole (.L 8)] (.slot 10) true,.ptr 10 5 8,.slot 12 .I],[.segs [.hole (.L 64)] (.slot 4) true,.ptr 4 1 64,.segs [.hole (.L 64)] (.slot 9) true,.ptr 9 2 64],0,fun k=>u13 (q8h F k),fun k=>u13 (qs0 F (q8h F k))⟩
theorem zd3(F:Nat):(qtq F).ok pp Tryz.f57 F:=
 okL q00 (qtp F) [] aN (fun _=>rfl) (fun _ _=>rfl) fun k d=>by kernel_rfl
def qp9(F:Nat):ToldF:=⟨57,2,[.row .u8 1 (.slot 0) false,.slot 1 (.bool)],[.ty (.L 64),.ty .I],u2 (q8i F)⟩
theorem zin(F:Nat):(qp9 F).ok pp:=
 okF q00 (qtp F) (fn:=Tryz.f57) [(0,(qtq F).ann F)] (by kernel_rfl) (aL (by kernel_rfl) (zd3 F) aN) fun d=>by kernel_rfl
def zio(F:Nat):List ToldF:=[q66 F]
theorem qy2(F:Nat):q02 pp (zio F):=⟨qbl F,trivial⟩
def qy3(F:Nat):TL:=⟨37,[.row .u8 1 (.slot 0) false,.segs [.hole (.L 16)] (.slot 5) true,.ptr 5 2 16,.segs [.hole (.L 16)] (.slot 7) true,.ptr 7 3 16,.slot 8 .I],[.row .u8 1 (.slot 0) false,.segs [.hole (.L 16)] (.slot 5) true,.ptr 5 2 16,.segs [.hole (.L 16)] (.slot 7) true,.ptr 7 3 16],0,fun k=>u4 (qfg F k),fun k=>u4 (qvx F (qfg F k))⟩
theorem ziq(F:Nat):(qy3 F).ok pp Tryz.f121 F:=
 okL q00 (qy2 F) [] aN (fun _=>rfl) (fun _ _=>rfl) fun k d=>by kernel_rfl
def qtr(F:Nat):ToldF:=⟨121,1,[.row .u8 1 (.slot 0) false],[.ty .I,.ty .I,.ty .I,.ty (.L 16),.ty .I],u1 (zfp F)⟩
theorem zme(F:Nat):(qtr F).ok pp:=
 okF q00 (qy2 F) (fn:=Tryz.f121) [(0,(qy3 F).ann F)] (by kernel_rfl) (aL (by kernel_rfl) (ziq F) aN) fun d=>by kernel_rfl
def qts(F:Nat):ToldF:=⟨123,1,[.slot 0 .I],[.ty (.L 8)],u1 (zfq F)⟩
theorem zmf(F:Nat):(qts F).ok pp:=
 okF q00 (zox F) (fn:=Tryz.f123) [] (by kernel_rfl) aN fun d=>by kernel_rfl
def zit(F:Nat):List ToldF:=[qar F]
theorem ziu(F:Nat):q02 pp (zit F):=⟨qmy F,trivial⟩
def qtt(F:Nat):ToldF:=⟨122,4,[.slot 0 .I,.slot 1 .I,.slot 2 .I,.slot 3 (.bool)],[.ty .I],u4 (zfr F)⟩
theorem zmg(F:Nat):(qtt F).ok pp:=
 okF q00 (ziu F) (fn:=Tryz.f122) [] (by kernel_rfl) aN fun d=>by kernel_rfl
def zd4(F:Nat):List ToldF:=[qtr F,qts F,qtt F]
theorem qtu(F:Nat):q02 pp (zd4 F):=⟨zme F,zmf F,zmg F,trivial⟩
def qtv(F:Nat):TL:=⟨41,[.slot 1 (.bool),.segs [.hole (.L 16)] (.slot 4) true,.ptr 4 1 16,.slot 6 .I,.slot 7 .I,.slot 8 .I,.segs [.hole (.L 16)] (.slot 9) true,.ptr 9 2 16,.slot 11 .I],[.segs [.hole (.L 16)] (.slot 4) true,.ptr 4 1 16,.segs [.hole (.L 16)] (.slot 9) true,.ptr 9 2 16],0,fun k=>u7 (qcq F k),fun k=>u7 (qs2 F (qcq F k))⟩
theorem zd5(F:Nat):(qtv F).ok pp Tryz.f58 F:=
 okL q00 (qtu F) [] aN (fun _=>rfl) (fun _ _=>rfl) fun k d=>by kernel_rfl
def qpa(F:Nat):ToldF:=⟨58,2,[.row .u8 1 (.slot 0) false,.slot 1 (.bool)],[.ty (.L 16),.ty .I],u2 (q8n F)⟩
theorem ziv(F:Nat):(qpa F).ok pp:=
 okF q00 (qtu F) (fn:=Tryz.f58) [(0,(qtv F).ann F)] (by kernel_rfl) (aL (by kernel_rfl) (zd5 F) aN) fun d=>by kernel_rfl
def zd6(F:Nat):List ToldF:=[qdb F,qos F,qou F,qtd F,qxj F,qte F,qp4 F,qp5 F,qp9 F,qpa F]
theorem zd7(F:Nat):q02 pp (zd6 F):=⟨qr5 F,zho F,zhs F,zlr F,zq6 F,zlu F,zi2 F,zif F,zin F,ziv F,trivial⟩
def qpb(F:Nat):ToldF:=⟨20,2,[.slot 0 .I,.row .u8 1 (.slot 1) false],[.ty (.L 64),.ty .I],u2 (qla F)⟩
theorem ziw(F:Nat):(qpb F).ok pp:=
 okF q00 (zd7 F) (fn:=Tryz.f20) [] (by kernel_rfl) aN fun d=>by kernel_rfl
def zix(F:Nat):List ToldF:=[qhd F,qfo F,z16 F]
theorem qki(F:Nat):q02 pp (zix F):=⟨z13 F,qx7 F,zu8 F,trivial⟩
def qkj(F:Nat):TL:=⟨40,[.slot 2 .I,.segs [.hole (.L 64)] (.slot 3) true,.ptr 3 1 64,.segs [.hole (.L 64)] (.slot 4) true,.ptr 4 2 64,.slot 7 .I,.slot 8 .I,.slot 9 .I],[.slot 2 .I,.segs [.hole (.L 64)] (.slot 3) true,.ptr 3 1 64,.segs [.hole (.L 64)] (.slot 4) true,.ptr 4 2 64,.slot 7 .I,.slot 8 .I],2,fun k=>u6 (q7t F k),fun k=>u6 (qcr F (q7t F k))⟩
theorem qy4(F:Nat):(qkj F).ok pp Tryz.f34 F:=
 okL q00 (qki F) [] aN (fun _=>rfl) (fun _ _=>rfl) fun k d=>by kernel_rfl
def qy5(F:Nat):TL:=⟨40,[.slot 2 .I,.segs [.hole (.L 64)] (.slot 3) true,.ptr 3 1 64,.segs [.hole (.L 64)] (.slot 4) true,.ptr 4 2 64,.slot 7 .I,.slot 8 .I],[.slot 7 .I],0,fun k=>u5 (q7u F k),fun k=>u5 (qcs F (q7u F k))⟩
theorem ziy(F:Nat):(qy5 F).ok pp Tryz.f34 F:=
 okL q00 (qki F) [(2,(qkj F).ann F)] (aL (by kernel_rfl) (qy4 F) aN) (fun _=>rfl) (fun _ _=>rfl) fun k d=>by kernel_rfl
def qtw(F:Nat):ToldF:=⟨34,3,[.slot 0 (.L 64),.slot 1 (.L 64),.slot 2 .I],[.ty .I],u3 (z2e F)⟩
theorem zmh(F:Nat):(qtw F).ok pp:=
 okF q00 (qki F) (fn:=Tryz.f34) [(2,(qkj F).ann F),(0,(qy5 F).ann F)] (by kernel_rfl) (aL (by kernel_rfl) (qy4 F) (aL (by kernel_rfl) (ziy F) aN)) fun d=>by kernel_rfl
def ziz(F:Nat):List ToldF:=[qdb F,qt5 F,qpb F,qtw F]
theorem zj0(F:Nat):q02 pp (ziz F):=⟨qr5 F,zlg F,ziw F,zmh F,trivial⟩
def qtx(F:Nat):ToldF:=⟨14,3,[.slot 0 .I,.row .u8 1 (.slot 1) false,.slot 2 (.L 64)],[.ty .I,.ty .I],u3 (qqm F)⟩
theorem zmi(F:Nat):(qtx F).ok pp:=
 okF q00 (zj0 F) (fn:=Tryz.f14) [] (by kernel_rfl) aN fun d=>by kernel_rfl
def z8d(F:Nat):List ToldF:=[q2k F,q9m F]
theorem z8e(F:Nat):q02 pp (z8d F):=⟨q5x F,qjp F,trivial⟩
def qm0(F:Nat):ToldF:=⟨155,3,[.slot 0 .I,.segs [.J] (.slot 1) false,.ptr 1 1 1,.segs [.J] (.slot 2) false,.ptr 2 2 1],[.ty .I],u3 (q91 F)⟩
theorem zd8(F:Nat):(qm0 F).ok pp:=
 okF q00 (z8e F) (fn:=Tryz.f155) [] (by kernel_rfl) aN fun d=>by kernel_rfl
def qr6(F:Nat):List ToldF:=[qm0 F]
theorem qde(F:Nat):q02 pp (qr6 F):=⟨zd8 F,trivial⟩
def qdf(F:Nat):TL:=⟨27,[.segs [.J] (.cap (.slot 1) 0) false,.segs [.J] (.cap (.slot 1) 1) false,.fn 1 155 [.ptr 1 1,.ptr 2 1],.slot 5 .I,.slot 6 .I,.slot 9 .I,.slot 10 .I],[.slot 5 .I],0,fun k=>u6 (q0w F k),fun k=>u6 (q2h F (q0w F k))⟩
theorem qr7(F:Nat):(qdf F).ok pp Tryz.f154 F:=
 okL q00 (qde F) [] aN (fun _=>rfl) (fun _ _=>rfl) fun k d=>by kernel_rfl
def qbm(F:Nat):ToldF:=⟨154,2,[.slot 0 .I,.segs [.J] (.cap (.slot 1) 0) false,.segs [.J] (.cap (.slot 1) 1) false,.fn 1 155 [.ptr 1 1,.ptr 2 1]],[.ty .I],u3 (qax F)⟩
theorem quk(F:Nat):(qbm F).ok pp:=
 okF q00 (qde F) (fn:=Tryz.f154) [(0,(qdf F).ann F)] (by kernel_rfl) (aL (by kernel_rfl) (qr7 F) aN) fun d=>by kernel_rfl
def zmj(F:Nat):List ToldF:=[qmq F,qbm F]
theorem zmk(F:Nat):q02 pp (zmj F):=⟨z9u F,quk F,trivial⟩
def qkk(F:Nat):ToldF:=⟨77,2,[.slot 0 .I,.slot 1 .I],[.ty .I],u2 (q7j F)⟩
theorem z56(F:Nat):(qkk F).ok pp:=
 okF q00 (zmk F) (fn:=Tryz.f77) [] (by kernel_rfl) aN fun d=>by kernel_rfl
def zqo(F:Nat):List ToldF:=[qka F]
theorem zqp(F:Nat):q02 pp (zqo F):=⟨z81 F,trivial⟩
def z1o(F:Nat):ToldF:=⟨12,5,[.slot 0 .I,.slot 1 (.L 64),.slot 2 .I,.slot 3 .I,.slot 4 .I],[.ty .I],u5 (qg7 F)⟩
theorem zuf(F:Nat):(z1o F).ok pp:=
 okF q00 (zqp F) (fn:=Tryz.f12) [] (by kernel_rfl) aN fun d=>by kernel_rfl
def z58(F:Nat):TL:=⟨26,[.slot 2 .I,.segs [.hole (.L 4)] (.slot 3) true,.ptr 3 1 4,.segs [.hole (.L 4)] (.slot 4) true,.ptr 4 2 4,.segs [.hole (.L 64)] (.slot 6) true,.ptr 6 3 64,.segs [.hole (.L 64)] (.slot 7) true,.ptr 7 4 64,.slot 8 .I],[.segs [.hole (.L 64)] (.slot 6) true,.ptr 6 1 64,.segs [.hole (.L 64)] (.slot 7) true,.ptr 7 2 64],0,fun k=>u6 (q8o F k),fun k=>u6 (qif F (q8o F k))⟩
theorem zqr(F:Nat):(z58 F).ok pp Tryz.f24 F:=
 okL q00 (zox F) [] aN (fun _=>rfl) (fun _ _=>rfl) fun k d=>by kernel_rfl
def z1p(F:Nat):ToldF:=⟨24,3,[.slot 0 (.L 4),.slot 1 (.L 4),.slot 2 .I],[.ty (.L 64)],u3 (qjl F)⟩
theorem zug(F:Nat):(z1p F).ok pp:=
 okF q00 (zox F) (fn:=Tryz.f24) [(0,(z58 F).ann F)] (by kernel_rfl) (aL (by kernel_rfl) (zqr F) aN) fun d=>by kernel_rfl
theorem z8f(F:Nat):zz4 pp 234 j3u okTT 1 [.segs [.hole (.is .i64 64)] (.slot 0) true,.ptr 0 1 64] (u1 (qfh F)):=
 zx2 q00 (zf5 q00 (zox F)) (z3g (zox F)) (fn:=Tryz.f234) (c:=(qdu Tryz.f234)) (by kernel_rfl) (by kernel_rfl) decTT_ok (fun d=>rfl) (fun d=>rfl) (fun l d=>by kernel_rfl)
def z5b(F:Nat):TL:=⟨32,[.segs [.hole (.L 4)] (.slot 3) true,.ptr 3 1 4,.segs [.hole (.L 4)] (.slot 4) true,.ptr 4 2 4,.slot 7 .I,.slot 9 .I,.slot 10 .I],[.slot 7 .I],0,fun k=>u5 (q8p F k),fun k=>u5 (q9i F (q8p F k))⟩
theorem zqt(F:Nat):(z5b F).ok pp Tryz.f197 F:=
 okL q00 (zox F) [] aN (fun _=>rfl) (fun _ _=>rfl) fun k d=>by kernel_rfl
def qfr(F:Nat):ToldF:=⟨197,3,[.slot 0 (.L 4),.slot 1 (.L 4),.slot 2 .I],[.ty .I],u3 (qjm F)⟩
theorem qy6(F:Nat):(qfr F).ok pp:=
 okF q00 (zox F) (fn:=Tryz.f197) [(0,(z5b F).ann F)] (by kernel_rfl) (aL (by kernel_rfl) (zqt F) aN) fun d=>by kernel_rfl
def zd9(F:Nat):List ToldF:=[qfr F]
theorem qty(F:Nat):q02 pp (zd9 F):=⟨qy6 F,trivial⟩
def qen(F:Nat):ToldF:=⟨126,2,[.slot 0 (.L 64),.slot 1 .I],[.ty (.L 4),.ty (.L 4)],u2 (q6r F)⟩
theorem qy7(F:Nat):(qen F).ok pp:=
 zth q00 (zf5 q00 (qty F)) (z3g (qty F)) (fn:=Tryz.f126) (gfn:=Tryz.f234) (c:=(qdu Tryz.f126)) (by kernel_rfl) (by kernel_rfl) (j3y (k:=3) (out:=0) (g:=15) (by kernel_rfl)) (by kernel_rfl) (by kernel_rfl) (fun x=>by kernel_rfl) j3w (z8f F) (by kernel_rfl) (by kernel_rfl) (nt:=31) (its:=[.segs [.hole (.int .i64)] (.slot 3) true,.ptr 3 1 1,.segs [.hole (.is .i64 4)] (.slot 4) true,.ptr 4 2 4,.segs [.hole (.is .i64 4)] (.slot 5) true,.ptr 5 3 4,.segs [.hole (.is .i64 4)] (.slot 6) true,.ptr 6 4 4,.segs [.hole (.is .i64 4)] (.slot 7) true,.ptr 7 5 4]) (outX:=[]) (eX:= .normal) (step:=fun x=>u5 (q7v F x)) (fun x d=>by kernel_rfl) (fun d=>by kernel_rfl) (fun d=>by kernel_rfl)
def zml(F:Nat):List ToldF:=[qkk F]
theorem zmm(F:Nat):q02 pp (zml F):=⟨z56 F,trivial⟩
def qy8(F:Nat):ToldF:=⟨127,1,[.slot 0 (.L 4)],[.ty .I],u1 (qiw F)⟩
theorem zqu(F:Nat):(qy8 F).ok pp:=
 okF q00 (zmm F) (fn:=Tryz.f127) [] (by kernel_rfl) aN fun d=>by kernel_rfl
def zda(F:Nat):List ToldF:=[qfr F]
theorem zdb(F:Nat):q02 pp (zda F):=⟨qy6 F,trivial⟩
def qpc(F:Nat):ToldF:=⟨196,2,[.slot 0 (.L 4),.segs [.hole (.L 4)] (.slot 1) false,.ptr 1 1 4],[.ty .I],u2 (qg8 F)⟩
theorem zj1(F:Nat):(qpc F).ok pp:=
 okF q00 (zdb F) (fn:=Tryz.f196) [] (by kernel_rfl) aN fun d=>by kernel_rfl
def qbp(F:Nat):List ToldF:=[qpc F]
theorem q59(F:Nat):q02 pp (qbp F):=⟨zj1 F,trivial⟩
def q5a(F:Nat):TL:=⟨28,[.row .i64 4 (.slot 0) false,.segs [.hole (.L 4)] (.cap (.slot 1) 0) false,.fn 1 196 [.ptr 2 4],.slot 5 .I,.sl 8 1 4 .whole,.slot 9 .I,.slot 10 .I],[.slot 5 .I],0,fun k=>u5 (q0b F k),fun k=>u5 (q0m F (q0b F k))⟩
theorem qbq(F:Nat):(q5a F).ok pp Tryz.f195 F:=
 okL q00 (q59 F) [] aN (fun _=>rfl) (fun _ _=>rfl) fun k d=>by kernel_rfl
def q4s(F:Nat):ToldF:=⟨195,2,[.row .i64 4 (.slot 0) false,.segs [.hole (.L 4)] (.cap (.slot 1) 0) false,.fn 1 196 [.ptr 2 4]],[.ty .I],u2 (q25 F)⟩
theorem qdg(F:Nat):(q4s F).ok pp:=
 okF q00 (q59 F) (fn:=Tryz.f195) [(0,(q5a F).ann F)] (by kernel_rfl) (aL (by kernel_rfl) (qbq F) aN) fun d=>by kernel_rfl
def zqv(F:Nat):List ToldF:=[qjr F,qd3 F,q4s F]
theorem z5c(F:Nat):q02 pp (zqv F):=⟨z3w F,qsc F,qdg F,trivial⟩
def z5d(F:Nat):TL:=⟨38,[.slot 1 .I,.slot 2 .I,.segs [.hole (.L 16)] (.slot 9) true,.ptr 9 1 16,.segs [.hole (.L 16)] (.slot 10) true,.ptr 10 2 16,.slot 19 (.L 64),.slot 20 .I],[.slot 1 .I,.slot 2 .I,.segs [.hole (.L 16)] (.slot 10) true,.ptr 10 1 16],0,fun k=>u6 (q8q F k),fun k=>u6 (qig F (q8q F k))⟩
theorem zqw(F:Nat):(z5d F).ok pp Tryz.f125 F:=
 okL q00 (z5c F) [] aN (fun _=>rfl) (fun _ _=>rfl) fun k d=>by kernel_rfl
def z1q(F:Nat):ToldF:=⟨125,4,[.slot 0 (.L 64),.slot 1 .I,.slot 2 .I,.slot 3 (.bool)],[.row .u8 1],u4 (qnv F)⟩
theorem zuh(F:Nat):(z1q F).ok pp:=
 okF q00 (z5c F) (fn:=Tryz.f125) [(0,(z5d F).ann F)] (by kernel_rfl) (aL (by kernel_rfl) (zqw F) aN) fun d=>by kernel_rfl
def qy9(F:Nat):List ToldF:=[q9p F]
theorem qya(F:Nat):q02 pp (qy9 F):=⟨qk5 F,trivial⟩
def q57(F:Nat):ToldF:=⟨63,2,[.row .u8 1 (.cell (.slot 0) 65) false,.segs [.J,.hole (.L 64),.sl 1 1 .whole,.J] (.slot 0) true (some 1),.ptr 0 2 67,.row .u8 1 (.slot 1) false],[.ty (.bool),.psegs 1 [.J,.hole (.L 64),.row .u8 1 false,.J]],u5 (q0o F)⟩
theorem q9w(F:Nat):(q57 F).ok pp:=
 okF q00 (qya F) (fn:=Tryz.f63) [] (by kernel_rfl) aN fun d=>by kernel_rfl
def qkr(F:Nat):List ToldF:=[z1q F,q57 F]
theorem qks(F:Nat):q02 pp (qkr F):=⟨zuh F,q9w F,trivial⟩
def q8x(F:Nat):ToldF:=⟨124,6,[.slot 0 .I,.slot 1 .I,.row .u8 1 (.cell (.cell (.slot 2) 0) 65) false,.segs [.J,.hole (.L 64),.sl 1 1 .whole,.J] (.cell (.slot 2) 0) true (some 1),.segs [.ptr 2 67] (.slot 2) false,.ptr 2 3 1,.row .u8 1 (.cell (.slot 3) 0) false,.segs [.sl 4 1 .whole] (.slot 3) false,.ptr 3 5 1,.segs [.hole (.L 64)] (.slot 4) false,.ptr 4 6 64,.segs [.hole (.bool)] (.slot 5) false,.ptr 5 7 1],[.ty (.bool),.psegs 1 [.J,.hole (.L 64),.row .u8 1 false,.J]],u9 (q0f F)⟩
theorem qn1(F:Nat):(q8x F).ok pp:=
 okF q00 (qks F) (fn:=Tryz.f124) [] (by kernel_rfl) aN fun d=>by kernel_rfl
def qtz(F:Nat):ToldF:=⟨128,0,[],[.ty (.L 6)],u0 (z2f F)⟩
theorem zmn(F:Nat):(qtz F).ok pp:=
 okF q00 (zox F) (fn:=Tryz.f128) [] (by kernel_rfl) aN fun d=>by kernel_rfl
def qr8(F:Nat):List ToldF:=[qen F,qy8 F,q8x F,qtz F]
theorem q77(F:Nat):q02 pp (qr8 F):=⟨qy7 F,zqu F,qn1 F,zmn F,trivial⟩
def q78(F:Nat):TL:=⟨81,[.row .u8 1 (.cell (.slot 0) 65) false,.segs [.J,.hole (.L 64),.sl 1 1 .whole,.J] (.slot 0) true (some 1),.ptr 0 2 67,.slot 4 .I,.segs [.ptr 2 67] (.cap (.slot 10) 0) false,.row .u8 1 (.cell (.cap (.slot 10) 1) 0) false,.segs [.sl 4 1 .whole] (.cap (.slot 10) 1) false,.segs [.hole (.L 64)] (.cap (.slot 10) 2) false,.segs [.hole (.bool)] (.cap (.slot 10) 3) false,.fn 10 124 [.ptr 3 1,.ptr 5 1,.ptr 6 64,.ptr 7 1],.slot 13 .I,.slot 14 .I,.slot 15 .I,.slot 37 .I,.slot 38 (.bool),.slot 42 (.L 6),.slot 43 .I],[.row .u8 1 (.cell (.slot 0) 65) false,.segs [.J,.hole (.L 64),.sl 1 1 .whole,.J] (.slot 0) true (some 1),.ptr 0 2 67,.slot 4 .I,.segs [.ptr 2 67] (.cap (.slot 10) 0) false,.row .u8 1 (.cell (.cap (.slot 10) 1) 0) false,.segs [.sl 4 1 .whole] (.cap (.slot 10) 1) false,.segs [.hole (.L 64)] (.cap (.slot 10) 2) false,.segs [.hole (.bool)] (.cap (.slot 10) 3) false,.fn 10 124 [.ptr 3 1,.ptr 5 1,.ptr 6 64,.ptr 7 1],.slot 13 .I,.slot 14 .I,.slot 15 .I,.slot 37 .I,.slot 38 (.bool)],2,fun k=>u15 (q0a F k),fun k=>u15 (q3y F (q0a F k))⟩
theorem qdh(F:Nat):(q78 F).ok pp Tryz.f60 F:=
 okL q00 (q77 F) [] aN (fun _=>rfl) (fun _ _=>rfl) fun k d=>by kernel_rfl
def qdi(F:Nat):TL:=⟨81,[.row .u8 1 (.cell (.slot 0) 65) false,.segs [.J,.hole (.L 64),.sl 1 1 .whole,.J] (.slot 0) true (some 1),.ptr 0 2 67,.slot 4 .I,.segs [.ptr 2 67] (.cap (.slot 10) 0) false,.row .u8 1 (.cell (.cap (.slot 10) 1) 0) false,.segs [.sl 4 1 .whole] (.cap (.slot 10) 1) false,.segs [.hole (.L 64)] (.cap (.slot 10) 2) false,.segs [.hole (.bool)] (.cap (.slot 10) 3) false,.fn 10 124 [.ptr 3 1,.ptr 5 1,.ptr 6 64,.ptr 7 1],.slot 13 .I,.slot 14 .I,.slot 15 .I],[.row .u8 1 (.cell (.slot 0) 65) false,.segs [.J,.hole (.L 64),.sl 1 1 .whole,.J] (.slot 0) true (some 1),.ptr 0 2 67],0,fun k=>u11 (q0y F k),fun k=>u11 (q21 F (q0y F k))⟩
theorem qr9(F:Nat):(qdi F).ok pp Tryz.f60 F:=
 okL q00 (q77 F) [(2,(q78 F).ann F)] (aL (by kernel_rfl) (qdh F) aN) (fun _=>rfl) (fun _ _=>rfl) fun k d=>by kernel_rfl
def qbn(F:Nat):ToldF:=⟨60,5,[.row .u8 1 (.cell (.slot 0) 65) false,.segs [.J,.hole (.L 64),.sl 1 1 .whole,.J] (.slot 0) true (some 1),.ptr 0 2 67,.slot 1 (.L 64),.row .u8 1 (.slot 2) false,.slot 3 (.bool),.slot 4 .I],[.psegs 1 [.J,.hole (.L 64),.row .u8 1 false,.J]],u8 (q1a F)⟩
theorem qul(F:Nat):(qbn F).ok pp:=
 okF q00 (q77 F) (fn:=Tryz.f60) [(2,(q78 F).ann F),(0,(qdi F).ann F)] (by kernel_rfl) (aL (by kernel_rfl) (qdh F) (aL (by kernel_rfl) (qr9 F) aN)) fun d=>by kernel_rfl
def zj4(F:Nat):List ToldF:=[q8v F,qkk F]
theorem qyb(F:Nat):q02 pp (zj4 F):=⟨qjq F,z56 F,trivial⟩
def qyc(F:Nat):TL:=⟨25,[.segs [.hole (.L 16)] (.slot 3) true,.ptr 3 1 16,.slot 8 (.L 64),.slot 9 .I],[.segs [.hole (.L 16)] (.slot 3) true,.ptr 3 1 16],0,fun k=>u3 (q65 F k),fun k=>u3 (qct F (q65 F k))⟩
theorem zj5(F:Nat):(qyc F).ok pp Tryz.f61 F:=
 okL q00 (qyb F) [] aN (fun _=>rfl) (fun _ _=>rfl) fun k d=>by kernel_rfl
def qu0(F:Nat):ToldF:=⟨61,1,[.slot 0 (.L 64)],[.row .u8 1],u1 (qjn F)⟩
theorem zmo(F:Nat):(qu0 F).ok pp:=
 okF q00 (qyb F) (fn:=Tryz.f61) [(0,(qyc F).ann F)] (by kernel_rfl) (aL (by kernel_rfl) (zj5 F) aN) fun d=>by kernel_rfl
def z8g(F:Nat):List ToldF:=[qk9 F]
theorem qpd(F:Nat):q02 pp (z8g F):=⟨z4o F,trivial⟩
def qpe(F:Nat):TL:=⟨31,[.slot 1 .I,.segs [.hole (.L 64)] (.slot 5) true,.ptr 5 1 64,.slot 10 (.L 64),.slot 11 .I],[.segs [.hole (.L 64)] (.slot 5) true,.ptr 5 1 64],0,fun k=>u4 (q3s F k),fun k=>u4 (q9j F (q3s F k))⟩
theorem z8h(F:Nat):(qpe F).ok pp Tryz.f135 F:=
 okL q00 (qpd F) [] aN (fun _=>rfl) (fun _ _=>rfl) fun k d=>by kernel_rfl
def qm2(F:Nat):ToldF:=⟨135,2,[.slot 0 (.L 64),.slot 1 .I],[.ty .I],u2 (q9k F)⟩
theorem zdc(F:Nat):(qm2 F).ok pp:=
 okF q00 (qpd F) (fn:=Tryz.f135) [(0,(qpe F).ann F)] (by kernel_rfl) (aL (by kernel_rfl) (z8h F) aN) fun d=>by kernel_rfl
def qgk(F:Nat):ToldF:=⟨133,2,[.slot 0 .I,.segs [.J] (.slot 1) false,.ptr 1 1 1],[.ty .I],u2 (q7d F)⟩
theorem z2w(F:Nat):(qgk F).ok pp:=
 okF q00 (zox F) (fn:=Tryz.f133) [] (by kernel_rfl) aN fun d=>by kernel_rfl
def qds(F:Nat):List ToldF:=[qgk F]
theorem q6a(F:Nat):q02 pp (qds F):=⟨z2w F,trivial⟩
def q6b(F:Nat):TL:=⟨28,[.row .i64 1 (.slot 0) false,.segs [.J] (.cap (.slot 1) 0) false,.fn 1 133 [.ptr 2 1],.slot 5 .I,.sl 8 1 1 .whole,.slot 9 .I,.slot 10 .I],[.slot 5 .I],0,fun k=>u5 (q0i F k),fun k=>u5 (q0q F (q0i F k))⟩
theorem qdt(F:Nat):(q6b F).ok pp Tryz.f132 F:=
 okL q00 (q6a F) [] aN (fun _=>rfl) (fun _ _=>rfl) fun k d=>by kernel_rfl
def q5z(F:Nat):ToldF:=⟨132,2,[.row .i64 1 (.slot 0) false,.segs [.J] (.cap (.slot 1) 0) false,.fn 1 133 [.ptr 2 1]],[.ty .I],u2 (q1i F)⟩
theorem qeo(F:Nat):(q5z F).ok pp:=
 okF q00 (q6a F) (fn:=Tryz.f132) [(0,(q6b F).ann F)] (by kernel_rfl) (aL (by kernel_rfl) (qdt F) aN) fun d=>by kernel_rfl
def z8i(F:Nat):List ToldF:=[qgy F,q2b F,qh2 F,q5z F]
theorem qpf(F:Nat):q02 pp (z8i F):=⟨z0m F,q47 F,z0w F,qeo F,trivial⟩
def qpg(F:Nat):TL:=⟨62,[.slot 0 .I,.slot 1 .I,.segs [.J] (.slot 3) true (some 1),.ptr 3 1 1,.row .u8 1 (.cell (.slot 4) 0) true (some 2),.segs [.sl 2 1 .own] (.slot 4) true (some 3),.ptr 4 3 1,.segs [.hole (.L 8)] (.slot 7) true,.ptr 7 4 8,.segs [.hole (.L 16)] (.slot 8) true,.ptr 8 5 16,.slot 9 .I,.slot 19 (.L 16),.slot 20 .I],[.slot 0 .I,.slot 1 .I,.segs [.J] (.slot 3) true (some 1),.ptr 3 1 1,.row .u8 1 (.cell (.slot 4) 0) true (some 2),.segs [.sl 2 1 .own] (.slot 4) true (some 3),.ptr 4 3 1,.segs [.hole (.L 16)] (.slot 8) true,.ptr 8 4 16,.slot 9 .I],0,fun k=>u9 (q3t F k),fun k=>u9 (q9l F (q3t F k))⟩
theorem z8j(F:Nat):(qpg F).ok pp Tryz.f130 F:=
 okL q00 (qpf F) [] aN (fun _=>rfl) (fun _ _=>rfl) fun k d=>by kernel_rfl
def qm3(F:Nat):ToldF:=⟨130,5,[.slot 0 .I,.slot 1 .I,.segs [.hole (.L 16)] (.slot 2) false,.ptr 2 1 16,.segs [.J] (.slot 3) true (some 1),.ptr 3 2 1,.row .u8 1 (.cell (.slot 4) 0) true (some 2),.segs [.sl 3 1 .own] (.slot 4) true (some 3),.ptr 4 4 1],[.psegs 1 [.J],.psegs 3 [.row .u8 1 true]],u5 (q1b F)⟩
theorem zdd(F:Nat):(qm3 F).ok pp:=
 okF q00 (qpf F) (fn:=Tryz.f130) [(0,(qpg F).ann F)] (by kernel_rfl) (aL (by kernel_rfl) (z8j F) aN) fun d=>by kernel_rfl
def zmp(F:Nat):List ToldF:=[qm2 F,qm3 F]
theorem qn2(F:Nat):q02 pp (zmp F):=⟨zdc F,zdd F,trivial⟩
def z1r(F:Nat):TL:=⟨89,[.slot 1 .I,.slot 2 .I,.segs [.hole (.L 64)] (.slot 3) true,.ptr 3 1 64,.segs [.hole (.L 16)] (.slot 7) true,.ptr 7 2 16,.slot 8 .I,.slot 9 .I,.slot 17 (.L 64),.slot 18 .I],[.slot 1 .I,.slot 2 .I,.segs [.hole (.L 64)] (.slot 3) true,.ptr 3 1 64,.segs [.hole (.L 16)] (.slot 7) true,.ptr 7 2 16,.slot 8 .I,.slot 9 .I],0,fun k=>u8 (q72 F k),fun k=>u8 (qfi F (q72 F k))⟩
theorem zmq(F:Nat):(z1r F).ok pp Tryz.f62 F:=
 okL q00 (qn2 F) [] aN (fun _=>rfl) (fun _ _=>rfl) fun k d=>by kernel_rfl
def z1s(F:Nat):TL:=⟨89,[.slot 8 .I,.slot 9 .I,.row .u8 1 (.cell (.slot 12) 0) true,.segs [.sl 1 1 .own] (.slot 12) true,.ptr 12 2 1,.segs [.hole (.L 16)] (.cap (.slot 14) 0) true,.segs [.J] (.cap (.slot 14) 1) true,.fn 14 130 [.ptr 3 16,.ptr 4 1,.ptr 2 1],.slot 16 .I],[.row .u8 1 (.cell (.slot 12) 0) true,.segs [.sl 1 1 .own] (.slot 12) true,.ptr 12 2 1],2,fun k=>u6 (q5v F k),fun k=>u6 (qfj F (q5v F k))⟩
theorem zmr(F:Nat):(z1s F).ok pp Tryz.f62 F:=
 okL q00 (qn2 F) [] aN (fun _=>rfl) (fun _ _=>rfl) fun k d=>by kernel_rfl
def qyd(F:Nat):ToldF:=⟨62,3,[.slot 0 (.L 64),.slot 1 .I,.slot 2 .I],[.row .u8 1],u3 (q5j F)⟩
theorem zqx(F:Nat):(qyd F).ok pp:=
 okF q00 (qn2 F) (fn:=Tryz.f62) [(0,(z1r F).ann F),(2,(z1s F).ann F)] (by kernel_rfl) (aL (by kernel_rfl) (zmq F) (aL (by kernel_rfl) (zmr F) aN)) fun d=>by kernel_rfl
def zqy(F:Nat):List ToldF:=[q2b F]
theorem qra(F:Nat):q02 pp (zqy F):=⟨q47 F,trivial⟩
def qrb(F:Nat):TL:=⟨57,[.segs [.hole (.L 4)] (.slot 1) true,.ptr 1 1 4,.segs [.hole (.L 4)] (.slot 2) true,.ptr 2 2 4,.segs [.hole (.L 8)] (.slot 4) true,.ptr 4 3 8,.segs [.hole (.L 2)] (.slot 5) true,.ptr 5 4 2,.slot 6 .I,.slot 10 .I,.slot 13 (.L 4),.slot 14 .I],[.segs [.hole (.L 4)] (.slot 1) true,.ptr 1 1 4,.segs [.hole (.L 4)] (.slot 2) true,.ptr 2 2 4,.segs [.hole (.L 8)] (.slot 4) true,.ptr 4 3 8,.segs [.hole (.L 2)] (.slot 5) true,.ptr 5 4 2,.slot 10 .I],2,fun k=>u8 (qbb F k),fun k=>u8 (qih F (qbb F k))⟩
theorem z5e(F:Nat):(qrb F).ok pp Tryz.f136 F:=
 okL q00 (qra F) [] aN (fun _=>rfl) (fun _ _=>rfl) fun k d=>by kernel_rfl
def z5f(F:Nat):TL:=⟨57,[.segs [.hole (.L 4)] (.slot 1) true,.ptr 1 1 4,.segs [.hole (.L 4)] (.slot 2) true,.ptr 2 2 4,.segs [.hole (.L 8)] (.slot 4) true,.ptr 4 3 8,.segs [.hole (.L 2)] (.slot 5) true,.ptr 5 4 2,.slot 10 .I],[.segs [.hole (.L 4)] (.slot 2) true,.ptr 2 1 4,.segs [.hole (.L 8)] (.slot 4) true,.ptr 4 2 8,.segs [.hole (.L 2)] (.slot 5) true,.ptr 5 3 2],0,fun k=>u5 (q8r F k),fun k=>u5 (qii F (q8r F k))⟩
theorem zqz(F:Nat):(z5f F).ok pp Tryz.f136 F:=
 okL q00 (qra F) [(2,(qrb F).ann F)] (aL (by kernel_rfl) (z5e F) aN) (fun _=>rfl) (fun _ _=>rfl) fun k d=>by kernel_rfl
def z1t(F:Nat):ToldF:=⟨136,1,[.slot 0 (.L 4)],[.ty (.L 4),.ty .I],u1 (qg9 F)⟩
theorem zui(F:Nat):(z1t F).ok pp:=
 okF q00 (qra F) (fn:=Tryz.f136) [(2,(qrb F).ann F),(0,(z5f F).ann F)] (by kernel_rfl) (aL (by kernel_rfl) (z5e F) (aL (by kernel_rfl) (zqz F) aN)) fun d=>by kernel_rfl
def qhk(F:Nat):TL:=⟨35,[.segs [.hole (.L 2)] (.slot 3) true,.ptr 3 1 2,.segs [.hole (.L 8)] (.slot 4) true,.ptr 4 2 8,.segs [.hole (.L 8)] (.slot 5) true,.ptr 5 3 8,.slot 6 .I,.slot 10 (.L 8),.slot 11 .I,.slot 15 (.L 4),.slot 16 .I],[.segs [.hole (.L 2)] (.slot 3) true,.ptr 3 1 2,.segs [.hole (.L 8)] (.slot 4) true,.ptr 4 2 8,.segs [.hole (.L 8)] (.slot 5) true,.ptr 5 3 8,.slot 10 (.L 8),.slot 11 .I],2,fun k=>u8 (q3c F k),fun k=>u8 (qai F (q3c F k))⟩
theorem qu1(F:Nat):(qhk F).ok pp Tryz.f202 F:=
 okL q00 (zox F) [] aN (fun _=>rfl) (fun _ _=>rfl) fun k d=>by kernel_rfl
def qu2(F:Nat):TL:=⟨35,[.segs [.hole (.L 2)] (.slot 3) true,.ptr 3 1 2,.segs [.hole (.L 8)] (.slot 4) true,.ptr 4 2 8,.segs [.hole (.L 8)] (.slot 5) true,.ptr 5 3 8,.slot 10 (.L 8),.slot 11 .I],[.segs [.hole (.L 8)] (.slot 4) true,.ptr 4 1 8,.segs [.hole (.L 8)] (.slot 5) true,.ptr 5 2 8],0,fun k=>u5 (q4l F k),fun k=>u5 (qaj F (q4l F k))⟩
theorem zdf(F:Nat):(qu2 F).ok pp Tryz.f202 F:=
 okL q00 (zox F) [(2,(qhk F).ann F)] (aL (by kernel_rfl) (qu1 F) aN) (fun _=>rfl) (fun _ _=>rfl) fun k d=>by kernel_rfl
def qph(F:Nat):ToldF:=⟨202,2,[.slot 0 (.L 8),.slot 1 (.L 2)],[.ty (.L 8)],u2 (qg3 F)⟩
theorem zj6(F:Nat):(qph F).ok pp:=
 okF q00 (zox F) (fn:=Tryz.f202) [(2,(qhk F).ann F),(0,(qu2 F).ann F)] (by kernel_rfl) (aL (by kernel_rfl) (qu1 F) (aL (by kernel_rfl) (zdf F) aN)) fun d=>by kernel_rfl
def zdg(F:Nat):List ToldF:=[qh4 F]
theorem qhl(F:Nat):q02 pp (zdg F):=⟨z0x F,trivial⟩
def qhm(F:Nat):TL:=⟨29,[.segs [.hole (.L 4)] (.slot 2) true,.ptr 2 1 4,.segs [.hole (.L 4)] (.slot 3) true,.ptr 3 2 4,.segs [.hole (.L 64)] (.slot 4) true,.ptr 4 3 64,.segs [.hole (.L 64)] (.slot 5) true,.ptr 5 4 64,.slot 6 .I,.slot 8 .I,.slot 11 .I],[.segs [.hole (.L 4)] (.slot 2) true,.ptr 2 1 4,.segs [.hole (.L 4)] (.slot 3) true,.ptr 3 2 4,.segs [.hole (.L 64)] (.slot 4) true,.ptr 4 3 64,.segs [.hole (.L 64)] (.slot 5) true,.ptr 5 4 64,.slot 8 .I],2,fun k=>u7 (q4m F k),fun k=>u7 (qak F (q4m F k))⟩
theorem qu3(F:Nat):(qhm F).ok pp Tryz.f203 F:=
 okL q00 (qhl F) [] aN (fun _=>rfl) (fun _ _=>rfl) fun k d=>by kernel_rfl
def qu4(F:Nat):TL:=⟨29,[.segs [.hole (.L 4)] (.slot 2) true,.ptr 2 1 4,.segs [.hole (.L 4)] (.slot 3) true,.ptr 3 2 4,.segs [.hole (.L 64)] (.slot 4) true,.ptr 4 3 64,.segs [.hole (.L 64)] (.slot 5) true,.ptr 5 4 64,.slot 8 .I],[.segs [.hole (.L 64)] (.slot 4) true,.ptr 4 1 64,.segs [.hole (.L 64)] (.slot 5) true,.ptr 5 2 64],0,fun k=>u5 (q4n F k),fun k=>u5 (qal F (q4n F k))⟩
theorem zdh(F:Nat):(qu4 F).ok pp Tryz.f203 F:=
 okL q00 (qhl F) [(2,(qhm F).ann F)] (aL (by kernel_rfl) (qu3 F) aN) (fun _=>rfl) (fun _ _=>rfl) fun k d=>by kernel_rfl
def qpi(F:Nat):ToldF:=⟨203,2,[.slot 0 (.L 4),.slot 1 (.L 4)],[.ty (.L 64)],u2 (qb8 F)⟩
theorem zj7(F:Nat):(qpi F).ok pp:=
 okF q00 (qhl F) (fn:=Tryz.f203) [(2,(qhm F).ann F),(0,(qu4 F).ann F)] (by kernel_rfl) (aL (by kernel_rfl) (qu3 F) (aL (by kernel_rfl) (zdh F) aN)) fun d=>by kernel_rfl
def zdi(F:Nat):List ToldF:=[qfr F]
theorem zdj(F:Nat):q02 pp (zdi F):=⟨qy6 F,trivial⟩
def qpj(F:Nat):ToldF:=⟨204,2,[.slot 0 (.L 4),.segs [.hole (.L 4)] (.slot 1) false,.ptr 1 1 4],[.ty .I],u2 (qga F)⟩
theorem zj8(F:Nat):(qpj F).ok pp:=
 okF q00 (zdj F) (fn:=Tryz.f204) [] (by kernel_rfl) aN fun d=>by kernel_rfl
def qbr(F:Nat):List ToldF:=[qpj F]
theorem q5b(F:Nat):q02 pp (qbr F):=⟨zj8 F,trivial⟩
def q5c(F:Nat):TL:=⟨28,[.row .i64 4 (.slot 0) false,.segs [.hole (.L 4)] (.cap (.slot 1) 0) false,.fn 1 204 [.ptr 2 4],.slot 5 .I,.sl 8 1 4 .whole,.slot 9 .I,.slot 10 .I],[.slot 5 .I],0,fun k=>u5 (q0c F k),fun k=>u5 (q0n F (q0c F k))⟩
theorem qbs(F:Nat):(q5c F).ok pp Tryz.f195 F:=
 okL q00 (q5b F) [] aN (fun _=>rfl) (fun _ _=>rfl) fun k d=>by kernel_rfl
def q4t(F:Nat):ToldF:=⟨195,2,[.row .i64 4 (.slot 0) false,.segs [.hole (.L 4)] (.cap (.slot 1) 0) false,.fn 1 204 [.ptr 2 4]],[.ty .I],u2 (q18 F)⟩
theorem qdj(F:Nat):(q4t F).ok pp:=
 okF q00 (q5b F) (fn:=Tryz.f195) [(0,(q5c F).ann F)] (by kernel_rfl) (aL (by kernel_rfl) (qbs F) aN) fun d=>by kernel_rfl
def zr0(F:Nat):List ToldF:=[qgz F,qph F,qpi F,q4t F]
theorem qrc(F:Nat):q02 pp (zr0 F):=⟨z0o F,zj6 F,zj7 F,qdj F,trivial⟩
def z5g(F:Nat):TL:=⟨68,[.segs [.hole (.L 8)] (.slot 4) true,.ptr 4 1 8,.segs [.hole (.L 2)] (.slot 5) true,.ptr 5 2 2,.segs [.hole (.L 64)] (.slot 8) true,.ptr 8 3 64,.segs [.hole (.L 16)] (.slot 9) true,.ptr 9 4 16,.slot 24 (.L 64),.slot 25 .I],[.segs [.hole (.L 8)] (.slot 4) true,.ptr 4 1 8,.segs [.hole (.L 2)] (.slot 5) true,.ptr 5 2 2,.segs [.hole (.L 16)] (.slot 9) true,.ptr 9 3 16],0,fun k=>u6 (q8s F k),fun k=>u6 (qij F (q8s F k))⟩
theorem zr1(F:Nat):(z5g F).ok pp Tryz.f137 F:=
 okL q00 (qrc F) [] aN (fun _=>rfl) (fun _ _=>rfl) fun k d=>by kernel_rfl
def z5h(F:Nat):TL:=⟨68,[.segs [.hole (.L 8)] (.slot 4) true,.ptr 4 1 8,.segs [.hole (.L 2)] (.slot 5) true,.ptr 5 2 2,.segs [.hole (.L 16)] (.slot 9) true,.ptr 9 3 16,.slot 50 (.L 16),.slot 51 .I],[.segs [.hole (.L 8)] (.slot 4) true,.ptr 4 1 8,.segs [.hole (.L 2)] (.slot 5) true,.ptr 5 2 2,.segs [.hole (.L 16)] (.slot 9) true,.ptr 9 3 16],2,fun k=>u5 (q6s F k),fun k=>u5 (qik F (q6s F k))⟩
theorem zr2(F:Nat):(z5h F).ok pp Tryz.f137 F:=
 okL q00 (qrc F) [] aN (fun _=>rfl) (fun _ _=>rfl) fun k d=>by kernel_rfl
def z1u(F:Nat):ToldF:=⟨137,3,[.slot 0 (.L 64),.slot 1 (.L 8),.slot 2 (.L 2)],[.row .u8 1],u3 (qcu F)⟩
theorem zuj(F:Nat):(z1u F).ok pp:=
 okF q00 (qrc F) (fn:=Tryz.f137) [(0,(z5g F).ann F),(2,(z5h F).ann F)] (by kernel_rfl) (aL (by kernel_rfl) (zr1 F) (aL (by kernel_rfl) (zr2 F) aN)) fun d=>by kernel_rfl
def qum(F:Nat):List ToldF:=[q2b F,qen F,q57 F,z1t F,z1u F]
theorem q2y(F:Nat):q02 pp (qum F):=⟨q47 F,qy7 F,q9w F,zui F,zuj F,trivial⟩
def q58(F:Nat):TL:=⟨110,[.row .u8 1 (.cell (.slot 0) 65) false,.segs [.J,.hole (.L 64),.sl 1 1 .whole,.J] (.slot 0) true (some 1),.ptr 0 2 67,.slot 1 .I,.segs [.hole (.L 8)] (.slot 6) true,.ptr 6 3 8,.segs [.hole (.L 2)] (.slot 7) true,.ptr 7 4 2,.slot 8 .I,.slot 9 .I,.slot 50 .I,.slot 51 (.bool),.slot 55 .I,.slot 58 (.L 2),.slot 59 .I],[.row .u8 1 (.cell (.slot 0) 65) false,.segs [.J,.hole (.L 64),.sl 1 1 .whole,.J] (.slot 0) true (some 1),.ptr 0 2 67,.slot 1 .I,.segs [.hole (.L 8)] (.slot 6) true,.ptr 6 3 8,.segs [.hole (.L 2)] (.slot 7) true,.ptr 7 4 2,.slot 8 .I,.slot 50 .I,.slot 51 (.bool),.slot 55 .I],4,fun k=>u14 (q1o F k),fun k=>u14 (q54 F (q1o F k))⟩
theorem q81(F:Nat):(q58 F).ok pp Tryz.f64 F:=
 okL q00 (q2y F) [] aN (fun _=>rfl) (fun _ _=>rfl) fun k d=>by kernel_rfl
def q82(F:Nat):TL:=⟨110,[.row .u8 1 (.cell (.slot 0) 65) false,.segs [.J,.hole (.L 64),.sl 1 1 .whole,.J] (.slot 0) true (some 1),.ptr 0 2 67,.slot 1 .I,.segs [.hole (.L 8)] (.slot 6) true,.ptr 6 3 8,.segs [.hole (.L 2)] (.slot 7) true,.ptr 7 4 2,.slot 8 .I,.slot 50 .I,.slot 51 (.bool),.slot 55 .I],[.row .u8 1 (.cell (.slot 0) 65) false,.segs [.J,.hole (.L 64),.sl 1 1 .whole,.J] (.slot 0) true (some 1),.ptr 0 2 67,.slot 1 .I,.segs [.hole (.L 8)] (.slot 6) true,.ptr 6 3 8,.segs [.hole (.L 2)] (.slot 7) true,.ptr 7 4 2,.slot 8 .I,.slot 50 .I,.slot 51 (.bool)],2,fun k=>u11 (q1p F k),fun k=>u11 (q55 F (q1p F k))⟩
theorem qe3(F:Nat):(q82 F).ok pp Tryz.f64 F:=
 okL q00 (q2y F) [(4,(q58 F).ann F)] (aL (by kernel_rfl) (q81 F) aN) (fun _=>rfl) (fun _ _=>rfl) fun k d=>by kernel_rfl
def q83(F:Nat):TL:=⟨110,[.row .u8 1 (.cell (.slot 0) 65) false,.segs [.J,.hole (.L 64),.sl 1 1 .whole,.J] (.slot 0) true (some 1),.ptr 0 2 67,.slot 1 .I,.segs [.hole (.L 8)] (.slot 6) true,.ptr 6 3 8,.segs [.hole (.L 2)] (.slot 7) true,.ptr 7 4 2,.slot 8 .I,.slot 50 .I,.slot 51 (.bool),.slot 89 .I],[.row .u8 1 (.cell (.slot 0) 65) false,.segs [.J,.hole (.L 64),.sl 1 1 .whole,.J] (.slot 0) true (some 1),.ptr 0 2 67,.slot 1 .I,.segs [.hole (.L 8)] (.slot 6) true,.ptr 6 3 8,.segs [.hole (.L 2)] (.slot 7) true,.ptr 7 4 2,.slot 8 .I,.slot 50 .I,.slot 51 (.bool)],6,fun k=>u11 (q1q F k),fun k=>u11 (q56 F (q1q F k))⟩
theorem qe4(F:Nat):(q83 F).ok pp Tryz.f64 F:=
 okL q00 (q2y F) [] aN (fun _=>rfl) (fun _ _=>rfl) fun k d=>by kernel_rfl
def qe5(F:Nat):TL:=⟨110,[.row .u8 1 (.cell (.slot 0) 65) false,.segs [.J,.hole (.L 64),.sl 1 1 .whole,.J] (.slot 0) true (some 1),.ptr 0 2 67,.slot 1 .I,.segs [.hole (.L 8)] (.slot 6) true,.ptr 6 3 8,.segs [.hole (.L 2)] (.slot 7) true,.ptr 7 4 2,.slot 8 .I],[.row .u8 1 (.cell (.slot 0) 65) false,.segs [.J,.hole (.L 64),.sl 1 1 .whole,.J] (.slot 0) true (some 1),.ptr 0 2 67],0,fun k=>u8 (q0s F k),fun k=>u8 (q28 F (q0s F k))⟩
theorem qun(F:Nat):(qe5 F).ok pp Tryz.f64 F:=
 okL q00 (q2y F) [(4,(q58 F).ann F),(2,(q82 F).ann F),(6,(q83 F).ann F)] (aL (by kernel_rfl) (q81 F) (aL (by kernel_rfl) (qe3 F) (aL (by kernel_rfl) (qe4 F) aN))) (fun _=>rfl) (fun _ _=>rfl) fun k d=>by kernel_rfl
def qdk(F:Nat):ToldF:=⟨64,2,[.row .u8 1 (.cell (.slot 0) 65) false,.segs [.J,.hole (.L 64),.sl 1 1 .whole,.J] (.slot 0) true (some 1),.ptr 0 2 67,.slot 1 .I],[.psegs 1 [.J,.hole (.L 64),.row .u8 1 false,.J]],u5 (q5w F)⟩
theorem qye(F:Nat):(qdk F).ok pp:=
 okF q00 (q2y F) (fn:=Tryz.f64) [(4,(q58 F).ann F),(2,(q82 F).ann F),(6,(q83 F).ann F),(0,(qe5 F).ann F)] (by kernel_rfl) (aL (by kernel_rfl) (q81 F) (aL (by kernel_rfl) (qe3 F) (aL (by kernel_rfl) (qe4 F) (aL (by kernel_rfl) (qun F) aN)))) fun d=>by kernel_rfl
def zr3(F:Nat):List ToldF:=[q9p F,qk9 F,q57 F,qbn F,qu0 F,qyd F,qdk F]
theorem z5i(F:Nat):q02 pp (zr3 F):=⟨qk5 F,z4o F,q9w F,qul F,zmo F,zqx F,qye F,trivial⟩
def z5j(F:Nat):TL:=⟨96,[.slot 0 .I,.slot 2 .I,.segs [.hole (.L 64)] (.slot 4) true,.ptr 4 1 64,.row .u8 1 (.cell (.slot 11) 65) false,.segs [.J,.hole (.L 64),.sl 2 1 .whole,.J] (.slot 11) true,.ptr 11 3 67,.slot 12 .I],[.row .u8 1 (.cell (.slot 11) 65) false,.segs [.J,.hole (.L 64),.sl 1 1 .whole,.J] (.slot 11) true,.ptr 11 2 67],0,fun k=>u8 (q1r F k),fun k=>u8 (q16 F (q1r F k))⟩
theorem zr4(F:Nat):(z5j F).ok pp Tryz.f22 F:=
 okL q00 (z5i F) [] aN (fun _=>rfl) (fun _ _=>rfl) fun k d=>by kernel_rfl
def qn3(F:Nat):ToldF:=⟨22,3,[.slot 0 .I,.slot 1 (.L 64),.slot 2 .I],[.row .u8 1 false,.ty .I,.ty .I],u3 (q1s F)⟩
theorem za5(F:Nat):(qn3 F).ok pp:=
 okF q00 (z5i F) (fn:=Tryz.f22) [(0,(z5j F).ann F)] (by kernel_rfl) (aL (by kernel_rfl) (zr4 F) aN) fun d=>by kernel_rfl
def zj9(F:Nat):List ToldF:=[z1p F,qn3 F]
theorem zja(F:Nat):q02 pp (zj9 F):=⟨zug F,za5 F,trivial⟩
def qu5(F:Nat):ToldF:=⟨21,0,[],[.ty (.bool)],u0 (qjo F)⟩
theorem zms(F:Nat):(qu5 F).ok pp:=
 okF q00 (zja F) (fn:=Tryz.f21) [] (by kernel_rfl) aN fun d=>by kernel_rfl
def z01(F:Nat):List ToldF:=[qdb F,qtx F,z1o F,qn3 F,qu5 F]
theorem z02(F:Nat):q02 pp (z01 F):=⟨qr5 F,zmi F,zuf F,za5 F,zms F,trivial⟩
def qgl(F:Nat):ToldF:=⟨7,3,[.slot 0 .I,.slot 1 (.L 64),.slot 2 .I],[.ty (.bool)],u3 (qgv F)⟩
theorem z2x(F:Nat):(qgl F).ok pp:=
 okF q00 (z02 F) (fn:=Tryz.f7) [] (by kernel_rfl) aN fun d=>by kernel_rfl
end Go.Proofs.YtdnccegimipapaaGreat
namespace Go.AE.Gn
open Go Go.AE
theorem w64{x:Int}(h1: -9223372036854775808≤x)(h2:x≤9223372036854775807):y0 .i64 x=x:=z65 (has_iff.2 ⟨h1,h2⟩)
theorem wu64{x:Int}(h1:0≤x)(h2:x≤18446744073709551615):y0 .u64 x=x:=z65 (has_iff.2 ⟨h1,h2⟩)
theorem wu8{x:Int}(h1:0≤x)(h2:x≤255):y0 .u8 x=x:=z65 (has_iff.2 ⟨h1,h2⟩)
theorem beqF{a b:Int}(h:a≠b):(a==b)=false:=by simpa using h
theorem bneT{a b:Int}(h:a≠b):(a !=b)=true:=by simpa using h
def Bytes(b:LI):Prop:=∀x∈b,0≤x∧x≤255
theorem Bytes.getD{b:LI}(h:Bytes b)(i:Nat):0≤b.getD i 0∧b.getD i 0≤255:=by
 rw[ye]
 by_cases hi:i<b.length
 ·rw[yj hi]
  exact h _ (List.getElem_mem hi)
 ·rw[w9 (by omega)]
  simp
theorem Bytes.set{b:LI}(h:Bytes b){i:Nat}{v:Int}(hv:0≤v∧v≤255):Bytes (b.set i v):=by
 intro x hx
 rcases List.mem_or_eq_of_mem_set hx with hx|rfl
 ·exact h x hx
 ·exact hv
theorem qz3(b:LI)(i j:Nat)(v:Int)(hi:i<b.length):(b.set i v).getD j 0=if i=j then v else b.getD j 0:=by
 simp only[ye,List.getElem?_set]
 split
 ·rename_i h
  simp[hi]
 ·rfl
theorem pow63{k:Nat}(hk:k≤63):(2:Int)^k≤9223372036854775808:=by
 have h:(2:Nat)^k≤9223372036854775808:=Nat.le_trans (Nat.pow_le_pow_right (by decide) hk) (by decide)
 have e:((2^k:Nat):Int)=(2:Int)^k:=wg 2 k
 omega
theorem qgm(k:Nat):(0:Int)<2^k:=Int.pow_pos (by decide)
def qep(f:Nat→Int):Nat→Int
 |0=>0
 |n+1=>qep f n+f n*2^n
def qn4(f:Nat→Int):Nat→Int
 |0=>0
 |n+1=>2*qn4 f n+f n
def Bit(f:Nat→Int)(n:Nat):Prop:=∀i,i<n→f i=0∨f i=1
theorem z2y{f g:Nat→Int}:∀{n:Nat},(∀i,i<n→f i=g i)→qep f n=qep g n
 |0,_=>rfl
 |n+1,h=>by rw[qep,qep,z2y fun i hi=>h i (by omega),h n (by omega)]
theorem zjb{f g:Nat→Int}:∀{n:Nat},(∀i,i<n→f i=g i)→qn4 f n=qn4 g n
 |0,_=>rfl
 |n+1,h=>by rw[qn4,qn4,zjb fun i hi=>h i (by omega),h n (by omega)]
theorem z2z{f:Nat→Int}:∀{n:Nat},Bit f n→0≤qep f n∧qep f n<2^n
 |0,_=>⟨Int.le_refl _,by simp[qep]⟩
 |n+1,h=>by
  obtain⟨h1,h2⟩:=z2z (n:=n) fun i hi=>h i (by omega)
  rw[qep,Int.pow_succ]
  rcases h n (by omega)with e|e<;>rw[e]<;>omega
theorem zjc{f:Nat→Int}:∀{n:Nat},Bit f n→0≤qn4 f n∧qn4 f n<2^n
 |0,_=>⟨Int.le_refl _,by simp[qn4]⟩
 |n+1,h=>by
  obtain⟨h1,h2⟩:=zjc (n:=n) fun i hi=>h i (by omega)
  rw[qn4,Int.pow_succ]
  rcases h n (by omega)with e|e<;>rw[e]<;>omega
theorem zjd(f:Nat→Int):∀n,qep f (n+1)=f 0+2*qep (fun i=>f (i+1)) n
 |0=>by simp[qep]
 |n+1=>by
  rw[qep,zjd f n,qep,Int.pow_succ,Int.mul_add,←Int.mul_assoc,←Int.mul_assoc,Int.mul_comm (f (n+1)) (2^n),Int.mul_comm 2 (f (n+1)),Int.mul_comm (2^n) (f (n+1))]
  have:f (n+1)*2^n*2=f (n+1)*2*2^n:=by rw[Int.mul_assoc,Int.mul_assoc,Int.mul_comm (2^n) 2]
  omega
theorem j40(f:Nat→Int)(n:Nat):qn4 (fun j=>f (n-1-j)) n=qep f n:=by
 induction n generalizing f with
 |zero=>rfl
 |succ n ih=>
  rw[qn4,zjd,←ih (fun i=>f (i+1))]
  have:qn4 (fun j=>f (n+1-1-j)) n=qn4 (fun j=>f (n-1-j+1)) n:=zjb fun i hi=>by
   congr 1
   omega
  rw[this]
  simp only[Nat.add_sub_cancel,Nat.sub_self]
  omega
theorem z8k(x:Int)(hx:0≤x):∀n:Nat,qep (fun i=>x/2^i%2) n=x%2^n
 |0=>by simp[qep]
 |n+1=>by
  rw[qep,z8k x hx n,Int.pow_succ]
  have hp:(0:Int)<2^n:=Int.pow_pos (by decide)
  have h1:=Int.emod_add_mul_ediv x (2^n)
  have h2:=Int.emod_add_mul_ediv (x/2^n) 2
  have h3:x=x%2^n+2^n*(x/2^n%2)+(2^n*2)*(x/2^n/2):=by
   rw[Int.mul_assoc,Int.add_assoc,←Int.mul_add,h2,h1]
  have h4:=Int.emod_nonneg x (Int.ne_of_gt hp)
  have h5:=Int.emod_lt_of_pos x hp
  have h6:0≤x/2^n%2∧x/2^n%2≤1:=by omega
  have h7:0≤2^n*(x/2^n%2)∧2^n*(x/2^n%2)≤2^n:=by
   rcases(show x/2^n%2=0∨x/2^n%2=1 by omega)with e|e<;>rw[e]<;>omega
  have h8:x%(2^n*2)=x%2^n+2^n*(x/2^n%2):=by
   conv=>lhs;rw[h3]
   rw[Int.add_mul_emod_self_left]
   apply Int.emod_eq_of_lt
   ·omega
   ·rcases(show x/2^n%2=0∨x/2^n%2=1 by omega)with e|e<;>rw[e]<;>omega
  rw[h8,Int.mul_comm (x/2^n%2)]
theorem q3u{x y:Int}(h:0≤x):x.tdiv y=x/y:=Int.tdiv_eq_ediv_of_nonneg h
theorem tmod_nonneg{x y:Int}(h:0≤x):x.tmod y=x%y:=Int.tmod_eq_emod_of_nonneg h
end Go.AE.Gn
