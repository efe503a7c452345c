/- A part of the proof, put together of my texts: Y15certs, PureLib. -/
import Derived.Test.YtdnccegimipapaaGreatRows
import Derived.KernelRfl
import Derived.Test.YtdnccegimipapaaGreatRowBcfitTwoP5
set_option linter.unusedSimpArgs false
set_option maxRecDepth 100000
set_option linter.unusedVariables false
open Go.IntKind renaming wrap → y0
open List renaming getD_eq_getElem?_getD → ye, getElem?_eq_getElem → yj, getElem?_eq_none → w9
open Int renaming natCast_pow → wg
abbrev Go.AE.Ty.I:Go.AE.Ty:= .int .i64
abbrev Go.AE.CI.J:Go.AE.CI:= .hole (.int .i64)
abbrev Go.AE.CO.J:Go.AE.CO:= .hole (.int .i64)
abbrev Go.AE.CTy.I:Go.AE.CTy:= .int .i64
abbrev Go.AE.Ty.L(n:Nat):Go.AE.Ty:= .is .i64 n
abbrev Go.AE.CTy.L(n:Nat):Go.AE.CTy:= .is .i64 n
namespace Go.Proofs.YtdnccegimipapaaGreat
open Go Go.AE Go.AE.Gn
noncomputable abbrev pp:=Tryz.prog
theorem q00:q0t Tryz.prog:=zwt (by kernel_rfl)
def q4q(F:Nat):ToldF:=⟨226,1,[.row .u8 1 (.slot 0) false],[.row .u8 1],fun d=>q4x F d.1⟩
theorem q9y(F:Nat):(q4q F).ok pp:=
 j0r q00 (fn:=Tryz.f226) (f:=226) (k:= .u8) (sz:=1) (R0:=cloneR0 (qdu Tryz.f226)) (X:=cloneX (qdu Tryz.f226)) (REST:=j34 (qdu Tryz.f226)) (o3:=cloneO3 (qdu Tryz.f226)) (o4:=cloneO4 (qdu Tryz.f226)) (t:=27) (t' :=27) (e:=5) (i1:=1) (by kernel_rfl) (by kernel_rfl) (by kernel_rfl) (by kernel_rfl) (by kernel_rfl) (by kernel_rfl) (by kernel_rfl)
  (cloneS1 1 .u8) (j37 1 .u8)
  (fun l=>by kernel_rfl) (fun l=>by kernel_rfl) (fun l=>⟨rfl,rfl⟩) (fun l=>by simp[j37]) (fun l=>by kernel_rfl) (fun l=>by kernel_rfl)
def zow(F:Nat):List ToldF:=[]
theorem zox(F:Nat):q02 pp (zow F):=trivial
def q9z(F:Nat):ToldF:=⟨65,1,[.slot 0 .I],[.ty (.agg [.I,.I,.bool]),.ty .I],u1 (q8k F)⟩
theorem ql9(F:Nat):(q9z F).ok pp:=
 okF q00 (zox F) (fn:=Tryz.f65) [] (by kernel_rfl) aN fun d=>by kernel_rfl
def qmm(F:Nat):TX:=⟨23,[.slot 7 (.L 64),.slot 8 .I,.slot 11 (.L 4),.slot 12 .I],[.const 2 (.bool (some false) false)],[.slot 7 (.L 64),.slot 8 .I],.ret,2,fun k=>u4 (q33 F k),fun k=>u4 (q7n F (q33 F k))⟩
theorem z0h(F:Nat):(qmm F).ok pp Tryz.f66 F:=
 okX q00 (zox F) [] aN (fun _=>rfl) (fun _ _=>rfl) (eR rfl) fun k d=>by kernel_rfl
def z0i(F:Nat):TX:=⟨23,[.slot 7 (.L 64),.slot 8 .I],[.const 2 (.bool (some false) false)],[],.ret,0,fun k=>u2 (q34 F k),fun k=>u2 (q7o F (q34 F k))⟩
theorem zkk(F:Nat):(z0i F).ok pp Tryz.f66 F:=
 okX q00 (zox F) [(2,(qmm F).ann F)] (aX (by kernel_rfl) (z0h F) aN) (fun _=>rfl) (fun _ _=>rfl) (eR rfl) fun k d=>by kernel_rfl
def qvw(F:Nat):ToldF:=⟨66,1,[.slot 0 (.L 64)],[.ty (.bool)],u1 (qb8 F)⟩
theorem zoy(F:Nat):(qvw F).ok pp:=
 okF q00 (zox F) (fn:=Tryz.f66) [(2,(qmm F).ann F),(0,(z0i F).ann F)] (by kernel_rfl) (aX (by kernel_rfl) (z0h F) (aX (by kernel_rfl) (zkk F) aN)) fun d=>by kernel_rfl
def zal(F:Nat):List ToldF:=[q9z F]
theorem qgu(F:Nat):q02 pp (zal F):=⟨ql9 F,trivial⟩
def qgv(F:Nat):TL:=⟨41,[.segs [.hole (.L 64)] (.slot 3) true,.ptr 3 1 64,.segs [.hole (.L 64)] (.slot 4) true,.ptr 4 2 64,.slot 7 .I,.slot 19 .I,.slot 24 (.L 4),.slot 25 .I],[.segs [.hole (.L 64)] (.slot 3) true,.ptr 3 1 64,.segs [.hole (.L 64)] (.slot 4) true,.ptr 4 2 64,.slot 19 .I],2,fun k=>u6 (q6i F k),fun k=>u6 (qal F (q6i F k))⟩
theorem qs2(F:Nat):(qgv F).ok pp Tryz.f27 F:=
 okL q00 (qgu F) [] aN (fun _=>rfl) (fun _ _=>rfl) fun k d=>by kernel_rfl
def qs3(F:Nat):TL:=⟨41,[.segs [.hole (.L 64)] (.slot 3) true,.ptr 3 1 64,.segs [.hole (.L 64)] (.slot 4) true,.ptr 4 2 64,.slot 19 .I],[.segs [.hole (.L 64)] (.slot 3) true,.ptr 3 1 64,.segs [.hole (.L 64)] (.slot 4) true,.ptr 4 2 64],0,fun k=>u3 (q6j F k),fun k=>u3 (qam F (q6j F k))⟩
theorem zam(F:Nat):(qs3 F).ok pp Tryz.f27 F:=
 okL q00 (qgu F) [(2,(qgv F).ann F)] (aL (by kernel_rfl) (qs2 F) aN) (fun _=>rfl) (fun _ _=>rfl) fun k d=>by kernel_rfl
def qee(F:Nat):ToldF:=⟨27,2,[.slot 0 .I,.slot 1 (.L 64)],[.ty (.L 64)],u2 (qg7 F)⟩
theorem qvx(F:Nat):(qee F).ok pp:=
 okF q00 (qgu F) (fn:=Tryz.f27) [(2,(qgv F).ann F),(0,(qs3 F).ann F)] (by kernel_rfl) (aL (by kernel_rfl) (qs2 F) (aL (by kernel_rfl) (zam F) aN)) fun d=>by kernel_rfl
def qmn(F:Nat):ToldF:=⟨153,1,[.slot 0 .I],[.ty (.bool)],u1 (qva F)⟩
theorem z9t(F:Nat):(qmn F).ok pp:=
 okF q00 (zox F) (fn:=Tryz.f153) [] (by kernel_rfl) aN fun d=>by kernel_rfl
def zkl(F:Nat):List ToldF:=[qmn F]
theorem z0j(F:Nat):q02 pp (zkl F):=⟨z9t F,trivial⟩
def z0k(F:Nat):TL:=⟨28,[.slot 0 .I,.slot 1 .I,.slot 5 .I,.slot 6 .I],[.slot 5 .I,.slot 6 .I],0,fun k=>u4 (qi1 F k),fun k=>u4 (z08 F (qi1 F k))⟩
theorem zkm(F:Nat):(z0k F).ok pp Tryz.f82 F:=
 okL q00 (z0j F) [] aN (fun _=>rfl) (fun _ _=>rfl) fun k d=>by kernel_rfl
def q2j(F:Nat):ToldF:=⟨82,2,[.slot 0 .I,.slot 1 .I],[.ty .I],u2 (q0l F)⟩
theorem q5v(F:Nat):(q2j F).ok pp:=
 okF q00 (z0j F) (fn:=Tryz.f82) [(0,(z0k F).ann F)] (by kernel_rfl) (aL (by kernel_rfl) (zkm F) aN) fun d=>by kernel_rfl
def zan(F:Nat):List ToldF:=[q2j F]
theorem zao(F:Nat):q02 pp (zan F):=⟨q5v F,trivial⟩
def qnt(F:Nat):ToldF:=⟨207,2,[.slot 0 .I,.segs [.J] (.slot 1) false,.ptr 1 1 1],[.ty .I],u2 (qvs F)⟩
theorem zfs(F:Nat):(qnt F).ok pp:=
 okF q00 (zao F) (fn:=Tryz.f207) [] (by kernel_rfl) aN fun d=>by kernel_rfl
def q9l(F:Nat):ToldF:=⟨149,1,[.slot 0 .I],[.ty .I],u1 (q42 F)⟩
theorem qjo(F:Nat):(q9l F).ok pp:=
 okF q00 (zox F) (fn:=Tryz.f149) [] (by kernel_rfl) aN fun d=>by kernel_rfl
def z6w(F:Nat):List ToldF:=[q9l F]
theorem qnu(F:Nat):q02 pp (z6w F):=⟨qjo F,trivial⟩
def qnv(F:Nat):TL:=⟨25,[.slot 0 .I,.row .i64 1 (.cell (.slot 2) 0) false,.segs [.sl 1 1 .whole] (.slot 2) false,.ptr 2 2 1,.slot 5 .I,.row .i64 1 (.slot 8) false,.slot 9 .I,.slot 10 .I],[.slot 5 .I],0,fun k=>u6 (q3o F k),fun k=>u6 (q4d F (q3o F k))⟩
theorem z6x(F:Nat):(qnv F).ok pp Tryz.f255 F:=
 okL q00 (qnu F) [] aN (fun _=>rfl) (fun _ _=>rfl) fun k d=>by kernel_rfl
def qla(F:Nat):ToldF:=⟨255,3,[.slot 0 .I,.row .i64 1 (.cell (.slot 1) 0) false,.segs [.sl 1 1 .whole] (.slot 1) false,.ptr 1 2 1,.row .i64 1 (.cell (.slot 2) 0) false,.segs [.sl 3 1 .whole] (.slot 2) false,.ptr 2 4 1],[.ty .I],u3 (qid F)⟩
theorem zar(F:Nat):(qla F).ok pp:=
 okF q00 (qnu F) (fn:=Tryz.f255) [(0,(qnv F).ann F)] (by kernel_rfl) (aL (by kernel_rfl) (z6x F) aN) fun d=>by kernel_rfl
def qql(F:Nat):List ToldF:=[qla F]
theorem qcu(F:Nat):q02 pp (qql F):=⟨zar F,trivial⟩
def qcv(F:Nat):TL:=⟨27,[.row .i64 1 (.cell (.cap (.slot 1) 0) 0) false,.segs [.sl 1 1 .whole] (.cap (.slot 1) 0) false,.row .i64 1 (.cell (.cap (.slot 1) 1) 0) false,.segs [.sl 3 1 .whole] (.cap (.slot 1) 1) false,.fn 1 255 [.ptr 2 1,.ptr 4 1],.slot 5 .I,.slot 6 .I,.slot 9 .I,.slot 10 .I],[.slot 5 .I],0,fun k=>u6 (q0x F k),fun k=>u6 (q13 F (q0x F k))⟩
theorem qqm(F:Nat):(qcv F).ok pp Tryz.f154 F:=
 okL q00 (qcu F) [] aN (fun _=>rfl) (fun _ _=>rfl) fun k d=>by kernel_rfl
def qbc(F:Nat):ToldF:=⟨154,2,[.slot 0 .I,.row .i64 1 (.cell (.cap (.slot 1) 0) 0) false,.segs [.sl 1 1 .whole] (.cap (.slot 1) 0) false,.row .i64 1 (.cell (.cap (.slot 1) 1) 0) false,.segs [.sl 3 1 .whole] (.cap (.slot 1) 1) false,.fn 1 255 [.ptr 2 1,.ptr 4 1]],[.ty .I],u3 (qaw F)⟩
theorem qu7(F:Nat):(qbc F).ok pp:=
 okF q00 (qcu F) (fn:=Tryz.f154) [(0,(qcv F).ann F)] (by kernel_rfl) (aL (by kernel_rfl) (qqm F) aN) fun d=>by kernel_rfl
def zkn(F:Nat):List ToldF:=[qbc F]
theorem zko(F:Nat):q02 pp (zkn F):=⟨qu7 F,trivial⟩
def q6k(F:Nat):ToldF:=⟨237,2,[.row .i64 1 (.slot 0) false,.row .i64 1 (.slot 1) false],[.ty .I],u2 (qb9 F)⟩
theorem qcw(F:Nat):(q6k F).ok pp:=
 okF q00 (zko F) (fn:=Tryz.f237) [] (by kernel_rfl) aN fun d=>by kernel_rfl
def qvy(F:Nat):List ToldF:=[qnt F,q6k F]
theorem q8s(F:Nat):q02 pp (qvy F):=⟨zfs F,qcw F,trivial⟩
def qgc(F:Nat):TL:=⟨39,[.slot 1 .I,.slot 2 .I,.segs [.J] (.cap (.slot 3) 0) false,.fn 3 207 [.ptr 1 1],.row .i64 1 (.slot 9) true,.const 10 .nils,.slot 14 (.L 64),.slot 15 .I],[.slot 2 .I,.segs [.J] (.cap (.slot 3) 0) false,.fn 3 207 [.ptr 1 1],.row .i64 1 (.slot 9) true,.const 10 .nils],0,fun k=>u6 (q2k F k),fun k=>u6 (q5p F (q2k F k))⟩
theorem qvz(F:Nat):(qgc F).ok pp Tryz.f206 F:=
 okL q00 (q8s F) [] aN (fun _=>rfl) (fun _ _=>rfl) fun k d=>by kernel_rfl
def qgd(F:Nat):TL:=⟨39,[.segs [.J] (.cap (.slot 3) 0) false,.fn 3 207 [.ptr 1 1],.row .i64 1 (.slot 9) true,.row .i64 1 (.slot 10) true,.slot 25 .I,.slot 26 .I],[.row .i64 1 (.slot 9) true,.row .i64 1 (.slot 10) true],2,fun k=>u5 (q21 F k),fun k=>u5 (q29 F (q21 F k))⟩
theorem qw0(F:Nat):(qgd F).ok pp Tryz.f206 F:=
 okL q00 (q8s F) [] aN (fun _=>rfl) (fun _ _=>rfl) fun k d=>by kernel_rfl
def qdx(F:Nat):ToldF:=⟨206,4,[.slot 0 (.L 64),.slot 1 .I,.slot 2 .I,.segs [.J] (.cap (.slot 3) 0) false,.fn 3 207 [.ptr 1 1]],[.ty .I],u4 (q9e F)⟩
theorem qzk(F:Nat):(qdx F).ok pp:=
 okF q00 (q8s F) (fn:=Tryz.f206) [(0,(qgc F).ann F),(2,(qgd F).ann F)] (by kernel_rfl) (aL (by kernel_rfl) (qvz F) (aL (by kernel_rfl) (qw0 F) aN)) fun d=>by kernel_rfl
def zp1(F:Nat):List ToldF:=[qdx F]
theorem zp2(F:Nat):q02 pp (zp1 F):=⟨qzk F,trivial⟩
def qfl(F:Nat):ToldF:=⟨139,3,[.slot 0 (.L 64),.slot 1 .I,.slot 2 .I],[.ty .I],u3 (q9x F)⟩
theorem qw1(F:Nat):(qfl F).ok pp:=
 okF q00 (zp2 F) (fn:=Tryz.f139) [] (by kernel_rfl) aN fun d=>by kernel_rfl
def qs5(F:Nat):TL:=⟨13,[.slot 0 .I,.segs [.hole (.L 16)] (.slot 2) true,.ptr 2 1 16,.segs [.hole (.L 16)] (.slot 3) true,.ptr 3 2 16,.slot 5 .I],[.segs [.hole (.L 16)] (.slot 2) true,.ptr 2 1 16,.segs [.hole (.L 16)] (.slot 3) true,.ptr 3 2 16],0,fun k=>u4 (q4o F k),fun k=>u4 (qan F (q4o F k))⟩
theorem zat(F:Nat):(qs5 F).ok pp Tryz.f138 F:=
 okL q00 (zox F) [] aN (fun _=>rfl) (fun _ _=>rfl) fun k d=>by kernel_rfl
def q4e(F:Nat):ToldF:=⟨138,1,[.slot 0 .I],[.ty (.L 16)],u1 (q5q F)⟩
theorem q8t(F:Nat):(q4e F).ok pp:=
 okF q00 (zox F) (fn:=Tryz.f138) [(0,(qs5 F).ann F)] (by kernel_rfl) (aL (by kernel_rfl) (zat F) aN) fun d=>by kernel_rfl
def qmo(F:Nat):ToldF:=⟨257,3,[.row .u8 1 (.slot 0) false,.slot 1 .I,.slot 2 .I],[.ty (.bool)],u3 (qne F)⟩
theorem z9u(F:Nat):(qmo F).ok pp:=
 okF q00 (zox F) (fn:=Tryz.f257) [] (by kernel_rfl) aN fun d=>by kernel_rfl
def zkp(F:Nat):List ToldF:=[qmo F]
theorem zkq(F:Nat):q02 pp (zkp F):=⟨z9u F,trivial⟩
def qcx(F:Nat):ToldF:=⟨252,3,[.row .u8 1 (.slot 0) false,.slot 1 .I,.slot 2 .I],[.ty .I],u3 (qiv F)⟩
theorem qqn(F:Nat):(qcx F).ok pp:=
 okF q00 (zkq F) (fn:=Tryz.f252) [] (by kernel_rfl) aN fun d=>by kernel_rfl
def zp5(F:Nat):List ToldF:=[qcx F]
theorem zp6(F:Nat):q02 pp (zp5 F):=⟨qqn F,trivial⟩
def qmp(F:Nat):ToldF:=⟨225,4,[.row .u8 1 (.slot 0) false,.slot 1 .I,.slot 2 .I,.slot 3 (.int .u64)],[.ty .I],u4 (qv8 F)⟩
theorem z9v(F:Nat):(qmp F).ok pp:=
 okF q00 (zp6 F) (fn:=Tryz.f225) [] (by kernel_rfl) aN fun d=>by kernel_rfl
def qqo(F:Nat):ToldF:=⟨227,3,[.slot 0 (.int .u8),.slot 1 .I,.slot 2 (.int .u64)],[.ty (.int .u8)],u3 (z3p F)⟩
theorem zft(F:Nat):(qqo F).ok pp:=
 okF q00 (zox F) (fn:=Tryz.f227) [] (by kernel_rfl) aN fun d=>by kernel_rfl
def zfu(F:Nat):List ToldF:=[qmp F,q4q F,qqo F]
theorem qw2(F:Nat):q02 pp (zfu F):=⟨z9v F,q9y F,zft F,trivial⟩
def qw3(F:Nat):TL:=⟨48,[.slot 1 .I,.slot 3 (.int .u64),.row .u8 1 (.slot 11) true,.slot 24 .I,.slot 25 .I],[.row .u8 1 (.slot 11) true],0,fun k=>u5 (q7h F k),fun k=>u5 (qj8 F (q7h F k))⟩
theorem zfv(F:Nat):(qw3 F).ok pp Tryz.f233 F:=
 okL q00 (qw2 F) [] aN (fun _=>rfl) (fun _ _=>rfl) fun k d=>by kernel_rfl
def q7d(F:Nat):ToldF:=⟨233,4,[.row .u8 1 (.slot 0) false,.slot 1 .I,.slot 2 .I,.slot 3 (.int .u64)],[.row .u8 1,.ty .I],u4 (q6u F)⟩
theorem qfm(F:Nat):(q7d F).ok pp:=
 okF q00 (qw2 F) (fn:=Tryz.f233) [(0,(qw3 F).ann F)] (by kernel_rfl) (aL (by kernel_rfl) (zfv F) aN) fun d=>by kernel_rfl
def z6y(F:Nat):List ToldF:=[q7d F]
theorem qnw(F:Nat):q02 pp (z6y F):=⟨qfm F,trivial⟩
def qnx(F:Nat):TX:=⟨41,[.slot 0 (.int .u64),.slot 1 .I,.slot 2 .I,.slot 12 (.L 16),.slot 13 .I],[.const 8 .nils,.const 9 (.int .i64 (some 1) 1)],[.slot 0 (.int .u64)],.ret,0,fun k=>u5 (q1q F k),fun k=>u5 (q4a F (q1q F k))⟩
theorem z6z(F:Nat):(qnx F).ok pp Tryz.f200 F:=
 okX q00 (qnw F) [] aN (fun _=>rfl) (fun _ _=>rfl) (eR rfl) fun k d=>by kernel_rfl
def qcy(F:Nat):ToldF:=⟨200,4,[.slot 0 (.int .u64),.slot 1 .I,.slot 2 .I,.slot 3 (.L 16)],[.row .u8 1,.ty .I],u4 (q6v F)⟩
theorem qs6(F:Nat):(qcy F).ok pp:=
 okF q00 (qnw F) (fn:=Tryz.f200) [(0,(qnx F).ann F)] (by kernel_rfl) (aX (by kernel_rfl) (z6z F) aN) fun d=>by kernel_rfl
def qzl(F:Nat):List ToldF:=[qcy F]
theorem qzm(F:Nat):q02 pp (qzl F):=⟨qs6 F,trivial⟩
def q8u(F:Nat):ToldF:=⟨129,1,[.slot 0 (.L 16)],[.row .u8 1,.ty .I],u1 (q3m F)⟩
theorem qjp(F:Nat):(q8u F).ok pp:=
 okF q00 (qzm F) (fn:=Tryz.f129) [] (by kernel_rfl) aN fun d=>by kernel_rfl
def zkr(F:Nat):List ToldF:=[q7d F]
theorem z0l(F:Nat):q02 pp (zkr F):=⟨qfm F,trivial⟩
def z0m(F:Nat):TX:=⟨56,[.slot 8 (.int .u64),.slot 31 (.L 16),.slot 32 .I],[.const 6 .nils,.const 7 (.int .i64 (some 1) 1)],[.slot 8 (.int .u64)],.ret,0,fun k=>u3 (q27 F k),fun k=>u3 (q7j F (q27 F k))⟩
theorem zks(F:Nat):(z0m F).ok pp Tryz.f198 F:=
 okX q00 (z0l F) [] aN (fun _=>rfl) (fun _ _=>rfl) (eR rfl) fun k d=>by kernel_rfl
def qjq(F:Nat):ToldF:=⟨198,3,[.slot 0 .I,.slot 1 .I,.slot 2 (.L 16)],[.row .u8 1,.ty .I],u3 (qb5 F)⟩
theorem z3y(F:Nat):(qjq F).ok pp:=
 okF q00 (z0l F) (fn:=Tryz.f198) [(0,(z0m F).ann F)] (by kernel_rfl) (aX (by kernel_rfl) (zks F) aN) fun d=>by kernel_rfl
def ztq(F:Nat):List ToldF:=[qfl F,q4e F,qjq F]
theorem ztr(F:Nat):q02 pp (ztq F):=⟨qw1 F,q8t F,z3y F,trivial⟩
def z3z(F:Nat):ToldF:=⟨140,1,[.slot 0 (.L 64)],[.row .u8 1],u1 (qz2 F)⟩
theorem zx0(F:Nat):(z3z F).ok pp:=
 okF q00 (ztr F) (fn:=Tryz.f140) [] (by kernel_rfl) aN fun d=>by kernel_rfl
def qlb(F:Nat):ToldF:=⟨211,1,[.slot 0 .I],[.ty .I],u1 (qqh F)⟩
theorem zau(F:Nat):(qlb F).ok pp:=
 okF q00 (zox F) (fn:=Tryz.f211) [] (by kernel_rfl) aN fun d=>by kernel_rfl
def qu8(F:Nat):List ToldF:=[q6k F,qlb F]
theorem q7w(F:Nat):q02 pp (qu8 F):=⟨qcw F,zau F,trivial⟩
def qdy(F:Nat):TL:=⟨39,[.slot 1 .I,.slot 2 .I,.fn 3 211 [],.row .i64 1 (.slot 9) true,.const 10 .nils,.slot 14 (.L 64),.slot 15 .I],[.slot 2 .I,.fn 3 211 [],.row .i64 1 (.slot 9) true,.const 10 .nils],0,fun k=>u5 (q2a F k),fun k=>u5 (q4z F (q2a F k))⟩
theorem qu9(F:Nat):(qdy F).ok pp Tryz.f206 F:=
 okL q00 (q7w F) [] aN (fun _=>rfl) (fun _ _=>rfl) fun k d=>by kernel_rfl
def qdz(F:Nat):TL:=⟨39,[.fn 3 211 [],.row .i64 1 (.slot 9) true,.row .i64 1 (.slot 10) true,.slot 25 .I,.slot 26 .I],[.row .i64 1 (.slot 9) true,.row .i64 1 (.slot 10) true],2,fun k=>u4 (q1l F k),fun k=>u4 (q23 F (q1l F k))⟩
theorem qua(F:Nat):(qdz F).ok pp Tryz.f206 F:=
 okL q00 (q7w F) [] aN (fun _=>rfl) (fun _ _=>rfl) fun k d=>by kernel_rfl
def qcz(F:Nat):ToldF:=⟨206,4,[.slot 0 (.L 64),.slot 1 .I,.slot 2 .I,.fn 3 211 []],[.ty .I],u3 (qcj F)⟩
theorem qw4(F:Nat):(qcz F).ok pp:=
 okF q00 (q7w F) (fn:=Tryz.f206) [(0,(qdy F).ann F),(2,(qdz F).ann F)] (by kernel_rfl) (aL (by kernel_rfl) (qu9 F) (aL (by kernel_rfl) (qua F) aN)) fun d=>by kernel_rfl
def zkt(F:Nat):List ToldF:=[qcz F]
theorem zku(F:Nat):q02 pp (zkt F):=⟨qw4 F,trivial⟩
def qjr(F:Nat):ToldF:=⟨146,2,[.slot 0 (.L 64),.slot 1 .I],[.ty .I],u2 (qnq F)⟩
theorem z40(F:Nat):(qjr F).ok pp:=
 okF q00 (zku F) (fn:=Tryz.f146) [] (by kernel_rfl) aN fun d=>by kernel_rfl
def zfw(F:Nat):List ToldF:=[qcy F]
theorem zfx(F:Nat):q02 pp (zfw F):=⟨qs6 F,trivial⟩
def qgw(F:Nat):ToldF:=⟨134,3,[.slot 0 .I,.slot 1 .I,.slot 2 (.L 16)],[.row .u8 1,.ty .I],u3 (q6w F)⟩
theorem z0n(F:Nat):(qgw F).ok pp:=
 okF q00 (zfx F) (fn:=Tryz.f134) [] (by kernel_rfl) aN fun d=>by kernel_rfl
def zp7(F:Nat):List ToldF:=[q4e F,qjr F,qgw F]
theorem zp8(F:Nat):q02 pp (zp7 F):=⟨q8t F,z40 F,z0n F,trivial⟩
def z0o(F:Nat):ToldF:=⟨141,2,[.slot 0 (.L 64),.slot 1 .I],[.row .u8 1],u2 (qjh F)⟩
theorem zts(F:Nat):(z0o F).ok pp:=
 okF q00 (zp8 F) (fn:=Tryz.f141) [] (by kernel_rfl) aN fun d=>by kernel_rfl
def qjs(F:Nat):ToldF:=⟨209,2,[.slot 0 .I,.segs [.J] (.slot 1) false,.ptr 1 1 1],[.ty .I],u2 (qmj F)⟩
theorem z72(F:Nat):(qjs F).ok pp:=
 okF q00 (zox F) (fn:=Tryz.f209) [] (by kernel_rfl) aN fun d=>by kernel_rfl
def qqp(F:Nat):List ToldF:=[q6k F,qjs F]
theorem q72(F:Nat):q02 pp (qqp F):=⟨qcw F,z72 F,trivial⟩
def qd0(F:Nat):TL:=⟨39,[.slot 1 .I,.slot 2 .I,.segs [.J] (.cap (.slot 3) 0) false,.fn 3 209 [.ptr 1 1],.row .i64 1 (.slot 9) true,.const 10 .nils,.slot 14 (.L 64),.slot 15 .I],[.slot 2 .I,.segs [.J] (.cap (.slot 3) 0) false,.fn 3 209 [.ptr 1 1],.row .i64 1 (.slot 9) true,.const 10 .nils],0,fun k=>u6 (q24 F k),fun k=>u6 (q3w F (q24 F k))⟩
theorem qqq(F:Nat):(qd0 F).ok pp Tryz.f206 F:=
 okL q00 (q72 F) [] aN (fun _=>rfl) (fun _ _=>rfl) fun k d=>by kernel_rfl
def qd1(F:Nat):TL:=⟨39,[.segs [.J] (.cap (.slot 3) 0) false,.fn 3 209 [.ptr 1 1],.row .i64 1 (.slot 9) true,.row .i64 1 (.slot 10) true,.slot 25 .I,.slot 26 .I],[.row .i64 1 (.slot 9) true,.row .i64 1 (.slot 10) true],2,fun k=>u5 (q1e F k),fun k=>u5 (q1x F (q1e F k))⟩
theorem qqr(F:Nat):(qd1 F).ok pp Tryz.f206 F:=
 okL q00 (q72 F) [] aN (fun _=>rfl) (fun _ _=>rfl) fun k d=>by kernel_rfl
def qbd(F:Nat):ToldF:=⟨206,4,[.slot 0 (.L 64),.slot 1 .I,.slot 2 .I,.segs [.J] (.cap (.slot 3) 0) false,.fn 3 209 [.ptr 1 1]],[.ty .I],u4 (q70 F)⟩
theorem qub(F:Nat):(qbd F).ok pp:=
 okF q00 (q72 F) (fn:=Tryz.f206) [(0,(qd0 F).ann F),(2,(qd1 F).ann F)] (by kernel_rfl) (aL (by kernel_rfl) (qqq F) (aL (by kernel_rfl) (qqr F) aN)) fun d=>by kernel_rfl
def z43(F:Nat):List ToldF:=[q7d F]
theorem z44(F:Nat):q02 pp (z43 F):=⟨qfm F,trivial⟩
def qjt(F:Nat):ToldF:=⟨236,5,[.slot 0 .I,.slot 1 .I,.row .u8 1 (.cell (.slot 2) 0) true (some 0),.segs [.sl 1 1 .own] (.slot 2) true (some 1),.ptr 2 2 1,.segs [.J] (.slot 3) true (some 2),.ptr 3 3 1,.segs [.hole (.bool)] (.slot 4) true (some 3),.ptr 4 4 1],[.psegs 1 [.row .u8 1 true],.psegs 2 [.J],.psegs 3 [.hole (.bool)]],u5 (q32 F)⟩
theorem z73(F:Nat):(qjt F).ok pp:=
 okF q00 (z44 F) (fn:=Tryz.f236) [] (by kernel_rfl) aN fun d=>by kernel_rfl
def zfy(F:Nat):List ToldF:=[q7d F,qjt F]
theorem qju(F:Nat):q02 pp (zfy F):=⟨qfm F,z73 F,trivial⟩
def qw5(F:Nat):TL:=⟨62,[.segs [.hole (.L 8)] (.slot 3) true,.ptr 3 1 8,.segs [.hole (.L 2)] (.slot 4) true,.ptr 4 2 2,.segs [.hole (.L 16)] (.slot 5) true,.ptr 5 3 16,.row .u8 1 (.cell (.slot 8) 0) true,.segs [.sl 4 1 .own] (.slot 8) true,.ptr 8 5 1,.segs [.hole (.bool)] (.slot 11) true,.ptr 11 6 1,.segs [.J] (.cap (.slot 12) 1) true,.fn 12 236 [.ptr 5 1,.ptr 7 1,.ptr 6 1],.slot 22 .I],[.segs [.hole (.L 2)] (.slot 4) true,.ptr 4 1 2,.segs [.hole (.L 16)] (.slot 5) true,.ptr 5 2 16,.row .u8 1 (.cell (.slot 8) 0) true,.segs [.sl 3 1 .own] (.slot 8) true,.ptr 8 4 1,.segs [.hole (.bool)] (.slot 11) true,.ptr 11 5 1,.segs [.J] (.cap (.slot 12) 1) true,.fn 12 236 [.ptr 4 1,.ptr 6 1,.ptr 5 1]],0,fun k=>u7 (q45 F k),fun k=>u7 (qc6 F (q45 F k))⟩
theorem zfz(F:Nat):(qw5 F).ok pp Tryz.f205 F:=
 okL q00 (qju F) [] aN (fun _=>rfl) (fun _ _=>rfl) fun k d=>by kernel_rfl
def qw6(F:Nat):TL:=⟨62,[.row .u8 1 (.cell (.slot 8) 0) true,.segs [.sl 1 1 .own] (.slot 8) true,.ptr 8 2 1,.segs [.hole (.bool)] (.slot 11) true,.ptr 11 3 1,.segs [.J] (.cap (.slot 12) 1) true,.fn 12 236 [.ptr 2 1,.ptr 4 1,.ptr 3 1],.slot 46 (.L 16),.slot 47 .I],[.row .u8 1 (.cell (.slot 8) 0) true,.segs [.sl 1 1 .own] (.slot 8) true,.ptr 8 2 1,.segs [.hole (.bool)] (.slot 11) true,.ptr 11 3 1],2,fun k=>u5 (q46 F k),fun k=>u5 (qc7 F (q46 F k))⟩
theorem zg0(F:Nat):(qw6 F).ok pp Tryz.f205 F:=
 okL q00 (qju F) [] aN (fun _=>rfl) (fun _ _=>rfl) fun k d=>by kernel_rfl
def qgx(F:Nat):ToldF:=⟨205,3,[.slot 0 (.L 8),.slot 1 (.L 2),.slot 2 (.L 16)],[.row .u8 1,.ty .I],u3 (q4g F)⟩
theorem z0p(F:Nat):(qgx F).ok pp:=
 okF q00 (qju F) (fn:=Tryz.f205) [(0,(qw5 F).ann F),(2,(qw6 F).ann F)] (by kernel_rfl) (aL (by kernel_rfl) (zfz F) (aL (by kernel_rfl) (zg0 F) aN)) fun d=>by kernel_rfl
def zg1(F:Nat):List ToldF:=[q4e F,qbd F,qgx F]
theorem qw7(F:Nat):q02 pp (zg1 F):=⟨q8t F,qub F,z0p F,trivial⟩
def qw8(F:Nat):TL:=⟨30,[.segs [.hole (.L 64)] (.slot 1) false,.ptr 1 1 64,.segs [.J] (.slot 2) true,.ptr 2 2 1,.segs [.hole (.L 4)] (.slot 4) true,.ptr 4 3 4,.slot 8 .I],[.segs [.J] (.slot 2) true,.ptr 2 1 1,.segs [.hole (.L 4)] (.slot 4) true,.ptr 4 2 4],0,fun k=>u4 (q61 F k),fun k=>u4 (qck F (q61 F k))⟩
theorem zg2(F:Nat):(qw8 F).ok pp Tryz.f208 F:=
 okL q00 (qw7 F) [] aN (fun _=>rfl) (fun _ _=>rfl) fun k d=>by kernel_rfl
def qs7(F:Nat):ToldF:=⟨208,2,[.slot 0 .I,.segs [.hole (.L 64)] (.slot 1) false,.ptr 1 1 64],[.row .u8 1],u2 (qji F)⟩
theorem zkv(F:Nat):(qs7 F).ok pp:=
 okF q00 (qw7 F) (fn:=Tryz.f208) [(0,(qw8 F).ann F)] (by kernel_rfl) (aL (by kernel_rfl) (zg2 F) aN) fun d=>by kernel_rfl
def qwa(F:Nat):TL:=⟨17,[.slot 0 (.int .u8),.segs [.hole (.is .u64 8)] (.slot 2) true,.ptr 2 1 8,.segs [.hole (.is .u64 8)] (.slot 3) true,.ptr 3 2 8,.slot 5 .I],[.segs [.hole (.is .u64 8)] (.slot 2) true,.ptr 2 1 8,.segs [.hole (.is .u64 8)] (.slot 3) true,.ptr 3 2 8],0,fun k=>u4 (qey F k),fun k=>u4 (qv6 F (qey F k))⟩
theorem zg4(F:Nat):(qwa F).ok pp Tryz.f273 F:=
 okL q00 (zox F) [] aN (fun _=>rfl) (fun _ _=>rfl) fun k d=>by kernel_rfl
def qgy(F:Nat):ToldF:=⟨273,1,[.slot 0 (.int .u8)],[.ty (.is .u64 8)],u1 (qj7 F)⟩
theorem z0q(F:Nat):(qgy F).ok pp:=
 okF q00 (zox F) (fn:=Tryz.f273) [(0,(qwa F).ann F)] (by kernel_rfl) (aL (by kernel_rfl) (zg4 F) aN) fun d=>by kernel_rfl
def ztt(F:Nat):List ToldF:=[qgy F]
theorem ztu(F:Nat):q02 pp (ztt F):=⟨z0q F,trivial⟩
def z45(F:Nat):ToldF:=⟨274,2,[.row .u8 1 (.slot 0) false,.slot 1 .I],[.ty (.int .u64)],u2 (zdw F)⟩
theorem zx1(F:Nat):(z45 F).ok pp:=
 okF q00 (ztu F) (fn:=Tryz.f274) [] (by kernel_rfl) aN fun d=>by kernel_rfl
def ztv(F:Nat):List ToldF:=[qcx F,z45 F]
theorem z9w(F:Nat):q02 pp (ztv F):=⟨qqn F,zx1 F,trivial⟩
def z9x(F:Nat):TX:=⟨34,[.row .u8 1 (.slot 0) false,.slot 1 .I,.slot 8 .I,.slot 9 (.int .u64),.slot 15 .I,.slot 16 .I],[.const 6 (.int .u64 (some 0) 0),.slot 7 .I],[.slot 8 .I,.slot 9 (.int .u64)],.ret,0,fun k=>u6 (qat F k),fun k=>u6 (qkw F (qat F k))⟩
theorem ztw(F:Nat):(z9x F).ok pp Tryz.f258 F:=
 okX q00 (z9w F) [] aN (fun _=>rfl) (fun _ _=>rfl) (eR rfl) fun k d=>by kernel_rfl
def qqs(F:Nat):ToldF:=⟨258,3,[.row .u8 1 (.slot 0) false,.slot 1 .I,.slot 2 .I],[.ty (.int .u64),.ty .I],u3 (qyv F)⟩
theorem zg5(F:Nat):(qqs F).ok pp:=
 okF q00 (z9w F) (fn:=Tryz.f258) [(0,(z9x F).ann F)] (by kernel_rfl) (aX (by kernel_rfl) (ztw F) aN) fun d=>by kernel_rfl
def zp9(F:Nat):List ToldF:=[qmo F,qqs F]
theorem z46(F:Nat):q02 pp (zp9 F):=⟨z9u F,zg5 F,trivial⟩
def z47(F:Nat):TL:=⟨63,[.row .u8 1 (.slot 0) false,.slot 1 .I,.slot 2 .I,.row .i64 1 (.slot 10) true,.slot 41 .I,.slot 42 .I],[.row .i64 1 (.slot 10) true],1,fun k=>u6 (qb4 F k),fun k=>u6 (qq3 F (qb4 F k))⟩
theorem zpa(F:Nat):(z47 F).ok pp Tryz.f240 F:=
 okL q00 (z46 F) [] aN (fun _=>rfl) (fun _ _=>rfl) fun k d=>by kernel_rfl
def qfn(F:Nat):ToldF:=⟨240,4,[.row .u8 1 (.slot 0) false,.slot 1 .I,.slot 2 .I,.slot 3 .I],[.row .i64 1,.ty .I],u4 (qj9 F)⟩
theorem qwb(F:Nat):(qfn F).ok pp:=
 okF q00 (z46 F) (fn:=Tryz.f240) [(1,(z47 F).ann F)] (by kernel_rfl) (aL (by kernel_rfl) (zpa F) aN) fun d=>by kernel_rfl
def zav(F:Nat):List ToldF:=[q2j F,qfn F]
theorem qs8(F:Nat):q02 pp (zav F):=⟨q5v F,qwb F,trivial⟩
def qs9(F:Nat):TL:=⟨29,[.segs [.hole (.L 16)] (.slot 2) true,.ptr 2 1 16,.segs [.hole (.L 16)] (.slot 4) true,.ptr 4 2 16,.row .i64 1 (.slot 5) true,.slot 17 .I],[.segs [.hole (.L 16)] (.slot 2) true,.ptr 2 1 16,.segs [.hole (.L 16)] (.slot 4) true,.ptr 4 2 16],0,fun k=>u4 (q35 F k),fun k=>u4 (q5d F (q35 F k))⟩
theorem zaw(F:Nat):(qs9 F).ok pp Tryz.f218 F:=
 okL q00 (qs8 F) [] aN (fun _=>rfl) (fun _ _=>rfl) fun k d=>by kernel_rfl
def qny(F:Nat):ToldF:=⟨218,1,[.row .u8 1 (.slot 0) false],[.ty (.L 16),.ty .I],u1 (qkz F)⟩
theorem zg6(F:Nat):(qny F).ok pp:=
 okF q00 (qs8 F) (fn:=Tryz.f218) [(0,(qs9 F).ann F)] (by kernel_rfl) (aL (by kernel_rfl) (zaw F) aN) fun d=>by kernel_rfl
def zg7(F:Nat):List ToldF:=[qfn F]
theorem zg8(F:Nat):q02 pp (zg7 F):=⟨qwb F,trivial⟩
def qsa(F:Nat):ToldF:=⟨241,1,[.row .u8 1 (.slot 0) false],[.ty .I,.ty .I,.ty (.L 16),.ty .I],u1 (qq7 F)⟩
theorem zkw(F:Nat):(qsa F).ok pp:=
 okF q00 (zg8 F) (fn:=Tryz.f241) [] (by kernel_rfl) aN fun d=>by kernel_rfl
def zax(F:Nat):List ToldF:=[q2j F]
theorem zay(F:Nat):q02 pp (zax F):=⟨q5v F,trivial⟩
def qnz(F:Nat):ToldF:=⟨231,1,[.slot 0 .I],[.ty (.L 4)],u1 (qfz F)⟩
theorem zg9(F:Nat):(qnz F).ok pp:=
 okF q00 (zay F) (fn:=Tryz.f231) [] (by kernel_rfl) aN fun d=>by kernel_rfl
def qfo(F:Nat):ToldF:=⟨201,5,[.slot 0 .I,.slot 1 .I,.slot 2 .I,.slot 3 .I,.slot 4 .I],[.ty .I],u5 (qng F)⟩
theorem qwc(F:Nat):(qfo F).ok pp:=
 okF q00 (zox F) (fn:=Tryz.f201) [] (by kernel_rfl) aN fun d=>by kernel_rfl
def z74(F:Nat):List ToldF:=[qfo F]
theorem qo0(F:Nat):q02 pp (z74 F):=⟨qwc F,trivial⟩
def qo1(F:Nat):TL:=⟨28,[.slot 2 .I,.slot 3 .I,.segs [.hole (.L 4)] (.slot 4) true,.ptr 4 1 4,.segs [.hole (.L 4)] (.slot 5) true,.ptr 5 2 4,.segs [.hole (.L 4)] (.slot 8) true,.ptr 8 3 4,.segs [.hole (.L 4)] (.slot 9) true,.ptr 9 4 4,.slot 12 .I],[.segs [.hole (.L 4)] (.slot 8) true,.ptr 8 1 4,.segs [.hole (.L 4)] (.slot 9) true,.ptr 9 2 4],0,fun k=>u7 (q2o F k),fun k=>u7 (q92 F (q2o F k))⟩
theorem z75(F:Nat):(qo1 F).ok pp Tryz.f232 F:=
 okL q00 (qo0 F) [] aN (fun _=>rfl) (fun _ _=>rfl) fun k d=>by kernel_rfl
def qlc(F:Nat):ToldF:=⟨232,4,[.slot 0 (.L 4),.slot 1 (.L 4),.slot 2 .I,.slot 3 .I],[.ty (.L 4)],u4 (q5k F)⟩
theorem zaz(F:Nat):(qlc F).ok pp:=
 okF q00 (qo0 F) (fn:=Tryz.f232) [(0,(qo1 F).ann F)] (by kernel_rfl) (aL (by kernel_rfl) (z75 F) aN) fun d=>by kernel_rfl
def z76(F:Nat):List ToldF:=[qnz F,qlc F]
theorem z77(F:Nat):q02 pp (z76 F):=⟨zg9 F,zaz F,trivial⟩
def qd2(F:Nat):ToldF:=⟨194,3,[.slot 0 .I,.slot 1 .I,.slot 2 (.bool)],[.ty (.L 16)],u3 (q93 F)⟩
theorem qsb(F:Nat):(qd2 F).ok pp:=
 okF q00 (z77 F) (fn:=Tryz.f194) [] (by kernel_rfl) aN fun d=>by kernel_rfl
def zb0(F:Nat):List ToldF:=[qsa F,qd2 F]
theorem qsc(F:Nat):q02 pp (zb0 F):=⟨zkw F,qsb F,trivial⟩
def qsd(F:Nat):TL:=⟨41,[.segs [.hole (.L 64)] (.slot 4) true,.ptr 4 1 64,.segs [.hole (.L 64)] (.slot 6) true,.ptr 6 2 64,.segs [.hole (.L 16)] (.slot 11) true,.ptr 11 3 16,.slot 29 (.L 16),.slot 30 .I],[.segs [.hole (.L 64)] (.slot 4) true,.ptr 4 1 64,.segs [.hole (.L 64)] (.slot 6) true,.ptr 6 2 64],0,fun k=>u5 (q37 F k),fun k=>u5 (q5f F (q37 F k))⟩
theorem zb1(F:Nat):(qsd F).ok pp Tryz.f220 F:=
 okL q00 (qsc F) [] aN (fun _=>rfl) (fun _ _=>rfl) fun k d=>by kernel_rfl
def qo2(F:Nat):ToldF:=⟨220,2,[.row .u8 1 (.slot 0) false,.slot 1 (.bool)],[.ty (.L 64),.ty .I],u2 (q6n F)⟩
theorem zga(F:Nat):(qo2 F).ok pp:=
 okF q00 (qsc F) (fn:=Tryz.f220) [(0,(qsd F).ann F)] (by kernel_rfl) (aL (by kernel_rfl) (zb1 F) aN) fun d=>by kernel_rfl
def qo3(F:Nat):ToldF:=⟨219,2,[.slot 0 (.L 64),.slot 1 .I],[.ty (.L 64)],u2 (qb7 F)⟩
theorem zgb(F:Nat):(qo3 F).ok pp:=
 okF q00 (zox F) (fn:=Tryz.f219) [] (by kernel_rfl) aN fun d=>by kernel_rfl
def qwe(F:Nat):TL:=⟨23,[.slot 1 .I,.segs [.hole (.L 64)] (.slot 4) true,.ptr 4 1 64,.segs [.hole (.L 64)] (.slot 8) true,.ptr 8 2 64,.slot 11 (.L 16),.slot 12 .I],[.segs [.hole (.L 64)] (.slot 4) true,.ptr 4 1 64,.segs [.hole (.L 64)] (.slot 8) true,.ptr 8 2 64],0,fun k=>u5 (q7k F k),fun k=>u5 (qcf F (q7k F k))⟩
theorem zgd(F:Nat):(qwe F).ok pp Tryz.f217 F:=
 okL q00 (zox F) [] aN (fun _=>rfl) (fun _ _=>rfl) fun k d=>by kernel_rfl
def qgz(F:Nat):ToldF:=⟨217,4,[.slot 0 (.L 64),.slot 1 .I,.slot 2 (.L 16),.slot 3 .I],[.ty (.L 64)],u4 (qed F)⟩
theorem z0r(F:Nat):(qgz F).ok pp:=
 okF q00 (zox F) (fn:=Tryz.f217) [(0,(qwe F).ann F)] (by kernel_rfl) (aL (by kernel_rfl) (zgd F) aN) fun d=>by kernel_rfl
def z2i(F:Nat):ToldF:=⟨150,1,[.slot 0 .I],[.ty .I],u1 (j3r F)⟩
theorem ztx(F:Nat):(z2i F).ok pp:=
 okF q00 (zox F) (fn:=Tryz.f150) [] (by kernel_rfl) aN fun d=>by kernel_rfl
def zpd(F:Nat):List ToldF:=[qgy F]
theorem zpe(F:Nat):q02 pp (zpd F):=⟨z0q F,trivial⟩
def z0s(F:Nat):ToldF:=⟨253,2,[.row .u8 1 (.slot 0) false,.slot 1 .I],[.ty (.int .u64)],u2 (ztj F)⟩
theorem zty(F:Nat):(z0s F).ok pp:=
 okF q00 (zpe F) (fn:=Tryz.f253) [] (by kernel_rfl) aN fun d=>by kernel_rfl
def zpf(F:Nat):List ToldF:=[qcx F,z0s F]
theorem z48(F:Nat):q02 pp (zpf F):=⟨qqn F,zty F,trivial⟩
def z49(F:Nat):TX:=⟨33,[.row .u8 1 (.slot 0) false,.slot 1 .I,.slot 8 .I,.slot 9 (.int .u64),.slot 15 .I,.slot 16 .I],[.const 6 (.int .u64 (some 0) 0),.slot 7 .I],[.slot 8 .I,.slot 9 (.int .u64)],.ret,0,fun k=>u6 (qkx F k),fun k=>u6 (z3o F (qkx F k))⟩
theorem zpg(F:Nat):(z49 F).ok pp Tryz.f229 F:=
 okX q00 (z48 F) [] aN (fun _=>rfl) (fun _ _=>rfl) (eR rfl) fun k d=>by kernel_rfl
def qa0(F:Nat):ToldF:=⟨229,3,[.row .u8 1 (.slot 0) false,.slot 1 .I,.slot 2 .I],[.ty (.int .u64),.ty .I],u3 (qv7 F)⟩
theorem qld(F:Nat):(qa0 F).ok pp:=
 okF q00 (z48 F) (fn:=Tryz.f229) [(0,(z49 F).ann F)] (by kernel_rfl) (aX (by kernel_rfl) (zpg F) aN) fun d=>by kernel_rfl
def zb4(F:Nat):List ToldF:=[qa0 F]
theorem zb5(F:Nat):q02 pp (zb4 F):=⟨qld F,trivial⟩
def qo4(F:Nat):ToldF:=⟨256,3,[.slot 0 .I,.slot 1 .I,.row .u8 1 (.cell (.slot 2) 0) false,.segs [.sl 1 1 .whole] (.slot 2) false,.ptr 2 2 1],[.ty .I],u3 (qg6 F)⟩
theorem zge(F:Nat):(qo4 F).ok pp:=
 okF q00 (zb5 F) (fn:=Tryz.f256) [] (by kernel_rfl) aN fun d=>by kernel_rfl
def zph(F:Nat):List ToldF:=[z2i F,qo4 F]
theorem z4a(F:Nat):q02 pp (zph F):=⟨ztx F,zge F,trivial⟩
def z4b(F:Nat):TL:=⟨32,[.segs [.hole (.L 16)] (.slot 5) true,.ptr 5 1 16,.segs [.hole (.L 16)] (.slot 7) true,.ptr 7 2 16,.row .u8 1 (.cell (.cap (.slot 8) 0) 0) false,.segs [.sl 3 1 .whole] (.cap (.slot 8) 0) true,.fn 8 256 [.ptr 4 1],.slot 15 .I],[.segs [.hole (.L 16)] (.slot 5) true,.ptr 5 1 16,.segs [.hole (.L 16)] (.slot 7) true,.ptr 7 2 16,.row .u8 1 (.cell (.cap (.slot 8) 0) 0) false,.segs [.sl 3 1 .whole] (.cap (.slot 8) 0) true,.fn 8 256 [.ptr 4 1]],0,fun k=>u4 (ql6 F k),fun k=>u4 (z3w F (ql6 F k))⟩
theorem zpi(F:Nat):(z4b F).ok pp Tryz.f238 F:=
 okL q00 (z4a F) [] aN (fun _=>rfl) (fun _ _=>rfl) fun k d=>by kernel_rfl
def z0t(F:Nat):ToldF:=⟨238,1,[.row .u8 1 (.slot 0) false],[.ty .I,.ty .I,.ty .I,.ty (.L 16),.ty .I],u1 (ztl F)⟩
theorem ztz(F:Nat):(z0t F).ok pp:=
 okF q00 (z4a F) (fn:=Tryz.f238) [(0,(z4b F).ann F)] (by kernel_rfl) (aL (by kernel_rfl) (zpi F) aN) fun d=>by kernel_rfl
def z0u(F:Nat):ToldF:=⟨71,1,[.slot 0 .I],[.ty (.L 8)],u1 (ztn F)⟩
theorem zu0(F:Nat):(z0u F).ok pp:=
 okF q00 (zox F) (fn:=Tryz.f71) [] (by kernel_rfl) aN fun d=>by kernel_rfl
def q28(F:Nat):ToldF:=⟨81,2,[.slot 0 .I,.slot 1 .I],[.ty .I],u2 (q20 F)⟩
theorem q47(F:Nat):(q28 F).ok pp:=
 okF q00 (zox F) (fn:=Tryz.f81) [] (by kernel_rfl) aN fun d=>by kernel_rfl
def zpl(F:Nat):List ToldF:=[q28 F]
theorem zpm(F:Nat):q02 pp (zpl F):=⟨q47 F,trivial⟩
def qmq(F:Nat):ToldF:=⟨73,4,[.slot 0 .I,.slot 1 .I,.slot 2 .I,.slot 3 (.bool)],[.ty .I],u4 (zfm F)⟩
theorem z9y(F:Nat):(qmq F).ok pp:=
 okF q00 (zpm F) (fn:=Tryz.f73) [] (by kernel_rfl) aN fun d=>by kernel_rfl
def zkx(F:Nat):List ToldF:=[z0t F,z0u F,qmq F]
theorem z0v(F:Nat):q02 pp (zkx F):=⟨ztz F,zu0 F,z9y F,trivial⟩
def z0w(F:Nat):TL:=⟨44,[.slot 1 (.bool),.segs [.hole (.L 16)] (.slot 4) true,.ptr 4 1 16,.slot 6 .I,.slot 7 .I,.segs [.hole (.L 16)] (.slot 9) true,.ptr 9 2 16,.segs [.hole (.L 8)] (.slot 11) true,.ptr 11 3 8,.slot 28 (.L 16),.slot 29 .I],[.segs [.hole (.L 16)] (.slot 4) true,.ptr 4 1 16,.segs [.hole (.L 16)] (.slot 9) true,.ptr 9 2 16],0,fun k=>u8 (qib F k),fun k=>u8 (z0f F (qib F k))⟩
theorem zky(F:Nat):(z0w F).ok pp Tryz.f214 F:=
 okL q00 (z0v F) [] aN (fun _=>rfl) (fun _ _=>rfl) fun k d=>by kernel_rfl
def qjv(F:Nat):ToldF:=⟨214,2,[.row .u8 1 (.slot 0) false,.slot 1 (.bool)],[.ty (.L 16),.ty .I],u2 (z6v F)⟩
theorem z4c(F:Nat):(qjv F).ok pp:=
 okF q00 (z0v F) (fn:=Tryz.f214) [(0,(z0w F).ann F)] (by kernel_rfl) (aL (by kernel_rfl) (zky F) aN) fun d=>by kernel_rfl
def zb6(F:Nat):List ToldF:=[qfn F]
theorem zb7(F:Nat):q02 pp (zb6 F):=⟨qwb F,trivial⟩
def qo5(F:Nat):ToldF:=⟨239,1,[.row .u8 1 (.slot 0) false],[.ty .I,.ty .I,.ty (.L 16),.ty .I],u1 (qky F)⟩
theorem zgh(F:Nat):(qo5 F).ok pp:=
 okF q00 (zb7 F) (fn:=Tryz.f239) [] (by kernel_rfl) aN fun d=>by kernel_rfl
def zgi(F:Nat):List ToldF:=[qfo F]
theorem qwf(F:Nat):q02 pp (zgi F):=⟨qwc F,trivial⟩
def qwg(F:Nat):TL:=⟨31,[.slot 0 .I,.slot 1 .I,.segs [.hole (.L 8)] (.slot 4) true,.ptr 4 1 8,.segs [.hole (.L 8)] (.slot 5) true,.ptr 5 2 8,.slot 6 .I,.slot 16 .I,.slot 17 .I],[.segs [.hole (.L 8)] (.slot 4) true,.ptr 4 1 8,.segs [.hole (.L 8)] (.slot 5) true,.ptr 5 2 8],0,fun k=>u7 (q60 F k),fun k=>u7 (qja F (q60 F k))⟩
theorem zgj(F:Nat):(qwg F).ok pp Tryz.f131 F:=
 okL q00 (qwf F) [] aN (fun _=>rfl) (fun _ _=>rfl) fun k d=>by kernel_rfl
def qh0(F:Nat):ToldF:=⟨131,2,[.slot 0 .I,.slot 1 .I],[.ty (.L 8)],u2 (qe9 F)⟩
theorem z0x(F:Nat):(qh0 F).ok pp:=
 okF q00 (qwf F) (fn:=Tryz.f131) [(0,(qwg F).ann F)] (by kernel_rfl) (aL (by kernel_rfl) (zgj F) aN) fun d=>by kernel_rfl
def z78(F:Nat):List ToldF:=[qo5 F,qh0 F]
theorem qo6(F:Nat):q02 pp (z78 F):=⟨zgh F,z0x F,trivial⟩
def qo7(F:Nat):TL:=⟨37,[.segs [.hole (.L 16)] (.slot 2) true,.ptr 2 1 16,.segs [.hole (.L 16)] (.slot 6) true,.ptr 6 2 16,.segs [.hole (.L 8)] (.slot 8) true,.ptr 8 3 8,.slot 25 (.L 16),.slot 26 .I],[.segs [.hole (.L 16)] (.slot 2) true,.ptr 2 1 16,.segs [.hole (.L 16)] (.slot 6) true,.ptr 6 2 16],0,fun k=>u5 (q2m F k),fun k=>u5 (q4b F (q2m F k))⟩
theorem z79(F:Nat):(qo7 F).ok pp Tryz.f215 F:=
 okL q00 (qo6 F) [] aN (fun _=>rfl) (fun _ _=>rfl) fun k d=>by kernel_rfl
def qle(F:Nat):ToldF:=⟨215,1,[.row .u8 1 (.slot 0) false],[.ty (.L 16),.ty .I],u1 (qi0 F)⟩
theorem zb8(F:Nat):(qle F).ok pp:=
 okF q00 (qo6 F) (fn:=Tryz.f215) [(0,(qo7 F).ann F)] (by kernel_rfl) (aL (by kernel_rfl) (z79 F) aN) fun d=>by kernel_rfl
def qzn(F:Nat):List ToldF:=[qjv F,qle F]
theorem qzo(F:Nat):q02 pp (qzn F):=⟨z4c F,zb8 F,trivial⟩
def qge(F:Nat):ToldF:=⟨213,2,[.row .u8 1 (.slot 0) false,.segs [.J,.J,.hole (.bool)] (.slot 1) false,.ptr 1 2 3],[.ty (.L 16),.ty .I],u4 (qgt F)⟩
theorem z2j(F:Nat):(qge F).ok pp:=
 okF q00 (qzo F) (fn:=Tryz.f213) [] (by kernel_rfl) aN fun d=>by kernel_rfl
def qzp(F:Nat):List ToldF:=[qgz F,qge F]
theorem qzq(F:Nat):q02 pp (qzp F):=⟨z0r F,z2j F,trivial⟩
def qgf(F:Nat):ToldF:=⟨216,4,[.slot 0 (.L 64),.slot 1 .I,.row .u8 1 (.slot 2) false,.segs [.J,.J,.hole (.bool)] (.cap (.cell (.slot 3) 0) 0) false,.segs [.fnp 213 [(2,3)]] (.slot 3) false,.ptr 3 3 1],[.ty (.L 64)],u6 (q1v F)⟩
theorem z2k(F:Nat):(qgf F).ok pp:=
 okF q00 (qzq F) (fn:=Tryz.f216) [] (by kernel_rfl) aN fun d=>by kernel_rfl
def qsf(F:Nat):TL:=⟨17,[.slot 0 (.bool),.segs [.hole (.L 64)] (.slot 2) true,.ptr 2 1 64,.segs [.hole (.L 64)] (.slot 3) true,.ptr 3 2 64,.slot 5 .I],[.segs [.hole (.L 64)] (.slot 2) true,.ptr 2 1 64,.segs [.hole (.L 64)] (.slot 3) true,.ptr 3 2 64],0,fun k=>u4 (qcg F k),fun k=>u4 (qs0 F (qcg F k))⟩
theorem zba(F:Nat):(qsf F).ok pp Tryz.f221 F:=
 okL q00 (zox F) [] aN (fun _=>rfl) (fun _ _=>rfl) fun k d=>by kernel_rfl
def qo8(F:Nat):ToldF:=⟨221,1,[.slot 0 (.bool)],[.ty (.L 64)],u1 (q8l F)⟩
theorem zgk(F:Nat):(qo8 F).ok pp:=
 okF q00 (zox F) (fn:=Tryz.f221) [(0,(qsf F).ann F)] (by kernel_rfl) (aL (by kernel_rfl) (zba F) aN) fun d=>by kernel_rfl
def q7e(F:Nat):ToldF:=⟨259,1,[.slot 0 (.int .u8)],[.ty .I],u1 (q3j F)⟩
theorem qjw(F:Nat):(q7e F).ok pp:=
 okF q00 (zox F) (fn:=Tryz.f259) [] (by kernel_rfl) aN fun d=>by kernel_rfl
def zbb(F:Nat):List ToldF:=[q7e F]
theorem zbc(F:Nat):q02 pp (zbb F):=⟨qjw F,trivial⟩
def qo9(F:Nat):ToldF:=⟨242,1,[.row .u8 1 (.slot 0) false],[.ty .I],u1 (ql3 F)⟩
theorem zgl(F:Nat):(qo9 F).ok pp:=
 okF q00 (zbc F) (fn:=Tryz.f242) [] (by kernel_rfl) aN fun d=>by kernel_rfl
def qlf(F:Nat):ToldF:=⟨260,0,[],[.row .i64 10],u0 (qqc F)⟩
theorem zbd(F:Nat):(qlf F).ok pp:=
 okF q00 (zox F) (fn:=Tryz.f260) [] (by kernel_rfl) aN fun d=>by kernel_rfl
def z2l(F:Nat):List ToldF:=[qqs F]
theorem z2m(F:Nat):q02 pp (z2l F):=⟨zg5 F,trivial⟩
def q9s(F:Nat):ToldF:=⟨261,3,[.slot 0 .I,.row .u8 1 (.cell (.slot 1) 0) false,.segs [.sl 1 1 .whole] (.slot 1) false,.ptr 1 2 1,.segs [.J] (.slot 2) true (some 2),.ptr 2 3 1],[.ty .I,.psegs 2 [.J]],u3 (q17 F)⟩
theorem qlg(F:Nat):(q9s F).ok pp:=
 okF q00 (z2m F) (fn:=Tryz.f261) [] (by kernel_rfl) aN fun d=>by kernel_rfl
def qd3(F:Nat):ToldF:=⟨262,2,[.slot 0 (.agg [.I,.I,.I,.I,.I,.I,.I,.I,.I,.I]),.slot 1 .I],[.ty .I],u2 (q6y F)⟩
theorem qsg(F:Nat):(qd3 F).ok pp:=
 okF q00 (zox F) (fn:=Tryz.f262) [] (by kernel_rfl) aN fun d=>by kernel_rfl
def qdp(F:Nat):List ToldF:=[q2j F,q9s F,qd3 F]
theorem q2s(F:Nat):q02 pp (qdp F):=⟨q5v F,qlg F,qsg F,trivial⟩
def q2t(F:Nat):TL:=⟨97,[.row .i64 4 (.cell (.slot 0) 13) true (some 0),.segs [.J,.J,.J,.J,.J,.J,.J,.J,.J,.J,.J,.J,.J,.sl 1 4 .own,.hole (.L 16),.hole (.L 16)] (.slot 0) false,.ptr 0 2 46,.row .u8 1 (.cell (.cap (.slot 1) 0) 0) false,.segs [.sl 3 1 .whole] (.cap (.slot 1) 0) false,.segs [.J] (.cap (.slot 1) 1) true (some 4),.fn 1 261 [.ptr 4 1,.ptr 5 1],.slot 4 .I,.slot 5 .I,.slot 6 .I,.slot 24 .I,.slot 25 .I,.slot 55 (.L 4),.slot 56 .I],[.row .i64 4 (.cell (.slot 0) 13) true (some 0),.segs [.J,.J,.J,.J,.J,.J,.J,.J,.J,.J,.J,.J,.J,.sl 1 4 .own,.hole (.L 16),.hole (.L 16)] (.slot 0) false,.ptr 0 2 46,.row .u8 1 (.cell (.cap (.slot 1) 0) 0) false,.segs [.sl 3 1 .whole] (.cap (.slot 1) 0) false,.segs [.J] (.cap (.slot 1) 1) true (some 4),.fn 1 261 [.ptr 4 1,.ptr 5 1],.slot 4 .I,.slot 5 .I,.slot 6 .I,.slot 24 .I,.slot 25 .I],2,fun k=>u25 (q06 F k),fun k=>u25 (q1h F (q06 F k))⟩
theorem q65(F:Nat):(q2t F).ok pp Tryz.f263 F:=
 okL q00 (q2s F) [] aN (fun _=>rfl) (fun _ _=>rfl) fun k d=>by kernel_rfl
def q66(F:Nat):TL:=⟨97,[.row .i64 4 (.cell (.slot 0) 13) true (some 0),.segs [.J,.J,.J,.J,.J,.J,.J,.J,.J,.J,.J,.J,.J,.sl 1 4 .own,.hole (.L 16),.hole (.L 16)] (.slot 0) false,.ptr 0 2 46,.row .u8 1 (.cell (.cap (.slot 1) 0) 0) false,.segs [.sl 3 1 .whole] (.cap (.slot 1) 0) false,.segs [.J] (.cap (.slot 1) 1) true (some 4),.fn 1 261 [.ptr 4 1,.ptr 5 1],.slot 4 .I,.slot 5 .I,.slot 24 .I,.slot 25 .I],[.row .i64 4 (.cell (.slot 0) 13) true (some 0),.segs [.J,.J,.J,.J,.J,.J,.J,.J,.J,.J,.J,.J,.J,.sl 1 4 .own,.hole (.L 16),.hole (.L 16)] (.slot 0) false,.ptr 0 2 46,.row .u8 1 (.cell (.cap (.slot 1) 0) 0) false,.segs [.sl 3 1 .whole] (.cap (.slot 1) 0) false,.segs [.J] (.cap (.slot 1) 1) true (some 4),.fn 1 261 [.ptr 4 1,.ptr 5 1]],0,fun k=>u22 (q09 F k),fun k=>u22 (q1i F (q09 F k))⟩
theorem qdq(F:Nat):(q66 F).ok pp Tryz.f263 F:=
 okL q00 (q2s F) [(2,(q2t F).ann F)] (aL (by kernel_rfl) (q65 F) aN) (fun _=>rfl) (fun _ _=>rfl) fun k d=>by kernel_rfl
def q5w(F:Nat):ToldF:=⟨263,2,[.row .i64 4 (.cell (.slot 0) 13) true (some 0),.segs [.J,.J,.J,.J,.J,.J,.J,.J,.J,.J,.J,.J,.J,.sl 1 4 .own,.hole (.L 16),.hole (.L 16)] (.slot 0) false,.ptr 0 2 46,.row .u8 1 (.cell (.cap (.slot 1) 0) 0) false,.segs [.sl 3 1 .whole] (.cap (.slot 1) 0) false,.segs [.J] (.cap (.slot 1) 1) true (some 4),.fn 1 261 [.ptr 4 1,.ptr 5 1]],[.prow 0 .i64,.psegs 4 [.J]],u18 (q2c F)⟩
theorem qef(F:Nat):(q5w F).ok pp:=
 okF q00 (q2s F) (fn:=Tryz.f263) [(2,(q2t F).ann F),(0,(q66 F).ann F)] (by kernel_rfl) (aL (by kernel_rfl) (q65 F) (aL (by kernel_rfl) (qdq F) aN)) fun d=>by kernel_rfl
def qhp(F:Nat):ToldF:=⟨280,1,[.slot 0 (.agg [.I,.I])],[.row .u8 1],u1 (qvd F)⟩
theorem z4d(F:Nat):(qhp F).ok pp:=
 okF q00 (zox F) (fn:=Tryz.f280) [] (by kernel_rfl) aN fun d=>by kernel_rfl
def qjx(F:Nat):ToldF:=⟨276,2,[.slot 0 .I,.slot 1 .I],[.ty (.bool)],u2 (qyy F)⟩
theorem z4e(F:Nat):(qjx F).ok pp:=
 okF q00 (zox F) (fn:=Tryz.f276) [] (by kernel_rfl) aN fun d=>by kernel_rfl
def z4f(F:Nat):List ToldF:=[qhp F,qjx F]
theorem z4g(F:Nat):q02 pp (z4f F):=⟨z4d F,z4e F,trivial⟩
def qjy(F:Nat):ToldF:=⟨275,3,[.slot 0 .I,.slot 1 .I,.slot 2 .I],[.ty .I],u3 (qf1 F)⟩
theorem z7e(F:Nat):(qjy F).ok pp:=
 okF q00 (z4g F) (fn:=Tryz.f275) [] (by kernel_rfl) aN fun d=>by kernel_rfl
def qoa(F:Nat):List ToldF:=[qjy F]
theorem qbe(F:Nat):q02 pp (qoa F):=⟨z7e F,trivial⟩
def qbf(F:Nat):TL:=⟨35,[.row .i64 4 (.cell (.slot 0) 13) false,.segs [.J,.J,.J,.J,.J,.J,.J,.J,.J,.J,.J,.J,.J,.sl 1 4 .whole,.hole (.L 16),.hole (.L 16)] (.slot 0) false,.ptr 0 2 46,.slot 1 .I,.slot 5 (.bool),.slot 6 .I],[.slot 5 (.bool)],0,fun k=>u19 (q19 F k),fun k=>u19 (q3k F (q19 F k))⟩
theorem qob(F:Nat):(qbf F).ok pp Tryz.f264 F:=
 okL q00 (qbe F) [] aN (fun _=>rfl) (fun _ _=>rfl) fun k d=>by kernel_rfl
def qa1(F:Nat):ToldF:=⟨264,2,[.row .i64 4 (.cell (.slot 0) 13) false,.segs [.J,.J,.J,.J,.J,.J,.J,.J,.J,.J,.J,.J,.J,.sl 1 4 .whole,.hole (.L 16),.hole (.L 16)] (.slot 0) false,.ptr 0 2 46,.slot 1 .I],[.ty .I],u17 (q6a F)⟩
theorem qqt(F:Nat):(qa1 F).ok pp:=
 okF q00 (qbe F) (fn:=Tryz.f264) [(0,(qbf F).ann F)] (by kernel_rfl) (aL (by kernel_rfl) (qob F) aN) fun d=>by kernel_rfl
def zbe(F:Nat):List ToldF:=[qlf F,q9s F,qd3 F,q5w F,qa1 F]
theorem q7f(F:Nat):q02 pp (zbe F):=⟨zbd F,qlg F,qsg F,qef F,qqt F,trivial⟩
def qh1(F:Nat):TL:=⟨105,[.segs [.const (.int .i64 (some 0) 0),.const (.int .i64 (some 0) 0),.const (.int .i64 (some 0) 0),.const (.int .i64 (some 0) 0),.const (.int .i64 (some 0) 0),.const (.int .i64 (some 0) 0),.const (.int .i64 (some 0) 0),.const (.int .i64 (some 0) 0),.const (.int .i64 (some 0) 0),.const (.int .i64 (some 0) 0),.const (.int .i64 (some 0) 0),.const (.int .i64 (some 0) 0),.const (.int .i64 (some 0) 0),.const .nils,.hole (.L 16),.hole (.L 16)] (.slot 4) true,.ptr 4 1 46,.row .i64 4 (.cell (.slot 5) 13) true,.segs [.J,.J,.J,.J,.J,.J,.J,.J,.J,.J,.J,.J,.J,.sl 2 4 .own,.hole (.L 16),.hole (.L 16)] (.slot 5) true,.ptr 5 3 46,.row .u8 1 (.cell (.cap (.slot 7) 0) 0) false,.segs [.sl 4 1 .whole] (.cap (.slot 7) 0) true,.segs [.J] (.cap (.slot 7) 1) true,.fn 7 261 [.ptr 5 1,.ptr 6 1],.slot 8 .I,.slot 44 .I,.slot 49 .I,.slot 50 .I],[.segs [.const (.int .i64 (some 0) 0),.const (.int .i64 (some 0) 0),.const (.int .i64 (some 0) 0),.const (.int .i64 (some 0) 0),.const (.int .i64 (some 0) 0),.const (.int .i64 (some 0) 0),.const (.int .i64 (some 0) 0),.const (.int .i64 (some 0) 0),.const (.int .i64 (some 0) 0),.const (.int .i64 (some 0) 0),.const (.int .i64 (some 0) 0),.const (.int .i64 (some 0) 0),.const (.int .i64 (some 0) 0),.const .nils,.hole (.L 16),.hole (.L 16)] (.slot 4) true,.ptr 4 1 46,.row .i64 4 (.cell (.slot 5) 13) true,.segs [.J,.J,.J,.J,.J,.J,.J,.J,.J,.J,.J,.J,.J,.sl 2 4 .own,.hole (.L 16),.hole (.L 16)] (.slot 5) true,.ptr 5 3 46,.row .u8 1 (.cell (.cap (.slot 7) 0) 0) false,.segs [.sl 4 1 .whole] (.cap (.slot 7) 0) true,.segs [.J] (.cap (.slot 7) 1) true,.fn 7 261 [.ptr 5 1,.ptr 6 1],.slot 44 .I],2,fun k=>u24 (q4h F k),fun k=>u24 (qa7 F (q4h F k))⟩
theorem qsh(F:Nat):(qh1 F).ok pp Tryz.f243 F:=
 okL q00 (q7f F) [] aN (fun _=>rfl) (fun _ _=>rfl) fun k d=>by kernel_rfl
def qsi(F:Nat):TL:=⟨105,[.segs [.const (.int .i64 (some 0) 0),.const (.int .i64 (some 0) 0),.const (.int .i64 (some 0) 0),.const (.int .i64 (some 0) 0),.const (.int .i64 (some 0) 0),.const (.int .i64 (some 0) 0),.const (.int .i64 (some 0) 0),.const (.int .i64 (some 0) 0),.const (.int .i64 (some 0) 0),.const (.int .i64 (some 0) 0),.const (.int .i64 (some 0) 0),.const (.int .i64 (some 0) 0),.const (.int .i64 (some 0) 0),.const .nils,.hole (.L 16),.hole (.L 16)] (.slot 4) true,.ptr 4 1 46,.row .i64 4 (.cell (.slot 5) 13) true,.segs [.J,.J,.J,.J,.J,.J,.J,.J,.J,.J,.J,.J,.J,.sl 2 4 .own,.hole (.L 16),.hole (.L 16)] (.slot 5) true,.ptr 5 3 46,.row .u8 1 (.cell (.cap (.slot 7) 0) 0) false,.segs [.sl 4 1 .whole] (.cap (.slot 7) 0) true,.segs [.J] (.cap (.slot 7) 1) true,.fn 7 261 [.ptr 5 1,.ptr 6 1],.slot 44 .I],[.segs [.const (.int .i64 (some 0) 0),.const (.int .i64 (some 0) 0),.const (.int .i64 (some 0) 0),.const (.int .i64 (some 0) 0),.const (.int .i64 (some 0) 0),.const (.int .i64 (some 0) 0),.const (.int .i64 (some 0) 0),.const (.int .i64 (some 0) 0),.const (.int .i64 (some 0) 0),.const (.int .i64 (some 0) 0),.const (.int .i64 (some 0) 0),.const (.int .i64 (some 0) 0),.const (.int .i64 (some 0) 0),.const .nils,.hole (.L 16),.hole (.L 16)] (.slot 4) true,.ptr 4 1 46,.row .i64 4 (.cell (.slot 5) 13) true,.segs [.J,.J,.J,.J,.J,.J,.J,.J,.J,.J,.J,.J,.J,.sl 2 4 .own,.hole (.L 16),.hole (.L 16)] (.slot 5) true,.ptr 5 3 46,.row .u8 1 (.cell (.cap (.slot 7) 0) 0) false,.segs [.sl 4 1 .whole] (.cap (.slot 7) 0) true,.segs [.J] (.cap (.slot 7) 1) true,.fn 7 261 [.ptr 5 1,.ptr 6 1]],0,fun k=>u21 (q2g F k),fun k=>u21 (qa8 F (q2g F k))⟩
theorem zbf(F:Nat):(qsi F).ok pp Tryz.f243 F:=
 okL q00 (q7f F) [(2,(qh1 F).ann F)] (aL (by kernel_rfl) (qsh F) aN) (fun _=>rfl) (fun _ _=>rfl) fun k d=>by kernel_rfl
def qsj(F:Nat):TL:=⟨105,[.segs [.const (.int .i64 (some 0) 0),.const (.int .i64 (some 0) 0),.const (.int .i64 (some 0) 0),.const (.int .i64 (some 0) 0),.const (.int .i64 (some 0) 0),.const (.int .i64 (some 0) 0),.const (.int .i64 (some 0) 0),.const (.int .i64 (some 0) 0),.const (.int .i64 (some 0) 0),.const (.int .i64 (some 0) 0),.const (.int .i64 (some 0) 0),.const (.int .i64 (some 0) 0),.const (.int .i64 (some 0) 0),.const .nils,.hole (.L 16),.hole (.L 16)] (.slot 4) true,.ptr 4 1 46,.row .i64 4 (.cell (.slot 5) 13) true,.segs [.J,.J,.J,.J,.J,.J,.J,.J,.J,.J,.J,.J,.J,.sl 2 4 .own,.hole (.L 16),.hole (.L 16)] (.slot 5) true,.ptr 5 3 46,.row .u8 1 (.cell (.cap (.slot 7) 0) 0) false,.segs [.sl 4 1 .whole] (.cap (.slot 7) 0) true,.segs [.J] (.cap (.slot 7) 1) true,.fn 7 261 [.ptr 5 1,.ptr 6 1],.slot 69 .I],[.segs [.const (.int .i64 (some 0) 0),.const (.int .i64 (some 0) 0),.const (.int .i64 (some 0) 0),.const (.int .i64 (some 0) 0),.const (.int .i64 (some 0) 0),.const (.int .i64 (some 0) 0),.const (.int .i64 (some 0) 0),.const (.int .i64 (some 0) 0),.const (.int .i64 (some 0) 0),.const (.int .i64 (some 0) 0),.const (.int .i64 (some 0) 0),.const (.int .i64 (some 0) 0),.const (.int .i64 (some 0) 0),.const .nils,.hole (.L 16),.hole (.L 16)] (.slot 4) true,.ptr 4 1 46,.row .i64 4 (.cell (.slot 5) 13) true,.segs [.J,.J,.J,.J,.J,.J,.J,.J,.J,.J,.J,.J,.J,.sl 2 4 .own,.hole (.L 16),.hole (.L 16)] (.slot 5) true,.ptr 5 3 46,.row .u8 1 (.cell (.cap (.slot 7) 0) 0) false,.segs [.sl 4 1 .whole] (.cap (.slot 7) 0) true,.segs [.J] (.cap (.slot 7) 1) true,.fn 7 261 [.ptr 5 1,.ptr 6 1]],4,fun k=>u21 (q4i F k),fun k=>u21 (qa9 F (q4i F k))⟩
theorem zbg(F:Nat):(qsj F).ok pp Tryz.f243 F:=
 okL q00 (q7f F) [] aN (fun _=>rfl) (fun _ _=>rfl) fun k d=>by kernel_rfl
def qsk(F:Nat):TL:=⟨105,[.segs [.const (.int .i64 (some 0) 0),.const (.int .i64 (some 0) 0),.const (.int .i64 (some 0) 0),.const (.int .i64 (some 0) 0),.const (.int .i64 (some 0) 0),.const (.int .i64 (some 0) 0),.const (.int .i64 (some 0) 0),.const (.int .i64 (some 0) 0),.const (.int .i64 (some 0) 0),.const (.int .i64 (some 0) 0),.const (.int .i64 (some 0) 0),.const (.int .i64 (some 0) 0),.const (.int .i64 (some 0) 0),.const .nils,.hole (.L 16),.hole (.L 16)] (.slot 4) true,.ptr 4 1 46,.row .i64 4 (.cell (.slot 5) 13) true,.segs [.J,.J,.J,.J,.J,.J,.J,.J,.J,.J,.J,.J,.J,.sl 2 4 .own,.hole (.L 16),.hole (.L 16)] (.slot 5) true,.ptr 5 3 46,.row .u8 1 (.cell (.cap (.slot 7) 0) 0) false,.segs [.sl 4 1 .whole] (.cap (.slot 7) 0) true,.segs [.J] (.cap (.slot 7) 1) true,.fn 7 261 [.ptr 5 1,.ptr 6 1],.slot 88 .I],[.segs [.const (.int .i64 (some 0) 0),.const (.int .i64 (some 0) 0),.const (.int .i64 (some 0) 0),.const (.int .i64 (some 0) 0),.const (.int .i64 (some 0) 0),.const (.int .i64 (some 0) 0),.const (.int .i64 (some 0) 0),.const (.int .i64 (some 0) 0),.const (.int .i64 (some 0) 0),.const (.int .i64 (some 0) 0),.const (.int .i64 (some 0) 0),.const (.int .i64 (some 0) 0),.const (.int .i64 (some 0) 0),.const .nils,.hole (.L 16),.hole (.L 16)] (.slot 4) true,.ptr 4 1 46,.row .i64 4 (.cell (.slot 5) 13) true,.segs [.J,.J,.J,.J,.J,.J,.J,.J,.J,.J,.J,.J,.J,.sl 2 4 .own,.hole (.L 16),.hole (.L 16)] (.slot 5) true,.ptr 5 3 46],6,fun k=>u21 (q4j F k),fun k=>u21 (qaa F (q4j F k))⟩
theorem zbh(F:Nat):(qsk F).ok pp Tryz.f243 F:=
 okL q00 (q7f F) [] aN (fun _=>rfl) (fun _ _=>rfl) fun k d=>by kernel_rfl
def qoc(F:Nat):ToldF:=⟨243,2,[.row .u8 1 (.slot 0) false,.slot 1 .I],[.agg [.J,.J,.J,.J,.J,.J,.J,.J,.J,.J,.J,.J,.J,.row .i64 4 true,.hole (.L 16),.hole (.L 16)]],u2 (ql4 F)⟩
theorem zgm(F:Nat):(qoc F).ok pp:=
 okF q00 (q7f F) (fn:=Tryz.f243) [(2,(qh1 F).ann F),(0,(qsi F).ann F),(4,(qsj F).ann F),(6,(qsk F).ann F)] (by kernel_rfl) (aL (by kernel_rfl) (qsh F) (aL (by kernel_rfl) (zbf F) (aL (by kernel_rfl) (zbg F) (aL (by kernel_rfl) (zbh F) aN)))) fun d=>by kernel_rfl
def qlh(F:Nat):ToldF:=⟨277,0,[],[.ty (.is .u32 64)],u0 (z3r F)⟩
theorem zbi(F:Nat):(qlh F).ok pp:=
 okF q00 (zox F) (fn:=Tryz.f277) [] (by kernel_rfl) aN fun d=>by kernel_rfl
def qsl(F:Nat):ToldF:=⟨278,0,[],[.ty (.is .u16 64)],u0 (zff F)⟩
theorem zl1(F:Nat):(qsl F).ok pp:=
 okF q00 (zox F) (fn:=Tryz.f278) [] (by kernel_rfl) aN fun d=>by kernel_rfl
def zbj(F:Nat):List ToldF:=[qjx F,qlh F,qsl F]
theorem zbk(F:Nat):q02 pp (zbj F):=⟨z4e F,zbi F,zl1 F,trivial⟩
def qod(F:Nat):ToldF:=⟨265,3,[.slot 0 .I,.slot 1 .I,.slot 2 .I],[.ty .I],u3 (ql0 F)⟩
theorem zgp(F:Nat):(qod F).ok pp:=
 okF q00 (zbk F) (fn:=Tryz.f265) [] (by kernel_rfl) aN fun d=>by kernel_rfl
def qhq(F:Nat):ToldF:=⟨254,1,[.slot 0 .I],[.row .i64 1],u1 (qc0 F)⟩
theorem z4h(F:Nat):(qhq F).ok pp:=
 okF q00 (zox F) (fn:=Tryz.f254) [] (by kernel_rfl) aN fun d=>by kernel_rfl
def zgq(F:Nat):List ToldF:=[qfo F,qhq F]
theorem zgr(F:Nat):q02 pp (zgq F):=⟨qwc F,z4h F,trivial⟩
def qh2(F:Nat):ToldF:=⟨235,4,[.slot 0 .I,.slot 1 .I,.slot 2 .I,.slot 3 .I],[.ty .I],u4 (q2z F)⟩
theorem z0y(F:Nat):(qh2 F).ok pp:=
 okF q00 (zgr F) (fn:=Tryz.f235) [] (by kernel_rfl) aN fun d=>by kernel_rfl
def qoe(F:Nat):List ToldF:=[qod F,qh2 F]
theorem qbg(F:Nat):q02 pp (qoe F):=⟨zgp F,z0y F,trivial⟩
def qbh(F:Nat):TL:=⟨126,[.row .i64 4 (.cell (.slot 0) 13) false,.segs [.J,.J,.J,.J,.J,.J,.J,.J,.J,.J,.J,.J,.J,.sl 1 4 .whole,.hole (.L 16),.hole (.L 16)] (.slot 0) false,.ptr 0 2 46,.segs [.hole (.L 4)] (.slot 4) true,.ptr 4 3 4,.segs [.hole (.L 4)] (.slot 6) true,.ptr 6 4 4,.segs [.hole (.L 4)] (.slot 7) true,.ptr 7 5 4,.slot 8 .I,.slot 9 .I,.slot 10 .I,.slot 11 .I,.segs [.hole (.L 4)] (.slot 12) true,.ptr 12 6 4,.slot 81 .I],[.row .i64 4 (.cell (.slot 0) 13) false,.segs [.J,.J,.J,.J,.J,.J,.J,.J,.J,.J,.J,.J,.J,.sl 1 4 .whole,.hole (.L 16),.hole (.L 16)] (.slot 0) false,.ptr 0 2 46,.segs [.hole (.L 4)] (.slot 4) true,.ptr 4 3 4,.segs [.hole (.L 4)] (.slot 6) true,.ptr 6 4 4,.segs [.hole (.L 4)] (.slot 7) true,.ptr 7 5 4,.slot 10 .I,.slot 11 .I,.segs [.hole (.L 4)] (.slot 12) true,.ptr 12 6 4],0,fun k=>u25 (q0k F k),fun k=>u25 (q3l F (q0k F k))⟩
theorem qog(F:Nat):(qbh F).ok pp Tryz.f244 F:=
 okL q00 (qbg F) [] aN (fun _=>rfl) (fun _ _=>rfl) fun k d=>by kernel_rfl
def qa2(F:Nat):ToldF:=⟨244,2,[.row .i64 4 (.cell (.slot 0) 13) false,.segs [.J,.J,.J,.J,.J,.J,.J,.J,.J,.J,.J,.J,.J,.sl 1 4 .whole,.hole (.L 16),.hole (.L 16)] (.slot 0) false,.ptr 0 2 46,.slot 1 .I],[.ty (.L 4)],u17 (q6b F)⟩
theorem qqu(F:Nat):(qa2 F).ok pp:=
 okF q00 (qbg F) (fn:=Tryz.f244) [(0,(qbh F).ann F)] (by kernel_rfl) (aL (by kernel_rfl) (qog F) aN) fun d=>by kernel_rfl
def z4i(F:Nat):List ToldF:=[qo9 F,qoc F,qa2 F]
theorem qli(F:Nat):q02 pp (z4i F):=⟨zgl F,zgm F,qqu F,trivial⟩
def qlj(F:Nat):TL:=⟨29,[.segs [.hole (.L 64)] (.slot 2) true,.ptr 2 1 64,.segs [.hole (.L 64)] (.slot 4) true,.ptr 4 2 64,.row .i64 4 (.cell (.slot 6) 13) true,.segs [.J,.J,.J,.J,.J,.J,.J,.J,.J,.J,.J,.J,.J,.sl 3 4 .own,.hole (.L 16),.hole (.L 16)] (.slot 6) true,.ptr 6 4 46,.slot 20 .I],[.segs [.hole (.L 64)] (.slot 2) true,.ptr 2 1 64,.segs [.hole (.L 64)] (.slot 4) true,.ptr 4 2 64],0,fun k=>u19 (q30 F k),fun k=>u19 (q85 F (q30 F k))⟩
theorem z4j(F:Nat):(qlj F).ok pp Tryz.f222 F:=
 okL q00 (qli F) [] aN (fun _=>rfl) (fun _ _=>rfl) fun k d=>by kernel_rfl
def qjz(F:Nat):ToldF:=⟨222,1,[.row .u8 1 (.slot 0) false],[.ty (.L 64),.ty .I],u1 (q9w F)⟩
theorem z7h(F:Nat):(qjz F).ok pp:=
 okF q00 (qli F) (fn:=Tryz.f222) [(0,(qlj F).ann F)] (by kernel_rfl) (aL (by kernel_rfl) (z4j F) aN) fun d=>by kernel_rfl
def z2r(F:Nat):List ToldF:=[qa0 F]
theorem z2s(F:Nat):q02 pp (z2r F):=⟨qld F,trivial⟩
def qhr(F:Nat):ToldF:=⟨228,3,[.slot 0 .I,.slot 1 .I,.row .u8 1 (.cell (.slot 2) 0) false,.segs [.sl 1 1 .whole] (.slot 2) false,.ptr 2 2 1],[.ty .I],u3 (q1k F)⟩
theorem z4k(F:Nat):(qhr F).ok pp:=
 okF q00 (z2s F) (fn:=Tryz.f228) [] (by kernel_rfl) aN fun d=>by kernel_rfl
def qd4(F:Nat):ToldF:=⟨165,1,[.slot 0 .I],[.ty .I],u1 (q3v F)⟩
theorem qsm(F:Nat):(qd4 F).ok pp:=
 okF q00 (zox F) (fn:=Tryz.f165) [] (by kernel_rfl) aN fun d=>by kernel_rfl
def zbl(F:Nat):List ToldF:=[qhr F,qd4 F]
theorem qh3(F:Nat):q02 pp (zbl F):=⟨z4k F,qsm F,trivial⟩
def qsn(F:Nat):TL:=⟨95,[.segs [.const (.bool (some false) false),.const (.bool (some false) false),.hole (.L 3),.hole (.L 3),.hole (.L 2),.hole (.L 16)] (.slot 2) true,.ptr 2 1 26,.segs [.hole (.bool),.hole (.bool),.hole (.L 3),.hole (.L 3),.hole (.L 2),.hole (.L 16)] (.slot 4) true,.ptr 4 2 26,.row .u8 1 (.cell (.cap (.slot 5) 0) 0) false,.segs [.sl 3 1 .whole] (.cap (.slot 5) 0) true,.fn 5 228 [.ptr 4 1],.slot 22 .I],[.segs [.const (.bool (some false) false),.const (.bool (some false) false),.hole (.L 3),.hole (.L 3),.hole (.L 2),.hole (.L 16)] (.slot 2) true,.ptr 2 1 26,.segs [.hole (.bool),.hole (.bool),.hole (.L 3),.hole (.L 3),.hole (.L 2),.hole (.L 16)] (.slot 4) true,.ptr 4 2 26,.row .u8 1 (.cell (.cap (.slot 5) 0) 0) false,.segs [.sl 3 1 .whole] (.cap (.slot 5) 0) true,.fn 5 228 [.ptr 4 1]],0,fun k=>u12 (qc1 F k),fun k=>u12 (qro F (qc1 F k))⟩
theorem zbm(F:Nat):(qsn F).ok pp Tryz.f168 F:=
 okL q00 (qh3 F) [] aN (fun _=>rfl) (fun _ _=>rfl) fun k d=>by kernel_rfl
def qso(F:Nat):TL:=⟨95,[.segs [.const (.bool (some false) false),.const (.bool (some false) false),.hole (.L 3),.hole (.L 3),.hole (.L 2),.hole (.L 16)] (.slot 2) true,.ptr 2 1 26,.segs [.hole (.bool),.hole (.bool),.hole (.L 3),.hole (.L 3),.hole (.L 2),.hole (.L 16)] (.slot 4) true,.ptr 4 2 26,.row .u8 1 (.cell (.cap (.slot 5) 0) 0) false,.segs [.sl 3 1 .whole] (.cap (.slot 5) 0) true,.fn 5 228 [.ptr 4 1],.slot 75 .I],[.segs [.const (.bool (some false) false),.const (.bool (some false) false),.hole (.L 3),.hole (.L 3),.hole (.L 2),.hole (.L 16)] (.slot 2) true,.ptr 2 1 26,.segs [.hole (.bool),.hole (.bool),.hole (.L 3),.hole (.L 3),.hole (.L 2),.hole (.L 16)] (.slot 4) true,.ptr 4 2 26],2,fun k=>u12 (qc2 F k),fun k=>u12 (qrp F (qc2 F k))⟩
theorem zbn(F:Nat):(qso F).ok pp Tryz.f168 F:=
 okL q00 (qh3 F) [] aN (fun _=>rfl) (fun _ _=>rfl) fun k d=>by kernel_rfl
def q9m(F:Nat):ToldF:=⟨168,1,[.row .u8 1 (.slot 0) false],[.ty (.agg [.bool,.bool,.L 3,.L 3,.L 2,.L 16]),.ty .I],u1 (q8f F)⟩
theorem qk0(F:Nat):(q9m F).ok pp:=
 okF q00 (qh3 F) (fn:=Tryz.f168) [(0,(qsn F).ann F),(2,(qso F).ann F)] (by kernel_rfl) (aL (by kernel_rfl) (zbm F) (aL (by kernel_rfl) (zbn F) aN)) fun d=>by kernel_rfl
def zbo(F:Nat):List ToldF:=[q2j F]
theorem qsp(F:Nat):q02 pp (zbo F):=⟨q5v F,trivial⟩
def qsq(F:Nat):TL:=⟨61,[.segs [.hole (.bool),.hole (.bool),.hole (.L 3),.hole (.L 3),.hole (.L 2),.hole (.L 16)] (.slot 1) true,.ptr 1 1 26,.segs [.hole (.L 8)] (.slot 2) true,.ptr 2 2 8,.segs [.hole (.L 8)] (.slot 4) true,.ptr 4 3 8,.slot 5 .I,.slot 13 .I],[.segs [.hole (.L 8)] (.slot 2) true,.ptr 2 1 8,.segs [.hole (.L 8)] (.slot 4) true,.ptr 4 2 8,.slot 5 .I],0,fun k=>u10 (qc3 F k),fun k=>u10 (qrr F (qc3 F k))⟩
theorem zbp(F:Nat):(qsq F).ok pp Tryz.f156 F:=
 okL q00 (qsp F) [] aN (fun _=>rfl) (fun _ _=>rfl) fun k d=>by kernel_rfl
def q9n(F:Nat):ToldF:=⟨156,1,[.slot 0 (.agg [.bool,.bool,.L 3,.L 3,.L 2,.L 16])],[.ty (.L 8),.ty .I],u1 (ql1 F)⟩
theorem qk1(F:Nat):(q9n F).ok pp:=
 okF q00 (qsp F) (fn:=Tryz.f156) [(0,(qsq F).ann F)] (by kernel_rfl) (aL (by kernel_rfl) (zbp F) aN) fun d=>by kernel_rfl
def qh4(F:Nat):ToldF:=⟨152,2,[.slot 0 (.bool),.slot 1 .I],[.ty .I],u2 (z2d F)⟩
theorem z0z(F:Nat):(qh4 F).ok pp:=
 okF q00 (zox F) (fn:=Tryz.f152) [] (by kernel_rfl) aN fun d=>by kernel_rfl
def qoh(F:Nat):ToldF:=⟨79,1,[.slot 0 .I],[.ty (.L 4)],u1 (z9o F)⟩
theorem zgu(F:Nat):(qoh F).ok pp:=
 okF q00 (zox F) (fn:=Tryz.f79) [] (by kernel_rfl) aN fun d=>by kernel_rfl
def zbs(F:Nat):List ToldF:=[q28 F,q9n F,qh4 F,qoh F]
theorem qh5(F:Nat):q02 pp (zbs F):=⟨q47 F,qk1 F,z0z F,zgu F,trivial⟩
def qh6(F:Nat):TL:=⟨55,[.segs [.hole (.bool),.hole (.bool),.hole (.L 3),.hole (.L 3),.hole (.L 2),.hole (.L 16)] (.slot 1) true,.ptr 1 1 26,.segs [.hole (.L 64)] (.slot 2) true,.ptr 2 2 64,.segs [.hole (.L 8)] (.slot 3) true,.ptr 3 3 8,.segs [.hole (.L 64)] (.slot 5) true,.ptr 5 4 64,.slot 6 .I,.slot 7 .I,.slot 8 .I,.slot 16 (.L 16),.slot 17 .I,.slot 30 .I],[.segs [.hole (.bool),.hole (.bool),.hole (.L 3),.hole (.L 3),.hole (.L 2),.hole (.L 16)] (.slot 1) true,.ptr 1 1 26,.segs [.hole (.L 64)] (.slot 2) true,.ptr 2 2 64,.segs [.hole (.L 8)] (.slot 3) true,.ptr 3 3 8,.segs [.hole (.L 64)] (.slot 5) true,.ptr 5 4 64,.slot 16 (.L 16),.slot 17 .I],2,fun k=>u15 (qc4 F k),fun k=>u15 (qrs F (qc4 F k))⟩
theorem qsr(F:Nat):(qh6 F).ok pp Tryz.f245 F:=
 okL q00 (qh5 F) [] aN (fun _=>rfl) (fun _ _=>rfl) fun k d=>by kernel_rfl
def qss(F:Nat):TL:=⟨55,[.segs [.hole (.bool),.hole (.bool),.hole (.L 3),.hole (.L 3),.hole (.L 2),.hole (.L 16)] (.slot 1) true,.ptr 1 1 26,.segs [.hole (.L 64)] (.slot 2) true,.ptr 2 2 64,.segs [.hole (.L 8)] (.slot 3) true,.ptr 3 3 8,.segs [.hole (.L 64)] (.slot 5) true,.ptr 5 4 64,.slot 16 (.L 16),.slot 17 .I],[.segs [.hole (.L 64)] (.slot 2) true,.ptr 2 1 64,.segs [.hole (.L 64)] (.slot 5) true,.ptr 5 2 64],0,fun k=>u11 (qc5 F k),fun k=>u11 (qrt F (qc5 F k))⟩
theorem zbt(F:Nat):(qss F).ok pp Tryz.f245 F:=
 okL q00 (qh5 F) [(2,(qh6 F).ann F)] (aL (by kernel_rfl) (qsr F) aN) (fun _=>rfl) (fun _ _=>rfl) fun k d=>by kernel_rfl
def qeg(F:Nat):ToldF:=⟨245,1,[.slot 0 (.agg [.bool,.bool,.L 3,.L 3,.L 2,.L 16])],[.ty (.L 64)],u1 (qvg F)⟩
theorem qwh(F:Nat):(qeg F).ok pp:=
 okF q00 (qh5 F) (fn:=Tryz.f245) [(2,(qh6 F).ann F),(0,(qss F).ann F)] (by kernel_rfl) (aL (by kernel_rfl) (qsr F) (aL (by kernel_rfl) (zbt F) aN)) fun d=>by kernel_rfl
def z7k(F:Nat):List ToldF:=[q9m F,qeg F]
theorem z7l(F:Nat):q02 pp (z7k F):=⟨qk0 F,qwh F,trivial⟩
def qlk(F:Nat):ToldF:=⟨223,1,[.row .u8 1 (.slot 0) false],[.ty (.L 64),.ty .I],u1 (z3u F)⟩
theorem zbu(F:Nat):(qlk F).ok pp:=
 okF q00 (z7l F) (fn:=Tryz.f223) [] (by kernel_rfl) aN fun d=>by kernel_rfl
def zbv(F:Nat):List ToldF:=[qmp F,q4q F,qqo F]
theorem qst(F:Nat):q02 pp (zbv F):=⟨z9v F,q9y F,zft F,trivial⟩
def qsu(F:Nat):TL:=⟨52,[.slot 1 .I,.slot 2 .I,.slot 3 (.int .u64),.row .u8 1 (.slot 11) true,.slot 24 .I,.slot 25 .I],[.row .u8 1 (.slot 11) true],0,fun k=>u6 (qby F k),fun k=>u6 (qrn F (qby F k))⟩
theorem zbw(F:Nat):(qsu F).ok pp Tryz.f151 F:=
 okL q00 (qst F) [] aN (fun _=>rfl) (fun _ _=>rfl) fun k d=>by kernel_rfl
def q4f(F:Nat):ToldF:=⟨151,4,[.row .u8 1 (.slot 0) false,.slot 1 .I,.slot 2 .I,.slot 3 (.int .u64)],[.row .u8 1,.ty .I],u4 (q8c F)⟩
theorem q8v(F:Nat):(q4f F).ok pp:=
 okF q00 (qst F) (fn:=Tryz.f151) [(0,(qsu F).ann F)] (by kernel_rfl) (aL (by kernel_rfl) (zbw F) aN) fun d=>by kernel_rfl
def qzr(F:Nat):List ToldF:=[qa0 F]
theorem qhs(F:Nat):q02 pp (qzr F):=⟨qld F,trivial⟩
def qht(F:Nat):TL:=⟨30,[.row .u8 1 (.cell (.slot 2) 0) false,.segs [.sl 1 1 .whole,.hole (.bool),.hole (.bool),.hole (.L 3),.hole (.L 3),.hole (.L 2),.hole (.L 16),.hole (.bool)] (.slot 2) true,.ptr 2 2 28,.slot 5 .I,.row .i64 1 (.slot 10) false,.slot 11 .I,.slot 12 .I],[.slot 5 .I],0,fun k=>u12 (q6z F k),fun k=>u12 (qho F (q6z F k))⟩
theorem qzs(F:Nat):(qht F).ok pp Tryz.f266 F:=
 okL q00 (qhs F) [] aN (fun _=>rfl) (fun _ _=>rfl) fun k d=>by kernel_rfl
def q3f(F:Nat):ToldF:=⟨266,2,[.row .u8 1 (.part (.slot 0) 0) false,.cells 0 [.sl 1 1 .whole,.hole (.bool),.hole (.bool),.hole (.L 3),.hole (.L 3),.hole (.L 2),.hole (.L 16),.hole (.bool)],.row .i64 1 (.slot 1) false],[.ty .I],u9 (q1c F)⟩
theorem q73(F:Nat):(q3f F).ok pp:=
 okF q00 (qhs F) (fn:=Tryz.f266) [(0,(qht F).ann F)] (by kernel_rfl) (aL (by kernel_rfl) (qzs F) aN) fun d=>by kernel_rfl
def zgv(F:Nat):List ToldF:=[q9m F,q4f F,q3f F]
theorem zgw(F:Nat):q02 pp (zgv F):=⟨qk0 F,q8v F,q73 F,trivial⟩
def qsv(F:Nat):ToldF:=⟨246,2,[.row .u8 1 (.slot 0) false,.slot 1 (.bool)],[.agg [.row .u8 1 false,.hole (.bool),.hole (.bool),.hole (.L 3),.hole (.L 3),.hole (.L 2),.hole (.L 16),.hole (.bool)]],u2 (zfk F)⟩
theorem zl2(F:Nat):(qsv F).ok pp:=
 okF q00 (zgw F) (fn:=Tryz.f246) [] (by kernel_rfl) aN fun d=>by kernel_rfl
def qwi(F:Nat):List ToldF:=[q9n F]
theorem qwj(F:Nat):q02 pp (qwi F):=⟨qk1 F,trivial⟩
def qe0(F:Nat):ToldF:=⟨247,1,[.row .u8 1 (.part (.slot 0) 0) false,.cells 0 [.sl 1 1 .whole,.hole (.bool),.hole (.bool),.hole (.L 3),.hole (.L 3),.hole (.L 2),.hole (.L 16),.hole (.bool)]],[.ty .I],u8 (qnn F)⟩
theorem qzt(F:Nat):(qe0 F).ok pp:=
 okF q00 (qwj F) (fn:=Tryz.f247) [] (by kernel_rfl) aN fun d=>by kernel_rfl
def qqv(F:Nat):List ToldF:=[q9n F,qh4 F,qeg F]
theorem qd5(F:Nat):q02 pp (qqv F):=⟨qk1 F,z0z F,qwh F,trivial⟩
def qd6(F:Nat):TL:=⟨42,[.row .u8 1 (.cell (.slot 1) 0) false,.segs [.sl 1 1 .whole,.hole (.bool),.hole (.bool),.hole (.L 3),.hole (.L 3),.hole (.L 2),.hole (.L 16),.hole (.bool)] (.slot 1) true,.ptr 1 2 28,.segs [.hole (.L 64)] (.slot 2) true,.ptr 2 3 64,.segs [.hole (.L 64)] (.slot 3) true,.ptr 3 4 64,.segs [.hole (.L 8)] (.slot 4) true,.ptr 4 5 8,.slot 19 (.L 16),.slot 20 .I],[.segs [.hole (.L 64)] (.slot 2) true,.ptr 2 1 64,.segs [.hole (.L 64)] (.slot 3) true,.ptr 3 2 64],0,fun k=>u13 (q4y F k),fun k=>u13 (qca F (q4y F k))⟩
theorem qqw(F:Nat):(qd6 F).ok pp Tryz.f248 F:=
 okL q00 (qd5 F) [] aN (fun _=>rfl) (fun _ _=>rfl) fun k d=>by kernel_rfl
def qbi(F:Nat):ToldF:=⟨248,1,[.row .u8 1 (.part (.slot 0) 0) false,.cells 0 [.sl 1 1 .whole,.hole (.bool),.hole (.bool),.hole (.L 3),.hole (.L 3),.hole (.L 2),.hole (.L 16),.hole (.bool)]],[.ty (.L 64)],u8 (qjf F)⟩
theorem quc(F:Nat):(qbi F).ok pp:=
 okF q00 (qd5 F) (fn:=Tryz.f248) [(0,(qd6 F).ann F)] (by kernel_rfl) (aL (by kernel_rfl) (qqw F) aN) fun d=>by kernel_rfl
def qzu(F:Nat):List ToldF:=[qa0 F]
theorem qzv(F:Nat):q02 pp (qzu F):=⟨qld F,trivial⟩
def q3g(F:Nat):ToldF:=⟨169,3,[.row .u8 1 (.part (.slot 0) 0) false,.cells 0 [.sl 1 1 .whole,.hole (.bool),.hole (.bool),.hole (.L 3),.hole (.L 3),.hole (.L 2),.hole (.L 16),.hole (.bool)],.slot 1 .I,.slot 2 .I],[.ty .I],u10 (q08 F)⟩
theorem q74(F:Nat):(q3g F).ok pp:=
 okF q00 (qzv F) (fn:=Tryz.f169) [] (by kernel_rfl) aN fun d=>by kernel_rfl
def zgx(F:Nat):List ToldF:=[q2j F]
theorem qwk(F:Nat):q02 pp (zgx F):=⟨q5v F,trivial⟩
def qwl(F:Nat):TL:=⟨23,[.segs [.hole (.L 3)] (.slot 3) true,.ptr 3 1 3,.segs [.hole (.L 4)] (.slot 4) true,.ptr 4 2 4,.segs [.hole (.L 4)] (.slot 5) true,.ptr 5 3 4,.slot 9 (.L 3),.slot 10 .I],[.segs [.hole (.L 4)] (.slot 4) true,.ptr 4 1 4,.segs [.hole (.L 4)] (.slot 5) true,.ptr 5 2 4],0,fun k=>u5 (qf9 F k),fun k=>u5 (qvn F (qf9 F k))⟩
theorem zgy(F:Nat):(qwl F).ok pp Tryz.f279 F:=
 okL q00 (qwk F) [] aN (fun _=>rfl) (fun _ _=>rfl) fun k d=>by kernel_rfl
def qh7(F:Nat):ToldF:=⟨279,2,[.slot 0 (.L 3),.slot 1 (.L 3)],[.ty (.L 4)],u2 (z2f F)⟩
theorem z10(F:Nat):(qh7 F).ok pp:=
 okF q00 (qwk F) (fn:=Tryz.f279) [(0,(qwl F).ann F)] (by kernel_rfl) (aL (by kernel_rfl) (zgy F) aN) fun d=>by kernel_rfl
def zbx(F:Nat):List ToldF:=[qh7 F]
theorem zby(F:Nat):q02 pp (zbx F):=⟨z10 F,trivial⟩
def qeh(F:Nat):ToldF:=⟨267,1,[.slot 0 (.L 3)],[.ty (.L 4)],u1 (q8g F)⟩
theorem qwm(F:Nat):(qeh F).ok pp:=
 okF q00 (zby F) (fn:=Tryz.f267) [] (by kernel_rfl) aN fun d=>by kernel_rfl
def q9t(F:Nat):ToldF:=⟨268,1,[.slot 0 .I],[.ty .I],u1 (qcb F)⟩
theorem qll(F:Nat):(q9t F).ok pp:=
 okF q00 (zox F) (fn:=Tryz.f268) [] (by kernel_rfl) aN fun d=>by kernel_rfl
def zbz(F:Nat):List ToldF:=[q28 F]
theorem qsw(F:Nat):q02 pp (zbz F):=⟨q47 F,trivial⟩
def qsx(F:Nat):TL:=⟨19,[.slot 1 .I,.segs [.hole (.L 4)] (.slot 2) true,.ptr 2 1 4,.segs [.hole (.L 4)] (.slot 4) true,.ptr 4 2 4,.slot 6 .I],[.segs [.hole (.L 4)] (.slot 2) true,.ptr 2 1 4,.segs [.hole (.L 4)] (.slot 4) true,.ptr 4 2 4],0,fun k=>u4 (qcc F k),fun k=>u4 (qru F (qcc F k))⟩
theorem zc0(F:Nat):(qsx F).ok pp Tryz.f270 F:=
 okL q00 (qsw F) [] aN (fun _=>rfl) (fun _ _=>rfl) fun k d=>by kernel_rfl
def qei(F:Nat):ToldF:=⟨270,2,[.slot 0 (.L 4),.slot 1 .I],[.ty (.L 4)],u2 (q3d F)⟩
theorem qwn(F:Nat):(qei F).ok pp:=
 okF q00 (qsw F) (fn:=Tryz.f270) [(0,(qsx F).ann F)] (by kernel_rfl) (aL (by kernel_rfl) (zc0 F) aN) fun d=>by kernel_rfl
def qgh(F:Nat):TL:=⟨22,[.segs [.hole (.L 16)] (.slot 3) true,.ptr 3 1 16,.segs [.hole (.L 64)] (.slot 4) true,.ptr 4 2 64,.segs [.hole (.L 64)] (.slot 5) true,.ptr 5 3 64,.slot 10 (.L 16),.slot 11 .I],[.segs [.hole (.L 64)] (.slot 4) true,.ptr 4 1 64,.segs [.hole (.L 64)] (.slot 5) true,.ptr 5 2 64],0,fun k=>u5 (q6c F k),fun k=>u5 (qg5 F (q6c F k))⟩
theorem qwp(F:Nat):(qgh F).ok pp Tryz.f269 F:=
 okL q00 (zox F) [] aN (fun _=>rfl) (fun _ _=>rfl) fun k d=>by kernel_rfl
def q7x(F:Nat):ToldF:=⟨269,2,[.row .u8 1 (.part (.slot 0) 0) false,.cells 0 [.sl 1 1 .whole,.hole (.bool),.hole (.bool),.hole (.L 3),.hole (.L 3),.hole (.L 2),.hole (.L 16),.hole (.bool)],.slot 1 (.L 16)],[.ty (.L 64)],u9 (q9c F)⟩
theorem qhu(F:Nat):(q7x F).ok pp:=
 okF q00 (zox F) (fn:=Tryz.f269) [(0,(qgh F).ann F)] (by kernel_rfl) (aL (by kernel_rfl) (qwp F) aN) fun d=>by kernel_rfl
def qzw(F:Nat):List ToldF:=[q3f F,q3g F,qeh F,q9t F,qei F,q7x F]
theorem qzx(F:Nat):q02 pp (qzw F):=⟨q73 F,q74 F,qwm F,qll F,qwn F,qhu F,trivial⟩
def qgi(F:Nat):ToldF:=⟨249,1,[.row .u8 1 (.part (.slot 0) 0) false,.cells 0 [.sl 1 1 .whole,.hole (.bool),.hole (.bool),.hole (.L 3),.hole (.L 3),.hole (.L 2),.hole (.L 16),.hole (.bool)]],[.ty (.L 64)],u8 (qrv F)⟩
theorem z2v(F:Nat):(qgi F).ok pp:=
 okF q00 (qzx F) (fn:=Tryz.f249) [] (by kernel_rfl) aN fun d=>by kernel_rfl
def qzy(F:Nat):List ToldF:=[q3f F,q3g F,qeh F,q9t F,qei F,q7x F]
theorem qzz(F:Nat):q02 pp (qzy F):=⟨q73 F,q74 F,qwm F,qll F,qwn F,qhu F,trivial⟩
def qgj(F:Nat):ToldF:=⟨250,1,[.row .u8 1 (.part (.slot 0) 0) false,.cells 0 [.sl 1 1 .whole,.hole (.bool),.hole (.bool),.hole (.L 3),.hole (.L 3),.hole (.L 2),.hole (.L 16),.hole (.bool)]],[.ty (.L 64)],u8 (qrw F)⟩
theorem z2w(F:Nat):(qgj F).ok pp:=
 okF q00 (qzz F) (fn:=Tryz.f250) [] (by kernel_rfl) aN fun d=>by kernel_rfl
def zc1(F:Nat):List ToldF:=[qh7 F]
theorem zc2(F:Nat):q02 pp (zc1 F):=⟨z10 F,trivial⟩
def qoi(F:Nat):ToldF:=⟨272,1,[.slot 0 (.L 3)],[.ty (.L 4)],u1 (ql5 F)⟩
theorem zgz(F:Nat):(qoi F).ok pp:=
 okF q00 (zc2 F) (fn:=Tryz.f272) [] (by kernel_rfl) aN fun d=>by kernel_rfl
def zc3(F:Nat):List ToldF:=[q28 F]
theorem qh8(F:Nat):q02 pp (zc3 F):=⟨q47 F,trivial⟩
def qh9(F:Nat):TL:=⟨57,[.segs [.hole (.L 4)] (.slot 3) true,.ptr 3 1 4,.segs [.hole (.L 4)] (.slot 4) true,.ptr 4 2 4,.segs [.hole (.L 4)] (.slot 5) true,.ptr 5 3 4,.segs [.hole (.L 64)] (.slot 6) true,.ptr 6 4 64,.segs [.hole (.L 64)] (.slot 7) true,.ptr 7 5 64,.slot 8 .I,.slot 11 .I,.slot 17 .I],[.segs [.hole (.L 4)] (.slot 3) true,.ptr 3 1 4,.segs [.hole (.L 4)] (.slot 4) true,.ptr 4 2 4,.segs [.hole (.L 4)] (.slot 5) true,.ptr 5 3 4,.segs [.hole (.L 64)] (.slot 6) true,.ptr 6 4 64,.segs [.hole (.L 64)] (.slot 7) true,.ptr 7 5 64,.slot 11 .I],2,fun k=>u8 (qcd F k),fun k=>u8 (qrx F (qcd F k))⟩
theorem qsy(F:Nat):(qh9 F).ok pp Tryz.f271 F:=
 okL q00 (qh8 F) [] aN (fun _=>rfl) (fun _ _=>rfl) fun k d=>by kernel_rfl
def qsz(F:Nat):TL:=⟨57,[.segs [.hole (.L 4)] (.slot 3) true,.ptr 3 1 4,.segs [.hole (.L 4)] (.slot 4) true,.ptr 4 2 4,.segs [.hole (.L 4)] (.slot 5) true,.ptr 5 3 4,.segs [.hole (.L 64)] (.slot 6) true,.ptr 6 4 64,.segs [.hole (.L 64)] (.slot 7) true,.ptr 7 5 64,.slot 11 .I],[.segs [.hole (.L 64)] (.slot 6) true,.ptr 6 1 64,.segs [.hole (.L 64)] (.slot 7) true,.ptr 7 2 64],0,fun k=>u6 (qce F k),fun k=>u6 (qry F (qce F k))⟩
theorem zc4(F:Nat):(qsz F).ok pp Tryz.f271 F:=
 okL q00 (qh8 F) [(2,(qh9 F).ann F)] (aL (by kernel_rfl) (qsy F) aN) (fun _=>rfl) (fun _ _=>rfl) fun k d=>by kernel_rfl
def qoj(F:Nat):ToldF:=⟨271,3,[.slot 0 (.L 4),.slot 1 (.L 4),.slot 2 (.L 4)],[.ty (.L 64)],u3 (z9p F)⟩
theorem zh0(F:Nat):(qoj F).ok pp:=
 okF q00 (qh8 F) (fn:=Tryz.f271) [(2,(qh9 F).ann F),(0,(qsz F).ann F)] (by kernel_rfl) (aL (by kernel_rfl) (qsy F) (aL (by kernel_rfl) (zc4 F) aN)) fun d=>by kernel_rfl
def qqx(F:Nat):List ToldF:=[q3f F,q3g F,qoi F,qoj F]
theorem qqy(F:Nat):q02 pp (qqx F):=⟨q73 F,q74 F,zgz F,zh0 F,trivial⟩
def qbj(F:Nat):ToldF:=⟨251,1,[.row .u8 1 (.part (.slot 0) 0) false,.cells 0 [.sl 1 1 .whole,.hole (.bool),.hole (.bool),.hole (.L 3),.hole (.L 3),.hole (.L 2),.hole (.L 16),.hole (.bool)]],[.ty (.L 64)],u8 (qjg F)⟩
theorem qud(F:Nat):(qbj F).ok pp:=
 okF q00 (qqy F) (fn:=Tryz.f251) [] (by kernel_rfl) aN fun d=>by kernel_rfl
def z7m(F:Nat):List ToldF:=[qsv F,qe0 F,qbi F,qgi F,qgj F,qbj F]
theorem qok(F:Nat):q02 pp (z7m F):=⟨zl2 F,qzt F,quc F,z2v F,z2w F,qud F,trivial⟩
def qol(F:Nat):TL:=⟨57,[.segs [.hole (.L 64)] (.slot 4) true,.ptr 4 1 64,.row .u8 1 (.cell (.slot 6) 0) false,.segs [.sl 2 1 .whole,.hole (.bool),.hole (.bool),.hole (.L 3),.hole (.L 3),.hole (.L 2),.hole (.L 16),.hole (.bool)] (.slot 6) true,.ptr 6 3 28,.slot 7 .I,.segs [.hole (.L 64)] (.slot 9) true,.ptr 9 4 64,.slot 36 (.L 16),.slot 37 .I],[.segs [.hole (.L 64)] (.slot 4) true,.ptr 4 1 64,.segs [.hole (.L 64)] (.slot 9) true,.ptr 9 2 64],0,fun k=>u13 (q3n F k),fun k=>u13 (qno F (q3n F k))⟩
theorem z7n(F:Nat):(qol F).ok pp Tryz.f224 F:=
 okL q00 (qok F) [] aN (fun _=>rfl) (fun _ _=>rfl) fun k d=>by kernel_rfl
def qlm(F:Nat):ToldF:=⟨224,2,[.row .u8 1 (.slot 0) false,.slot 1 (.bool)],[.ty (.L 64),.ty .I],u2 (qi9 F)⟩
theorem zc5(F:Nat):(qlm F).ok pp:=
 okF q00 (qok F) (fn:=Tryz.f224) [(0,(qol F).ann F)] (by kernel_rfl) (aL (by kernel_rfl) (z7n F) aN) fun d=>by kernel_rfl
def z7o(F:Nat):List ToldF:=[qny F,qo2 F,qo3 F,qgz F,qjv F,qgf F,qo8 F,qjz F,qlk F,qlm F]
theorem z7p(F:Nat):q02 pp (z7o F):=⟨zg6 F,zga F,zgb F,z0r F,z4c F,z2k F,zgk F,z7h F,zbu F,zc5 F,trivial⟩
def qln(F:Nat):ToldF:=⟨148,5,[.slot 0 .I,.slot 1 (.agg [.I,.I,.bool]),.row .u8 1 (.slot 2) false,.row .u8 1 (.slot 3) false,.row .u8 1 (.slot 4) false],[.ty (.L 64),.ty .I],u5 (q15 F)⟩
theorem zc6(F:Nat):(qln F).ok pp:=
 okF q00 (z7p F) (fn:=Tryz.f148) [] (by kernel_rfl) aN fun d=>by kernel_rfl
def z7q(F:Nat):List ToldF:=[q9z F,qln F]
theorem z7r(F:Nat):q02 pp (z7q F):=⟨ql9 F,zc6 F,trivial⟩
def qlo(F:Nat):ToldF:=⟨68,2,[.slot 0 .I,.row .u8 1 (.slot 1) false],[.ty (.L 64),.ty .I],u2 (qic F)⟩
theorem zc7(F:Nat):(qlo F).ok pp:=
 okF q00 (z7r F) (fn:=Tryz.f68) [] (by kernel_rfl) aN fun d=>by kernel_rfl
def zh1(F:Nat):List ToldF:=[q9l F]
theorem qk2(F:Nat):q02 pp (zh1 F):=⟨qjo F,trivial⟩
def qk3(F:Nat):TL:=⟨38,[.slot 2 .I,.segs [.hole (.L 64)] (.slot 3) true,.ptr 3 1 64,.segs [.hole (.L 64)] (.slot 4) true,.ptr 4 2 64,.slot 7 .I,.slot 8 .I,.slot 10 .I,.slot 13 .I],[.slot 2 .I,.segs [.hole (.L 64)] (.slot 3) true,.ptr 3 1 64,.segs [.hole (.L 64)] (.slot 4) true,.ptr 4 2 64,.slot 7 .I,.slot 10 .I],2,fun k=>u7 (q7l F k),fun k=>u7 (qch F (q7l F k))⟩
theorem qwq(F:Nat):(qk3 F).ok pp Tryz.f69 F:=
 okL q00 (qk2 F) [] aN (fun _=>rfl) (fun _ _=>rfl) fun k d=>by kernel_rfl
def qwr(F:Nat):TL:=⟨38,[.slot 2 .I,.segs [.hole (.L 64)] (.slot 3) true,.ptr 3 1 64,.segs [.hole (.L 64)] (.slot 4) true,.ptr 4 2 64,.slot 7 .I,.slot 10 .I],[.slot 7 .I],0,fun k=>u5 (q7m F k),fun k=>u5 (qci F (q7m F k))⟩
theorem zh2(F:Nat):(qwr F).ok pp Tryz.f69 F:=
 okL q00 (qk2 F) [(2,(qk3 F).ann F)] (aL (by kernel_rfl) (qwq F) aN) (fun _=>rfl) (fun _ _=>rfl) fun k d=>by kernel_rfl
def qt0(F:Nat):ToldF:=⟨69,3,[.slot 0 (.L 64),.slot 1 (.L 64),.slot 2 .I],[.ty .I],u3 (qqg F)⟩
theorem zl3(F:Nat):(qt0 F).ok pp:=
 okF q00 (qk2 F) (fn:=Tryz.f69) [(2,(qk3 F).ann F),(0,(qwr F).ann F)] (by kernel_rfl) (aL (by kernel_rfl) (qwq F) (aL (by kernel_rfl) (zh2 F) aN)) fun d=>by kernel_rfl
def zc8(F:Nat):List ToldF:=[q9z F,qee F,qlo F,qt0 F]
theorem zc9(F:Nat):q02 pp (zc8 F):=⟨ql9 F,qvx F,zc7 F,zl3 F,trivial⟩
def q6l(F:Nat):ToldF:=⟨26,3,[.slot 0 .I,.row .u8 1 (.slot 1) false,.slot 2 (.L 64)],[.ty .I,.ty .I],u3 (q6p F)⟩
theorem qd7(F:Nat):(q6l F).ok pp:=
 okF q00 (zc9 F) (fn:=Tryz.f26) [] (by kernel_rfl) aN fun d=>by kernel_rfl
def zh3(F:Nat):List ToldF:=[q6l F]
theorem zh4(F:Nat):q02 pp (zh3 F):=⟨qd7 F,trivial⟩
def qha(F:Nat):ToldF:=⟨145,4,[.slot 0 .I,.slot 1 (.L 64),.row .u8 1 (.slot 2) false,.row .u8 1 (.slot 3) false],[.row .u8 1 false],u4 (qjj F)⟩
theorem z11(F:Nat):(qha F).ok pp:=
 okF q00 (zh4 F) (fn:=Tryz.f145) [] (by kernel_rfl) aN fun d=>by kernel_rfl
def zu1(F:Nat):List ToldF:=[qs7 F,qha F]
theorem zu2(F:Nat):q02 pp (zu1 F):=⟨zkv F,z11 F,trivial⟩
def z4l(F:Nat):ToldF:=⟨142,1,[.slot 0 (.L 64)],[.row .u8 1 false],u1 (zov F)⟩
theorem zx2(F:Nat):(z4l F).ok pp:=
 okF q00 (zu2 F) (fn:=Tryz.f142) [] (by kernel_rfl) aN fun d=>by kernel_rfl
def z4m(F:Nat):List ToldF:=[q2j F,q28 F]
theorem z4n(F:Nat):q02 pp (z4m F):=⟨q5v F,q47 F,trivial⟩
def qk4(F:Nat):ToldF:=⟨210,1,[.slot 0 .I],[.ty .I],u1 (z0g F)⟩
theorem z7s(F:Nat):(qk4 F).ok pp:=
 okF q00 (z4n F) (fn:=Tryz.f210) [] (by kernel_rfl) aN fun d=>by kernel_rfl
def qqz(F:Nat):List ToldF:=[q6k F,qk4 F]
theorem q75(F:Nat):q02 pp (qqz F):=⟨qcw F,z7s F,trivial⟩
def qd8(F:Nat):TL:=⟨39,[.slot 1 .I,.slot 2 .I,.fn 3 210 [],.row .i64 1 (.slot 9) true,.const 10 .nils,.slot 14 (.L 64),.slot 15 .I],[.slot 2 .I,.fn 3 210 [],.row .i64 1 (.slot 9) true,.const 10 .nils],0,fun k=>u5 (q50 F k),fun k=>u5 (qcl F (q50 F k))⟩
theorem qr0(F:Nat):(qd8 F).ok pp Tryz.f206 F:=
 okL q00 (q75 F) [] aN (fun _=>rfl) (fun _ _=>rfl) fun k d=>by kernel_rfl
def qd9(F:Nat):TL:=⟨39,[.fn 3 210 [],.row .i64 1 (.slot 9) true,.row .i64 1 (.slot 10) true,.slot 25 .I,.slot 26 .I],[.row .i64 1 (.slot 9) true,.row .i64 1 (.slot 10) true],2,fun k=>u4 (q51 F k),fun k=>u4 (qcm F (q51 F k))⟩
theorem qr1(F:Nat):(qd9 F).ok pp Tryz.f206 F:=
 okL q00 (q75 F) [] aN (fun _=>rfl) (fun _ _=>rfl) fun k d=>by kernel_rfl
def qbk(F:Nat):ToldF:=⟨206,4,[.slot 0 (.L 64),.slot 1 .I,.slot 2 .I,.fn 3 210 []],[.ty .I],u3 (qjk F)⟩
theorem que(F:Nat):(qbk F).ok pp:=
 okF q00 (q75 F) (fn:=Tryz.f206) [(0,(qd8 F).ann F),(2,(qd9 F).ann F)] (by kernel_rfl) (aL (by kernel_rfl) (qr0 F) (aL (by kernel_rfl) (qr1 F) aN)) fun d=>by kernel_rfl
def z4o(F:Nat):List ToldF:=[q4f F]
theorem z4p(F:Nat):q02 pp (z4o F):=⟨q8v F,trivial⟩
def qk5(F:Nat):ToldF:=⟨163,5,[.slot 0 .I,.slot 1 .I,.slot 2 .I,.row .u8 1 (.cell (.slot 3) 0) true (some 0),.segs [.sl 1 1 .own] (.slot 3) true (some 1),.ptr 3 2 1,.segs [.hole (.bool)] (.slot 4) true (some 2),.ptr 4 3 1],[.psegs 1 [.row .u8 1 true],.psegs 2 [.hole (.bool)]],u5 (q0z F)⟩
theorem z7t(F:Nat):(qk5 F).ok pp:=
 okF q00 (z4p F) (fn:=Tryz.f163) [] (by kernel_rfl) aN fun d=>by kernel_rfl
def qom(F:Nat):ToldF:=⟨164,1,[.slot 0 (.bool)],[.ty .I],u1 (qg2 F)⟩
theorem zh5(F:Nat):(qom F).ok pp:=
 okF q00 (zox F) (fn:=Tryz.f164) [] (by kernel_rfl) aN fun d=>by kernel_rfl
def zh6(F:Nat):List ToldF:=[qd4 F,qk5 F,qom F]
theorem qk6(F:Nat):q02 pp (zh6 F):=⟨qsm F,z7t F,zh5 F,trivial⟩
def qws(F:Nat):TL:=⟨129,[.segs [.hole (.bool),.hole (.bool),.hole (.L 3),.hole (.L 3),.hole (.L 2),.hole (.L 16)] (.slot 1) true,.ptr 1 1 26,.row .u8 1 (.cell (.slot 4) 0) true,.segs [.sl 2 1 .own] (.slot 4) true,.ptr 4 3 1,.segs [.hole (.bool)] (.slot 5) true,.ptr 5 4 1,.fn 6 163 [.ptr 3 1,.ptr 4 1],.slot 13 .I],[.segs [.hole (.bool),.hole (.bool),.hole (.L 3),.hole (.L 3),.hole (.L 2),.hole (.L 16)] (.slot 1) true,.ptr 1 1 26,.row .u8 1 (.cell (.slot 4) 0) true,.segs [.sl 2 1 .own] (.slot 4) true,.ptr 4 3 1,.segs [.hole (.bool)] (.slot 5) true,.ptr 5 4 1,.fn 6 163 [.ptr 3 1,.ptr 4 1]],0,fun k=>u9 (qf2 F k),fun k=>u9 (qve F (qf2 F k))⟩
theorem zh7(F:Nat):(qws F).ok pp Tryz.f83 F:=
 okL q00 (qk6 F) [] aN (fun _=>rfl) (fun _ _=>rfl) fun k d=>by kernel_rfl
def qwt(F:Nat):TL:=⟨129,[.row .u8 1 (.cell (.slot 4) 0) true,.segs [.sl 1 1 .own] (.slot 4) true,.ptr 4 2 1,.segs [.hole (.bool)] (.slot 5) true,.ptr 5 3 1,.fn 6 163 [.ptr 2 1,.ptr 3 1],.slot 96 (.L 16),.slot 97 .I],[.row .u8 1 (.cell (.slot 4) 0) true,.segs [.sl 1 1 .own] (.slot 4) true,.ptr 4 2 1,.segs [.hole (.bool)] (.slot 5) true,.ptr 5 3 1],2,fun k=>u4 (qf3 F k),fun k=>u4 (qvf F (qf3 F k))⟩
theorem zh8(F:Nat):(qwt F).ok pp Tryz.f83 F:=
 okL q00 (qk6 F) [] aN (fun _=>rfl) (fun _ _=>rfl) fun k d=>by kernel_rfl
def qt1(F:Nat):ToldF:=⟨83,1,[.slot 0 (.agg [.bool,.bool,.L 3,.L 3,.L 2,.L 16])],[.row .u8 1,.ty .I],u1 (zfh F)⟩
theorem zl4(F:Nat):(qt1 F).ok pp:=
 okF q00 (qk6 F) (fn:=Tryz.f83) [(0,(qws F).ann F),(2,(qwt F).ann F)] (by kernel_rfl) (aL (by kernel_rfl) (zh7 F) (aL (by kernel_rfl) (zh8 F) aN)) fun d=>by kernel_rfl
def zh9(F:Nat):List ToldF:=[qbk F,qt1 F]
theorem qwu(F:Nat):q02 pp (zh9 F):=⟨que F,zl4 F,trivial⟩
def qwv(F:Nat):TL:=⟨24,[.segs [.hole (.L 64)] (.slot 1) true,.ptr 1 1 64,.segs [.const (.bool (some true) true),.const (.bool (some false) false),.hole (.L 3),.hole (.L 3),.hole (.L 2),.hole (.L 16)] (.slot 3) true,.ptr 3 2 26,.slot 8 .I],[.segs [.const (.bool (some true) true),.const (.bool (some false) false),.hole (.L 3),.hole (.L 3),.hole (.L 2),.hole (.L 16)] (.slot 3) true,.ptr 3 1 26],0,fun k=>u6 (qfd F k),fun k=>u6 (qvt F (qfd F k))⟩
theorem zha(F:Nat):(qwv F).ok pp Tryz.f143 F:=
 okL q00 (qwu F) [] aN (fun _=>rfl) (fun _ _=>rfl) fun k d=>by kernel_rfl
def qt2(F:Nat):ToldF:=⟨143,1,[.slot 0 (.L 64)],[.row .u8 1],u1 (zfn F)⟩
theorem zl5(F:Nat):(qt2 F).ok pp:=
 okF q00 (qwu F) (fn:=Tryz.f143) [(0,(qwv F).ann F)] (by kernel_rfl) (aL (by kernel_rfl) (zha F) aN) fun d=>by kernel_rfl
def z7u(F:Nat):List ToldF:=[q4f F]
theorem z7v(F:Nat):q02 pp (z7u F):=⟨q8v F,trivial⟩
def qlp(F:Nat):ToldF:=⟨167,4,[.slot 0 .I,.slot 1 .I,.slot 2 .I,.row .u8 1 (.cell (.slot 3) 0) true (some 0),.segs [.sl 1 1 .own] (.slot 3) true (some 1),.ptr 3 2 1],[.psegs 1 [.row .u8 1 true]],u4 (q5n F)⟩
theorem zcc(F:Nat):(qlp F).ok pp:=
 okF q00 (z7v F) (fn:=Tryz.f167) [] (by kernel_rfl) aN fun d=>by kernel_rfl
def z7w(F:Nat):List ToldF:=[q4f F]
theorem qon(F:Nat):q02 pp (z7w F):=⟨q8v F,trivial⟩
def qoo(F:Nat):TL:=⟨30,[.slot 0 .I,.row .i64 1 (.slot 1) false,.row .u8 1 (.cell (.slot 2) 0) true,.segs [.sl 2 1 .own] (.slot 2) true (some 2),.ptr 2 3 1,.sl 7 1 1 .whole,.slot 8 .I,.slot 9 .I],[.row .u8 1 (.cell (.slot 2) 0) true,.segs [.sl 1 1 .own] (.slot 2) true (some 2),.ptr 2 2 1],0,fun k=>u5 (qak F k),fun k=>u5 (qnm F (qak F k))⟩
theorem z7x(F:Nat):(qoo F).ok pp Tryz.f166 F:=
 okL q00 (qon F) [] aN (fun _=>rfl) (fun _ _=>rfl) fun k d=>by kernel_rfl
def qlq(F:Nat):ToldF:=⟨166,3,[.slot 0 .I,.row .i64 1 (.slot 1) false,.row .u8 1 (.cell (.slot 2) 0) true (some 1),.segs [.sl 2 1 .own] (.slot 2) true (some 2),.ptr 2 3 1],[.psegs 2 [.row .u8 1 true]],u3 (q5o F)⟩
theorem zcd(F:Nat):(qlq F).ok pp:=
 okF q00 (qon F) (fn:=Tryz.f166) [(0,(qoo F).ann F)] (by kernel_rfl) (aL (by kernel_rfl) (z7x F) aN) fun d=>by kernel_rfl
def zl6(F:Nat):List ToldF:=[q9m F,q3g F,qlp F,qlq F]
theorem qmr(F:Nat):q02 pp (zl6 F):=⟨qk0 F,q74 F,zcc F,zcd F,trivial⟩
def z12(F:Nat):TX:=⟨127,[.segs [.hole (.L 3)] (.slot 3) true,.ptr 3 1 3,.segs [.hole (.L 3)] (.slot 4) true,.ptr 4 2 3,.segs [.hole (.L 3)] (.slot 5) true,.ptr 5 3 3,.slot 21 (.L 9),.slot 22 .I],[.const 6 .nils,.const 7 (.int .i64 (some 1) 1)],[.segs [.hole (.L 3)] (.slot 3) true,.ptr 3 1 3,.segs [.hole (.L 3)] (.slot 4) true,.ptr 4 2 3,.segs [.hole (.L 3)] (.slot 5) true,.ptr 5 3 3],.ret,0,fun k=>u5 (qi7 F k),fun k=>u5 (z0c F (qi7 F k))⟩
theorem zl7(F:Nat):(z12 F).ok pp Tryz.f85 F:=
 okX q00 (qmr F) [] aN (fun _=>rfl) (fun _ _=>rfl) (eR rfl) fun k d=>by kernel_rfl
def z13(F:Nat):TL:=⟨127,[.row .u8 1 (.cell (.slot 10) 0) true,.segs [.sl 1 1 .own] (.slot 10) true,.ptr 10 2 1,.fn 11 166 [.ptr 2 1],.fn 12 167 [.ptr 2 1],.segs [.hole (.bool),.hole (.bool),.hole (.L 3),.hole (.L 3),.hole (.L 2),.hole (.L 16)] (.slot 13) true,.ptr 13 3 26,.slot 89 .I],[.row .u8 1 (.cell (.slot 10) 0) true,.segs [.sl 1 1 .own] (.slot 10) true,.ptr 10 2 1,.fn 11 166 [.ptr 2 1],.fn 12 167 [.ptr 2 1]],2,fun k=>u8 (qi8 F k),fun k=>u8 (z0d F (qi8 F k))⟩
theorem zl8(F:Nat):(z13 F).ok pp Tryz.f85 F:=
 okL q00 (qmr F) [] aN (fun _=>rfl) (fun _ _=>rfl) fun k d=>by kernel_rfl
def qww(F:Nat):ToldF:=⟨85,3,[.slot 0 (.L 3),.slot 1 (.L 3),.slot 2 (.L 3)],[.row .u8 1,.ty .I],u3 (znm F)⟩
theorem zpn(F:Nat):(qww F).ok pp:=
 okF q00 (qmr F) (fn:=Tryz.f85) [(0,(z12 F).ann F),(2,(z13 F).ann F)] (by kernel_rfl) (aX (by kernel_rfl) (zl7 F) (aL (by kernel_rfl) (zl8 F) aN)) fun d=>by kernel_rfl
def zhb(F:Nat):List ToldF:=[qfl F,qww F]
theorem zhc(F:Nat):q02 pp (zhb F):=⟨qw1 F,zpn F,trivial⟩
def qt3(F:Nat):ToldF:=⟨144,1,[.slot 0 (.L 64)],[.row .u8 1],u1 (qqi F)⟩
theorem zl9(F:Nat):(qt3 F).ok pp:=
 okF q00 (zhc F) (fn:=Tryz.f144) [] (by kernel_rfl) aN fun d=>by kernel_rfl
def zu3(F:Nat):List ToldF:=[z2i F,q4f F]
theorem qwx(F:Nat):q02 pp (zu3 F):=⟨ztx F,q8v F,trivial⟩
def z9z(F:Nat):TL:=⟨65,[.row .u8 1 (.slot 10) true,.row .i64 3 (.slot 11) true,.slot 27 (.L 16),.slot 28 .I],[.row .u8 1 (.slot 10) true,.row .i64 3 (.slot 11) true],0,fun k=>u4 (qqe F k),fun k=>u4 (z9r F (qqe F k))⟩
theorem zu4(F:Nat):(z9z F).ok pp Tryz.f75 F:=
 okL q00 (qwx F) [] aN (fun _=>rfl) (fun _ _=>rfl) fun k d=>by kernel_rfl
def za0(F:Nat):TL:=⟨65,[.row .u8 1 (.slot 10) true,.const 14 (.bool (some true) true),.row .i64 3 (.slot 40) true,.slot 41 .I,.slot 42 .I],[.row .u8 1 (.slot 10) true,.slot 14 (.bool)],2,fun k=>u4 (qqf F k),fun k=>u4 (z9s F (qqf F k))⟩
theorem zu5(F:Nat):(za0 F).ok pp Tryz.f75 F:=
 okL q00 (qwx F) [] aN (fun _=>rfl) (fun _ _=>rfl) fun k d=>by kernel_rfl
def qr2(F:Nat):ToldF:=⟨75,4,[.slot 0 .I,.slot 1 .I,.slot 2 .I,.slot 3 (.L 16)],[.row .u8 1,.ty .I],u4 (zou F)⟩
theorem zhd(F:Nat):(qr2 F).ok pp:=
 okF q00 (qwx F) (fn:=Tryz.f75) [(0,(z9z F).ann F),(2,(za0 F).ann F)] (by kernel_rfl) (aL (by kernel_rfl) (zu4 F) (aL (by kernel_rfl) (zu5 F) aN)) fun d=>by kernel_rfl
def z7y(F:Nat):List ToldF:=[qmq F]
theorem z7z(F:Nat):q02 pp (z7y F):=⟨z9y F,trivial⟩
def qlr(F:Nat):ToldF:=⟨212,1,[.slot 0 .I],[.ty .I],u1 (z3x F)⟩
theorem zce(F:Nat):(qlr F).ok pp:=
 okF q00 (z7z F) (fn:=Tryz.f212) [] (by kernel_rfl) aN fun d=>by kernel_rfl
def quf(F:Nat):List ToldF:=[q6k F,qlr F]
theorem q7y(F:Nat):q02 pp (quf F):=⟨qcw F,zce F,trivial⟩
def qe1(F:Nat):TL:=⟨39,[.slot 1 .I,.slot 2 .I,.fn 3 212 [],.row .i64 1 (.slot 9) true,.const 10 .nils,.slot 14 (.L 64),.slot 15 .I],[.slot 2 .I,.fn 3 212 [],.row .i64 1 (.slot 9) true,.const 10 .nils],0,fun k=>u5 (q5r F k),fun k=>u5 (qdv F (q5r F k))⟩
theorem qug(F:Nat):(qe1 F).ok pp Tryz.f206 F:=
 okL q00 (q7y F) [] aN (fun _=>rfl) (fun _ _=>rfl) fun k d=>by kernel_rfl
def qe2(F:Nat):TL:=⟨39,[.fn 3 212 [],.row .i64 1 (.slot 9) true,.row .i64 1 (.slot 10) true,.slot 25 .I,.slot 26 .I],[.row .i64 1 (.slot 9) true,.row .i64 1 (.slot 10) true],2,fun k=>u4 (q5s F k),fun k=>u4 (qdw F (q5s F k))⟩
theorem quh(F:Nat):(qe2 F).ok pp Tryz.f206 F:=
 okL q00 (q7y F) [] aN (fun _=>rfl) (fun _ _=>rfl) fun k d=>by kernel_rfl
def qda(F:Nat):ToldF:=⟨206,4,[.slot 0 (.L 64),.slot 1 .I,.slot 2 .I,.fn 3 212 []],[.ty .I],u3 (ql7 F)⟩
theorem qwy(F:Nat):(qda F).ok pp:=
 okF q00 (q7y F) (fn:=Tryz.f206) [(0,(qe1 F).ann F),(2,(qe2 F).ann F)] (by kernel_rfl) (aL (by kernel_rfl) (qug F) (aL (by kernel_rfl) (quh F) aN)) fun d=>by kernel_rfl
def zla(F:Nat):List ToldF:=[q4e F,qr2 F,qda F]
theorem zlb(F:Nat):q02 pp (zla F):=⟨q8t F,zhd F,qwy F,trivial⟩
def qwz(F:Nat):ToldF:=⟨147,2,[.slot 0 (.L 64),.slot 1 .I],[.row .u8 1],u2 (qz3 F)⟩
theorem zpo(F:Nat):(qwz F).ok pp:=
 okF q00 (zlb F) (fn:=Tryz.f147) [] (by kernel_rfl) aN fun d=>by kernel_rfl
def zlc(F:Nat):List ToldF:=[qfl F,q4e F,q8u F,z3z F,qjr F,z0o F,qha F,z4l F,qt2 F,qt3 F,qr2 F,qwz F]
theorem zld(F:Nat):q02 pp (zlc F):=⟨qw1 F,q8t F,qjp F,zx0 F,z40 F,zts F,z11 F,zx2 F,zl5 F,zl9 F,zhd F,zpo F,trivial⟩
def qx0(F:Nat):ToldF:=⟨67,2,[.slot 0 .I,.slot 1 (.L 64)],[.row .u8 1 false],u2 (q2l F)⟩
theorem zpp(F:Nat):(qx0 F).ok pp:=
 okF q00 (zld F) (fn:=Tryz.f67) [] (by kernel_rfl) aN fun d=>by kernel_rfl
def zle(F:Nat):List ToldF:=[q9z F,qvw F,qee F,qx0 F]
theorem zlf(F:Nat):q02 pp (zle F):=⟨ql9 F,zoy F,qvx F,zpp F,trivial⟩
def qdb(F:Nat):ToldF:=⟨25,2,[.slot 0 .I,.slot 1 (.L 64)],[.row .u8 1 false,.ty .I],u2 (q5h F)⟩
theorem qr3(F:Nat):(qdb F).ok pp:=
 okF q00 (zlf F) (fn:=Tryz.f25) [] (by kernel_rfl) aN fun d=>by kernel_rfl
def zlg(F:Nat):List ToldF:=[q6l F,qdb F]
theorem z14(F:Nat):q02 pp (zlg F):=⟨qd7 F,qr3 F,trivial⟩
def z15(F:Nat):TL:=⟨35,[.slot 0 .I,.segs [.hole (.L 4)] (.slot 3) true,.ptr 3 1 4,.segs [.hole (.L 64)] (.slot 5) true,.ptr 5 2 64,.slot 11 .I],[.slot 0 .I,.segs [.hole (.L 64)] (.slot 5) true,.ptr 5 1 64],0,fun k=>u4 (q9f F k),fun k=>u4 (qfe F (q9f F k))⟩
theorem zlh(F:Nat):(z15 F).ok pp Tryz.f23 F:=
 okL q00 (z14 F) [] aN (fun _=>rfl) (fun _ _=>rfl) fun k d=>by kernel_rfl
def qx1(F:Nat):ToldF:=⟨23,2,[.slot 0 .I,.slot 1 (.L 4)],[.ty (.bool)],u2 (qba F)⟩
theorem zpq(F:Nat):(qx1 F).ok pp:=
 okF q00 (z14 F) (fn:=Tryz.f23) [(0,(z15 F).ann F)] (by kernel_rfl) (aL (by kernel_rfl) (zlh F) aN) fun d=>by kernel_rfl
def qim(F:Nat):ToldF:=⟨13,1,[.slot 0 .I],[.ty (.agg [.I,.I,.bool]),.ty .I],u1 (qz1 F)⟩
theorem z2x(F:Nat):(qim F).ok pp:=
 okF q00 (zox F) (fn:=Tryz.f13) [] (by kernel_rfl) aN fun d=>by kernel_rfl
def zhe(F:Nat):List ToldF:=[qim F]
theorem qk7(F:Nat):q02 pp (zhe F):=⟨z2x F,trivial⟩
def qk8(F:Nat):TL:=⟨44,[.segs [.hole (.L 64)] (.slot 3) true,.ptr 3 1 64,.segs [.hole (.L 64)] (.slot 4) true,.ptr 4 2 64,.segs [.J,.J,.hole (.bool)] (.slot 5) true,.ptr 5 3 3,.slot 7 .I,.slot 8 .I,.slot 18 (.bool)],[.segs [.hole (.L 64)] (.slot 3) true,.ptr 3 1 64,.segs [.hole (.L 64)] (.slot 4) true,.ptr 4 2 64,.segs [.J,.J,.hole (.bool)] (.slot 5) true,.ptr 5 3 3,.slot 7 .I,.slot 18 (.bool)],2,fun k=>u8 (q7p F k),fun k=>u8 (qcn F (q7p F k))⟩
theorem qx2(F:Nat):(qk8 F).ok pp Tryz.f19 F:=
 okL q00 (qk7 F) [] aN (fun _=>rfl) (fun _ _=>rfl) fun k d=>by kernel_rfl
def qx3(F:Nat):TL:=⟨44,[.segs [.hole (.L 64)] (.slot 3) true,.ptr 3 1 64,.segs [.hole (.L 64)] (.slot 4) true,.ptr 4 2 64,.segs [.J,.J,.hole (.bool)] (.slot 5) true,.ptr 5 3 3,.slot 7 .I],[.segs [.hole (.L 64)] (.slot 3) true,.ptr 3 1 64,.segs [.hole (.L 64)] (.slot 4) true,.ptr 4 2 64],0,fun k=>u6 (q7q F k),fun k=>u6 (qco F (q7q F k))⟩
theorem zhf(F:Nat):(qx3 F).ok pp Tryz.f19 F:=
 okL q00 (qk7 F) [(2,(qk8 F).ann F)] (aL (by kernel_rfl) (qx2 F) aN) (fun _=>rfl) (fun _ _=>rfl) fun k d=>by kernel_rfl
def qt4(F:Nat):ToldF:=⟨19,2,[.slot 0 .I,.slot 1 (.L 64)],[.ty (.L 64)],u2 (qqj F)⟩
theorem zli(F:Nat):(qt4 F).ok pp:=
 okF q00 (qk7 F) (fn:=Tryz.f19) [(2,(qk8 F).ann F),(0,(qx3 F).ann F)] (by kernel_rfl) (aL (by kernel_rfl) (qx2 F) (aL (by kernel_rfl) (zhf F) aN)) fun d=>by kernel_rfl
def qx5(F:Nat):TL:=⟨13,[.slot 0 .I,.slot 3 .I,.slot 4 .I],[.slot 3 .I],0,fun k=>u3 (qf0 F k),fun k=>u3 (qvb F (qf0 F k))⟩
theorem zhh(F:Nat):(qx5 F).ok pp Tryz.f87 F:=
 okL q00 (zox F) [] aN (fun _=>rfl) (fun _ _=>rfl) fun k d=>by kernel_rfl
def qhb(F:Nat):ToldF:=⟨87,1,[.slot 0 .I],[.ty .I],u1 (qau F)⟩
theorem z16(F:Nat):(qhb F).ok pp:=
 okF q00 (zox F) (fn:=Tryz.f87) [(0,(qx5 F).ann F)] (by kernel_rfl) (aL (by kernel_rfl) (zhh F) aN) fun d=>by kernel_rfl
def qfp(F:Nat):ToldF:=⟨86,2,[.slot 0 .I,.slot 1 .I],[.ty .I],u2 (qjb F)⟩
theorem qx6(F:Nat):(qfp F).ok pp:=
 okF q00 (zox F) (fn:=Tryz.f86) [] (by kernel_rfl) aN fun d=>by kernel_rfl
def zlj(F:Nat):List ToldF:=[qhb F,qfp F]
theorem z17(F:Nat):q02 pp (zlj F):=⟨z16 F,qx6 F,trivial⟩
def z18(F:Nat):TL:=⟨35,[.slot 0 .I,.slot 1 .I,.slot 5 .I,.slot 6 .I],[.slot 5 .I],0,fun k=>u4 (qi2 F k),fun k=>u4 (z09 F (qi2 F k))⟩
theorem zlk(F:Nat):(z18 F).ok pp Tryz.f92 F:=
 okL q00 (z17 F) [] aN (fun _=>rfl) (fun _ _=>rfl) fun k d=>by kernel_rfl
def q4r(F:Nat):ToldF:=⟨92,2,[.slot 0 .I,.slot 1 .I],[.ty .I],u2 (q0e F)⟩
theorem q9o(F:Nat):(q4r F).ok pp:=
 okF q00 (z17 F) (fn:=Tryz.f92) [(0,(z18 F).ann F)] (by kernel_rfl) (aL (by kernel_rfl) (zlk F) aN) fun d=>by kernel_rfl
def z19(F:Nat):ToldF:=⟨88,1,[.slot 0 .I],[.ty .I],u1 (qjd F)⟩
theorem zu8(F:Nat):(z19 F).ok pp:=
 okF q00 (zox F) (fn:=Tryz.f88) [] (by kernel_rfl) aN fun d=>by kernel_rfl
def qx7(F:Nat):ToldF:=⟨230,3,[.row .u8 1 (.slot 0) false,.slot 1 .I,.slot 2 .I],[.ty (.bool)],u3 (qyw F)⟩
theorem zpv(F:Nat):(qx7 F).ok pp:=
 okF q00 (zox F) (fn:=Tryz.f230) [] (by kernel_rfl) aN fun d=>by kernel_rfl
def z4r(F:Nat):TL:=⟨30,[.slot 7 .I,.slot 8 .I,.slot 9 .I],[.slot 8 .I],0,fun k=>u3 (q8d F k),fun k=>u3 (qq4 F (q8d F k))⟩
theorem zpx(F:Nat):(z4r F).ok pp Tryz.f172 F:=
 okL q00 (zox F) [] aN (fun _=>rfl) (fun _ _=>rfl) fun k d=>by kernel_rfl
def qms(F:Nat):ToldF:=⟨172,3,[.row .u8 1 (.slot 0) false,.slot 1 .I,.slot 2 (.bool)],[.ty .I],u3 (qbz F)⟩
theorem za1(F:Nat):(qms F).ok pp:=
 okF q00 (zox F) (fn:=Tryz.f172) [(0,(z4r F).ann F)] (by kernel_rfl) (aL (by kernel_rfl) (zpx F) aN) fun d=>by kernel_rfl
def zpy(F:Nat):List ToldF:=[qx7 F,qms F]
theorem z4s(F:Nat):q02 pp (zpy F):=⟨zpv F,za1 F,trivial⟩
def z4t(F:Nat):TL:=⟨52,[.row .u8 1 (.slot 0) false,.slot 1 .I,.slot 2 .I,.slot 3 (.bool),.slot 10 (.int .u64),.slot 11 .I],[.slot 10 (.int .u64)],0,fun k=>u6 (q8e F k),fun k=>u6 (qq5 F (q8e F k))⟩
theorem zpz(F:Nat):(z4t F).ok pp Tryz.f170 F:=
 okL q00 (z4s F) [] aN (fun _=>rfl) (fun _ _=>rfl) fun k d=>by kernel_rfl
def qfq(F:Nat):ToldF:=⟨170,4,[.row .u8 1 (.slot 0) false,.slot 1 .I,.slot 2 .I,.slot 3 (.bool)],[.ty (.int .u64),.ty .I],u4 (qnf F)⟩
theorem qx8(F:Nat):(qfq F).ok pp:=
 okF q00 (z4s F) (fn:=Tryz.f170) [(0,(z4t F).ann F)] (by kernel_rfl) (aL (by kernel_rfl) (zpz F) aN) fun d=>by kernel_rfl
def qxa(F:Nat):TL:=⟨13,[.slot 0 .I,.slot 3 (.int .u64),.slot 4 .I],[.slot 3 (.int .u64)],0,fun k=>u3 (qez F k),fun k=>u3 (qv9 F (qez F k))⟩
theorem zhj(F:Nat):(qxa F).ok pp Tryz.f171 F:=
 okL q00 (zox F) [] aN (fun _=>rfl) (fun _ _=>rfl) fun k d=>by kernel_rfl
def qt5(F:Nat):ToldF:=⟨171,1,[.slot 0 .I],[.ty (.int .u64)],u1 (qe8 F)⟩
theorem zln(F:Nat):(qt5 F).ok pp:=
 okF q00 (zox F) (fn:=Tryz.f171) [(0,(qxa F).ann F)] (by kernel_rfl) (aL (by kernel_rfl) (zhj F) aN) fun d=>by kernel_rfl
def zq0(F:Nat):List ToldF:=[qms F,qfq F,qt5 F]
theorem z4u(F:Nat):q02 pp (zq0 F):=⟨za1 F,qx8 F,zln F,trivial⟩
def z4v(F:Nat):TL:=⟨91,[.slot 1 .I,.slot 2 .I,.slot 3 (.bool),.slot 4 (.int .u64),.row .u8 1 (.slot 14) true,.slot 15 .I],[.row .u8 1 (.slot 14) true],0,fun k=>u6 (qfv F k),fun k=>u6 (z3q F (qfv F k))⟩
theorem zq1(F:Nat):(z4v F).ok pp Tryz.f90 F:=
 okL q00 (z4u F) [] aN (fun _=>rfl) (fun _ _=>rfl) fun k d=>by kernel_rfl
def z1a(F:Nat):ToldF:=⟨90,5,[.row .u8 1 (.slot 0) false,.slot 1 .I,.slot 2 .I,.slot 3 (.bool),.slot 4 (.int .u64)],[.row .u8 1,.ty .I],u5 (ztk F)⟩
theorem zu9(F:Nat):(z1a F).ok pp:=
 okF q00 (z4u F) (fn:=Tryz.f90) [(0,(z4v F).ann F)] (by kernel_rfl) (aL (by kernel_rfl) (zq1 F) aN) fun d=>by kernel_rfl
def zhk(F:Nat):List ToldF:=[qfq F]
theorem zhl(F:Nat):q02 pp (zhk F):=⟨qx8 F,trivial⟩
def q5j(F:Nat):ToldF:=⟨108,3,[.row .u8 1 (.slot 0) false,.slot 1 .I,.slot 2 .I],[.ty .I],u3 (q2e F)⟩
theorem qa3(F:Nat):(q5j F).ok pp:=
 okF q00 (zhl F) (fn:=Tryz.f108) [] (by kernel_rfl) aN fun d=>by kernel_rfl
def zhm(F:Nat):List ToldF:=[q5j F]
theorem qxb(F:Nat):q02 pp (zhm F):=⟨qa3 F,trivial⟩
def qxc(F:Nat):TL:=⟨33,[.row .u8 1 (.slot 0) false,.segs [.hole (.L 16)] (.slot 4) true,.ptr 4 2 16,.segs [.hole (.L 16)] (.slot 6) true,.ptr 6 3 16,.slot 7 .I],[.row .u8 1 (.slot 0) false,.segs [.hole (.L 16)] (.slot 4) true,.ptr 4 2 16,.segs [.hole (.L 16)] (.slot 6) true,.ptr 6 3 16],0,fun k=>u4 (q40 F k),fun k=>u4 (q6d F (q40 F k))⟩
theorem zhn(F:Nat):(qxc F).ok pp Tryz.f104 F:=
 okL q00 (qxb F) [] aN (fun _=>rfl) (fun _ _=>rfl) fun k d=>by kernel_rfl
def qt6(F:Nat):ToldF:=⟨104,1,[.row .u8 1 (.slot 0) false],[.ty .I,.ty .I,.ty (.L 16),.ty .I],u1 (qq6 F)⟩
theorem zlo(F:Nat):(qt6 F).ok pp:=
 okF q00 (qxb F) (fn:=Tryz.f104) [(0,(qxc F).ann F)] (by kernel_rfl) (aL (by kernel_rfl) (zhn F) aN) fun d=>by kernel_rfl
def zq2(F:Nat):List ToldF:=[qfp F]
theorem zq3(F:Nat):q02 pp (zq2 F):=⟨qx6 F,trivial⟩
def qa4(F:Nat):ToldF:=⟨180,5,[.slot 0 .I,.slot 1 .I,.slot 2 .I,.slot 3 .I,.slot 4 .I],[.ty .I],u5 (qfw F)⟩
theorem qls(F:Nat):(qa4 F).ok pp:=
 okF q00 (zq3 F) (fn:=Tryz.f180) [] (by kernel_rfl) aN fun d=>by kernel_rfl
def zlp(F:Nat):List ToldF:=[qa4 F]
theorem qmt(F:Nat):q02 pp (zlp F):=⟨qls F,trivial⟩
def z1b(F:Nat):TL:=⟨39,[.slot 0 .I,.slot 1 .I,.segs [.hole (.L 8)] (.slot 4) true,.ptr 4 1 8,.segs [.hole (.L 8)] (.slot 5) true,.ptr 5 2 8,.slot 6 .I],[.segs [.hole (.L 8)] (.slot 4) true,.ptr 4 1 8,.segs [.hole (.L 8)] (.slot 5) true,.ptr 5 2 8],0,fun k=>u5 (q8y F k),fun k=>u5 (qmb F (q8y F k))⟩
theorem zlq(F:Nat):(z1b F).ok pp Tryz.f105 F:=
 okL q00 (qmt F) [] aN (fun _=>rfl) (fun _ _=>rfl) fun k d=>by kernel_rfl
def z1c(F:Nat):TL:=⟨39,[.slot 0 .I,.slot 1 .I,.segs [.hole (.L 8)] (.slot 4) true,.ptr 4 1 8,.segs [.hole (.L 8)] (.slot 5) true,.ptr 5 2 8,.slot 7 .I],[.segs [.hole (.L 8)] (.slot 4) true,.ptr 4 1 8,.segs [.hole (.L 8)] (.slot 5) true,.ptr 5 2 8],2,fun k=>u5 (q8z F k),fun k=>u5 (qmc F (q8z F k))⟩
theorem zlr(F:Nat):(z1c F).ok pp Tryz.f105 F:=
 okL q00 (qmt F) [] aN (fun _=>rfl) (fun _ _=>rfl) fun k d=>by kernel_rfl
def qxd(F:Nat):ToldF:=⟨105,2,[.slot 0 .I,.slot 1 .I],[.ty (.L 8)],u2 (qyx F)⟩
theorem zq4(F:Nat):(qxd F).ok pp:=
 okF q00 (qmt F) (fn:=Tryz.f105) [(0,(z1b F).ann F),(2,(z1c F).ann F)] (by kernel_rfl) (aL (by kernel_rfl) (zlq F) (aL (by kernel_rfl) (zlr F) aN)) fun d=>by kernel_rfl
def zcf(F:Nat):List ToldF:=[qt6 F,qxd F]
theorem qt7(F:Nat):q02 pp (zcf F):=⟨zlo F,zq4 F,trivial⟩
def qt8(F:Nat):TL:=⟨36,[.segs [.hole (.L 16)] (.slot 2) true,.ptr 2 1 16,.segs [.hole (.L 16)] (.slot 6) true,.ptr 6 2 16,.segs [.hole (.L 8)] (.slot 8) true,.ptr 8 3 8,.slot 9 .I],[.segs [.hole (.L 16)] (.slot 2) true,.ptr 2 1 16,.segs [.hole (.L 16)] (.slot 6) true,.ptr 6 2 16],0,fun k=>u4 (q36 F k),fun k=>u4 (q5e F (q36 F k))⟩
theorem zcg(F:Nat):(qt8 F).ok pp Tryz.f50 F:=
 okL q00 (qt7 F) [] aN (fun _=>rfl) (fun _ _=>rfl) fun k d=>by kernel_rfl
def qop(F:Nat):ToldF:=⟨50,1,[.row .u8 1 (.slot 0) false],[.ty (.L 16),.ty .I],u1 (qfx F)⟩
theorem zho(F:Nat):(qop F).ok pp:=
 okF q00 (qt7 F) (fn:=Tryz.f50) [(0,(qt8 F).ann F)] (by kernel_rfl) (aL (by kernel_rfl) (zcg F) aN) fun d=>by kernel_rfl
def zhp(F:Nat):List ToldF:=[q5j F]
theorem qxe(F:Nat):q02 pp (zhp F):=⟨qa3 F,trivial⟩
def qxf(F:Nat):TL:=⟨29,[.row .u8 1 (.slot 0) false,.segs [.hole (.L 16)] (.slot 4) true,.ptr 4 2 16,.segs [.hole (.L 16)] (.slot 6) true,.ptr 6 3 16,.slot 7 .I],[.row .u8 1 (.slot 0) false,.segs [.hole (.L 16)] (.slot 4) true,.ptr 4 2 16,.segs [.hole (.L 16)] (.slot 6) true,.ptr 6 3 16],0,fun k=>u4 (q43 F k),fun k=>u4 (q6f F (q43 F k))⟩
theorem zhq(F:Nat):(qxf F).ok pp Tryz.f106 F:=
 okL q00 (qxe F) [] aN (fun _=>rfl) (fun _ _=>rfl) fun k d=>by kernel_rfl
def qt9(F:Nat):ToldF:=⟨106,1,[.row .u8 1 (.slot 0) false],[.ty .I,.ty .I,.ty (.L 16),.ty .I],u1 (qq8 F)⟩
theorem zls(F:Nat):(qt9 F).ok pp:=
 okF q00 (qxe F) (fn:=Tryz.f106) [(0,(qxf F).ann F)] (by kernel_rfl) (aL (by kernel_rfl) (zhq F) aN) fun d=>by kernel_rfl
def zch(F:Nat):List ToldF:=[q4r F]
theorem zci(F:Nat):q02 pp (zch F):=⟨q9o F,trivial⟩
def qoq(F:Nat):ToldF:=⟨181,1,[.slot 0 .I],[.ty (.L 4)],u1 (qg0 F)⟩
theorem zhr(F:Nat):(qoq F).ok pp:=
 okF q00 (zci F) (fn:=Tryz.f181) [] (by kernel_rfl) aN fun d=>by kernel_rfl
def zq5(F:Nat):List ToldF:=[qa4 F]
theorem z4w(F:Nat):q02 pp (zq5 F):=⟨qls F,trivial⟩
def z4x(F:Nat):TL:=⟨28,[.slot 2 .I,.slot 3 .I,.segs [.hole (.L 4)] (.slot 4) true,.ptr 4 1 4,.segs [.hole (.L 4)] (.slot 5) true,.ptr 5 2 4,.segs [.hole (.L 4)] (.slot 8) true,.ptr 8 3 4,.segs [.hole (.L 4)] (.slot 9) true,.ptr 9 4 4,.slot 10 .I],[.segs [.hole (.L 4)] (.slot 8) true,.ptr 8 1 4,.segs [.hole (.L 4)] (.slot 9) true,.ptr 9 2 4],0,fun k=>u7 (q6o F k),fun k=>u7 (qi5 F (q6o F k))⟩
theorem zq6(F:Nat):(z4x F).ok pp Tryz.f182 F:=
 okL q00 (z4w F) [] aN (fun _=>rfl) (fun _ _=>rfl) fun k d=>by kernel_rfl
def z1d(F:Nat):ToldF:=⟨182,4,[.slot 0 (.L 4),.slot 1 (.L 4),.slot 2 .I,.slot 3 .I],[.ty (.L 4)],u4 (qg1 F)⟩
theorem zua(F:Nat):(z1d F).ok pp:=
 okF q00 (z4w F) (fn:=Tryz.f182) [(0,(z4x F).ann F)] (by kernel_rfl) (aL (by kernel_rfl) (zq6 F) aN) fun d=>by kernel_rfl
def z80(F:Nat):List ToldF:=[qoq F,z1d F]
theorem z81(F:Nat):q02 pp (z80 F):=⟨zhr F,zua F,trivial⟩
def qlt(F:Nat):ToldF:=⟨107,3,[.slot 0 .I,.slot 1 .I,.slot 2 (.bool)],[.ty (.L 16)],u3 (qi6 F)⟩
theorem zcj(F:Nat):(qlt F).ok pp:=
 okF q00 (z81 F) (fn:=Tryz.f107) [] (by kernel_rfl) aN fun d=>by kernel_rfl
def zck(F:Nat):List ToldF:=[qt9 F,qlt F]
theorem qta(F:Nat):q02 pp (zck F):=⟨zls F,zcj F,trivial⟩
def qtb(F:Nat):TL:=⟨41,[.segs [.hole (.L 64)] (.slot 4) true,.ptr 4 1 64,.segs [.hole (.L 64)] (.slot 6) true,.ptr 6 2 64,.segs [.hole (.L 16)] (.slot 9) true,.ptr 9 3 16,.segs [.hole (.L 16)] (.slot 11) true,.ptr 11 4 16,.slot 12 .I],[.segs [.hole (.L 64)] (.slot 4) true,.ptr 4 1 64,.segs [.hole (.L 64)] (.slot 6) true,.ptr 6 2 64],0,fun k=>u5 (q38 F k),fun k=>u5 (q5g F (q38 F k))⟩
theorem zcl(F:Nat):(qtb F).ok pp Tryz.f51 F:=
 okL q00 (qta F) [] aN (fun _=>rfl) (fun _ _=>rfl) fun k d=>by kernel_rfl
def qor(F:Nat):ToldF:=⟨51,2,[.row .u8 1 (.slot 0) false,.slot 1 (.bool)],[.ty (.L 64),.ty .I],u2 (q44 F)⟩
theorem zhs(F:Nat):(qor F).ok pp:=
 okF q00 (qta F) (fn:=Tryz.f51) [(0,(qtb F).ann F)] (by kernel_rfl) (aL (by kernel_rfl) (zcl F) aN) fun d=>by kernel_rfl
def zht(F:Nat):List ToldF:=[q4r F,q5j F]
theorem qxg(F:Nat):q02 pp (zht F):=⟨q9o F,qa3 F,trivial⟩
def qxh(F:Nat):TL:=⟨23,[.row .u8 1 (.slot 0) false,.segs [.hole (.L 16)] (.slot 2) true,.ptr 2 2 16,.segs [.hole (.L 16)] (.slot 4) true,.ptr 4 3 16,.slot 5 .I],[.segs [.hole (.L 16)] (.slot 2) true,.ptr 2 1 16,.segs [.hole (.L 16)] (.slot 4) true,.ptr 4 2 16],0,fun k=>u4 (q41 F k),fun k=>u4 (q6e F (q41 F k))⟩
theorem zhu(F:Nat):(qxh F).ok pp Tryz.f52 F:=
 okL q00 (qxg F) [] aN (fun _=>rfl) (fun _ _=>rfl) fun k d=>by kernel_rfl
def qtc(F:Nat):ToldF:=⟨52,1,[.row .u8 1 (.slot 0) false],[.ty (.L 16),.ty .I],u1 (qjc F)⟩
theorem zlt(F:Nat):(qtc F).ok pp:=
 okF q00 (qxg F) (fn:=Tryz.f52) [(0,(qxh F).ann F)] (by kernel_rfl) (aL (by kernel_rfl) (zhu F) aN) fun d=>by kernel_rfl
def z1f(F:Nat):TL:=⟨20,[.slot 2 .I,.segs [.hole (.L 64)] (.slot 3) true,.ptr 3 1 64,.segs [.hole (.L 16)] (.slot 4) true,.ptr 4 2 16,.segs [.hole (.L 64)] (.slot 6) true,.ptr 6 3 64,.slot 7 .I],[.segs [.hole (.L 64)] (.slot 3) true,.ptr 3 1 64,.segs [.hole (.L 64)] (.slot 6) true,.ptr 6 2 64],0,fun k=>u5 (q9g F k),fun k=>u5 (qff F (q9g F k))⟩
theorem zlv(F:Nat):(z1f F).ok pp Tryz.f53 F:=
 okL q00 (zox F) [] aN (fun _=>rfl) (fun _ _=>rfl) fun k d=>by kernel_rfl
def qxi(F:Nat):ToldF:=⟨53,3,[.slot 0 (.L 64),.slot 1 (.L 16),.slot 2 .I],[.ty (.L 64)],u3 (q14 F)⟩
theorem zq7(F:Nat):(qxi F).ok pp:=
 okF q00 (zox F) (fn:=Tryz.f53) [(0,(z1f F).ann F)] (by kernel_rfl) (aL (by kernel_rfl) (zlv F) aN) fun d=>by kernel_rfl
def qxk(F:Nat):TL:=⟨15,[.slot 0 .I,.segs [.hole (.L 64)] (.slot 2) true,.ptr 2 1 64,.segs [.hole (.L 64)] (.slot 3) true,.ptr 3 2 64,.slot 4 .I],[.segs [.hole (.L 64)] (.slot 2) true,.ptr 2 1 64,.segs [.hole (.L 64)] (.slot 3) true,.ptr 3 2 64],0,fun k=>u4 (qfg F k),fun k=>u4 (qvu F (qfg F k))⟩
theorem zhw(F:Nat):(qxk F).ok pp Tryz.f54 F:=
 okL q00 (zox F) [] aN (fun _=>rfl) (fun _ _=>rfl) fun k d=>by kernel_rfl
def qtd(F:Nat):ToldF:=⟨54,1,[.slot 0 .I],[.ty (.L 64)],u1 (q4p F)⟩
theorem zlw(F:Nat):(qtd F).ok pp:=
 okF q00 (zox F) (fn:=Tryz.f54) [(0,(qxk F).ann F)] (by kernel_rfl) (aL (by kernel_rfl) (zhw F) aN) fun d=>by kernel_rfl
def zlx(F:Nat):List ToldF:=[q5j F]
theorem z1g(F:Nat):q02 pp (zlx F):=⟨qa3 F,trivial⟩
def z1h(F:Nat):TX:=⟨16,[.row .u8 1 (.slot 0) false,.slot 3 .I],[.slot 2 .I],[],.ret,0,fun k=>u2 (q5m F k),fun k=>u2 (qf8 F (q5m F k))⟩
theorem zly(F:Nat):(z1h F).ok pp Tryz.f109 F:=
 okX q00 (z1g F) [] aN (fun _=>rfl) (fun _ _=>rfl) (eR rfl) fun k d=>by kernel_rfl
def qxl(F:Nat):ToldF:=⟨109,1,[.row .u8 1 (.slot 0) false],[.ty .I],u1 (qyz F)⟩
theorem zq8(F:Nat):(qxl F).ok pp:=
 okF q00 (z1g F) (fn:=Tryz.f109) [(0,(z1h F).ann F)] (by kernel_rfl) (aX (by kernel_rfl) (zly F) aN) fun d=>by kernel_rfl
def qte(F:Nat):ToldF:=⟨110,0,[],[.row .i64 10],u0 (z2e F)⟩
theorem zlz(F:Nat):(qte F).ok pp:=
 okF q00 (zox F) (fn:=Tryz.f110) [] (by kernel_rfl) aN fun d=>by kernel_rfl
def z00(F:Nat):List ToldF:=[q5j F]
theorem z01(F:Nat):q02 pp (z00 F):=⟨qa3 F,trivial⟩
def qgk(F:Nat):ToldF:=⟨111,2,[.row .u8 1 (.cell (.slot 0) 0) false,.segs [.sl 1 1 .whole,.J] (.slot 0) true (some 1),.ptr 0 2 2,.slot 1 .I],[.ty .I,.psegs 1 [.row .u8 1 false,.J]],u3 (q0p F)⟩
theorem z2y(F:Nat):(qgk F).ok pp:=
 okF q00 (z01 F) (fn:=Tryz.f111) [] (by kernel_rfl) aN fun d=>by kernel_rfl
def qlu(F:Nat):ToldF:=⟨183,1,[.slot 0 .I],[.row .i64 1],u1 (q91 F)⟩
theorem zcm(F:Nat):(qlu F).ok pp:=
 okF q00 (zox F) (fn:=Tryz.f183) [] (by kernel_rfl) aN fun d=>by kernel_rfl
def zcn(F:Nat):List ToldF:=[qlu F]
theorem zco(F:Nat):q02 pp (zcn F):=⟨zcm F,trivial⟩
def qos(F:Nat):ToldF:=⟨112,3,[.slot 0 .I,.slot 1 .I,.slot 2 .I],[.ty .I],u3 (qfy F)⟩
theorem zhz(F:Nat):(qos F).ok pp:=
 okF q00 (zco F) (fn:=Tryz.f112) [] (by kernel_rfl) aN fun d=>by kernel_rfl
def z1i(F:Nat):ToldF:=⟨184,0,[],[.row .i64 1],u0 (zfg F)⟩
theorem zub(F:Nat):(z1i F).ok pp:=
 okF q00 (zox F) (fn:=Tryz.f184) [] (by kernel_rfl) aN fun d=>by kernel_rfl
def qtf(F:Nat):ToldF:=⟨185,0,[],[.row .i64 1],u0 (z2c F)⟩
theorem zm0(F:Nat):(qtf F).ok pp:=
 okF q00 (zox F) (fn:=Tryz.f185) [] (by kernel_rfl) aN fun d=>by kernel_rfl
def zm1(F:Nat):List ToldF:=[z1i F,qtf F]
theorem z1j(F:Nat):q02 pp (zm1 F):=⟨zub F,zm0 F,trivial⟩
def z1k(F:Nat):TL:=⟨53,[.slot 2 .I,.slot 7 .I,.slot 8 .I,.slot 9 .I],[.slot 7 .I,.slot 8 .I],0,fun k=>u4 (q6x F k),fun k=>u4 (z0a F (q6x F k))⟩
theorem zm2(F:Nat):(z1k F).ok pp Tryz.f113 F:=
 okL q00 (z1j F) [] aN (fun _=>rfl) (fun _ _=>rfl) fun k d=>by kernel_rfl
def qxm(F:Nat):ToldF:=⟨113,3,[.slot 0 .I,.slot 1 .I,.slot 2 .I],[.ty .I],u3 (qnh F)⟩
theorem zqb(F:Nat):(qxm F).ok pp:=
 okF q00 (z1j F) (fn:=Tryz.f113) [(0,(z1k F).ann F)] (by kernel_rfl) (aL (by kernel_rfl) (zm2 F) aN) fun d=>by kernel_rfl
def qlv(F:Nat):ToldF:=⟨186,1,[.slot 0 .I],[.row .i64 1],u1 (qi3 F)⟩
theorem zcp(F:Nat):(qlv F).ok pp:=
 okF q00 (zox F) (fn:=Tryz.f186) [] (by kernel_rfl) aN fun d=>by kernel_rfl
def zqc(F:Nat):List ToldF:=[qa4 F,qlv F]
theorem zqd(F:Nat):q02 pp (zqc F):=⟨qls F,zcp F,trivial⟩
def z1l(F:Nat):ToldF:=⟨114,4,[.slot 0 .I,.slot 1 .I,.slot 2 .I,.slot 3 .I],[.ty .I],u4 (q6g F)⟩
theorem zuc(F:Nat):(z1l F).ok pp:=
 okF q00 (zqd F) (fn:=Tryz.f114) [] (by kernel_rfl) aN fun d=>by kernel_rfl
def zcq(F:Nat):List ToldF:=[q4r F,qxl F,qte F,qgk F,qos F,qxm F,z1l F]
theorem q0v(F:Nat):q02 pp (zcq F):=⟨q9o F,zq8 F,zlz F,z2y F,zhz F,zqb F,zuc F,trivial⟩
def qhc(F:Nat):TL:=⟨368,[.segs [.hole (.L 64)] (.slot 2) true,.ptr 2 1 64,.segs [.hole (.L 64)] (.slot 4) true,.ptr 4 2 64,.segs [.J,.J,.J,.J,.J,.J,.J,.J,.J,.J] (.slot 6) true,.ptr 6 3 10,.row .u8 1 (.cell (.slot 7) 0) false,.segs [.sl 4 1 .whole,.J] (.slot 7) true,.ptr 7 5 2,.slot 8 .I,.slot 9 .I,.slot 10 .I,.row .i64 4 (.slot 11) true,.slot 12 .I,.slot 13 .I,.slot 14 .I],[.segs [.hole (.L 64)] (.slot 2) true,.ptr 2 1 64,.segs [.hole (.L 64)] (.slot 4) true,.ptr 4 2 64,.segs [.J,.J,.J,.J,.J,.J,.J,.J,.J,.J] (.slot 6) true,.ptr 6 3 10,.row .u8 1 (.cell (.slot 7) 0) false,.segs [.sl 4 1 .whole,.J] (.slot 7) true,.ptr 7 5 2,.slot 8 .I,.slot 9 .I,.slot 10 .I,.row .i64 4 (.slot 11) true,.slot 12 .I],2,fun k=>u21 (q39 F k),fun k=>u21 (qab F (q39 F k))⟩
theorem qtg(F:Nat):(qhc F).ok pp Tryz.f55 F:=
 okL q00 (q0v F) [] aN (fun _=>rfl) (fun _ _=>rfl) fun k d=>by kernel_rfl
def qth(F:Nat):TL:=⟨368,[.segs [.hole (.L 64)] (.slot 2) true,.ptr 2 1 64,.segs [.hole (.L 64)] (.slot 4) true,.ptr 4 2 64,.segs [.J,.J,.J,.J,.J,.J,.J,.J,.J,.J] (.slot 6) true,.ptr 6 3 10,.row .u8 1 (.cell (.slot 7) 0) false,.segs [.sl 4 1 .whole,.J] (.slot 7) true,.ptr 7 5 2,.slot 8 .I,.slot 9 .I,.slot 10 .I,.row .i64 4 (.slot 11) true,.slot 12 .I],[.segs [.hole (.L 64)] (.slot 2) true,.ptr 2 1 64,.segs [.hole (.L 64)] (.slot 4) true,.ptr 4 2 64,.segs [.J,.J,.J,.J,.J,.J,.J,.J,.J,.J] (.slot 6) true,.ptr 6 3 10,.row .u8 1 (.cell (.slot 7) 0) false,.segs [.sl 4 1 .whole,.J] (.slot 7) true,.ptr 7 5 2,.slot 8 .I,.slot 9 .I,.slot 10 .I,.row .i64 4 (.slot 11) true],0,fun k=>u19 (q2h F k),fun k=>u19 (qac F (q2h F k))⟩
theorem zcr(F:Nat):(qth F).ok pp Tryz.f55 F:=
 okL q00 (q0v F) [(2,(qhc F).ann F)] (aL (by kernel_rfl) (qtg F) aN) (fun _=>rfl) (fun _ _=>rfl) fun k d=>by kernel_rfl
def qhd(F:Nat):TL:=⟨368,[.segs [.hole (.L 64)] (.slot 2) true,.ptr 2 1 64,.segs [.hole (.L 64)] (.slot 4) true,.ptr 4 2 64,.segs [.J,.J,.J,.J,.J,.J,.J,.J,.J,.J] (.slot 6) true,.ptr 6 3 10,.row .u8 1 (.cell (.slot 7) 0) false,.segs [.sl 4 1 .whole,.J] (.slot 7) true,.ptr 7 5 2,.slot 8 .I,.slot 9 .I,.slot 10 .I,.row .i64 4 (.slot 11) true,.const 15 (.int .i64 (some 1) 1),.slot 16 .I,.slot 17 .I,.slot 18 .I],[.segs [.hole (.L 64)] (.slot 2) true,.ptr 2 1 64,.segs [.hole (.L 64)] (.slot 4) true,.ptr 4 2 64,.segs [.J,.J,.J,.J,.J,.J,.J,.J,.J,.J] (.slot 6) true,.ptr 6 3 10,.row .u8 1 (.cell (.slot 7) 0) false,.segs [.sl 4 1 .whole,.J] (.slot 7) true,.ptr 7 5 2,.slot 8 .I,.slot 9 .I,.slot 10 .I,.row .i64 4 (.slot 11) true,.const 15 (.int .i64 (some 1) 1),.slot 16 .I],6,fun k=>u21 (q3a F k),fun k=>u21 (qad F (q3a F k))⟩
theorem qti(F:Nat):(qhd F).ok pp Tryz.f55 F:=
 okL q00 (q0v F) [] aN (fun _=>rfl) (fun _ _=>rfl) fun k d=>by kernel_rfl
def qtj(F:Nat):TL:=⟨368,[.segs [.hole (.L 64)] (.slot 2) true,.ptr 2 1 64,.segs [.hole (.L 64)] (.slot 4) true,.ptr 4 2 64,.segs [.J,.J,.J,.J,.J,.J,.J,.J,.J,.J] (.slot 6) true,.ptr 6 3 10,.row .u8 1 (.cell (.slot 7) 0) false,.segs [.sl 4 1 .whole,.J] (.slot 7) true,.ptr 7 5 2,.slot 8 .I,.slot 9 .I,.slot 10 .I,.row .i64 4 (.slot 11) true,.const 15 (.int .i64 (some 1) 1),.slot 16 .I],[.segs [.hole (.L 64)] (.slot 2) true,.ptr 2 1 64,.segs [.hole (.L 64)] (.slot 4) true,.ptr 4 2 64,.segs [.J,.J,.J,.J,.J,.J,.J,.J,.J,.J] (.slot 6) true,.ptr 6 3 10,.row .u8 1 (.cell (.slot 7) 0) false,.segs [.sl 4 1 .whole,.J] (.slot 7) true,.ptr 7 5 2,.slot 8 .I,.slot 9 .I,.slot 10 .I,.row .i64 4 (.slot 11) true,.const 15 (.int .i64 (some 1) 1)],4,fun k=>u19 (q4k F k),fun k=>u19 (qae F (q4k F k))⟩
theorem zcs(F:Nat):(qtj F).ok pp Tryz.f55 F:=
 okL q00 (q0v F) [(6,(qhd F).ann F)] (aL (by kernel_rfl) (qti F) aN) (fun _=>rfl) (fun _ _=>rfl) fun k d=>by kernel_rfl
def qej(F:Nat):TL:=⟨368,[.segs [.hole (.L 64)] (.slot 2) true,.ptr 2 1 64,.segs [.hole (.L 64)] (.slot 4) true,.ptr 4 2 64,.segs [.J,.J,.J,.J,.J,.J,.J,.J,.J,.J] (.slot 6) true,.ptr 6 3 10,.row .u8 1 (.cell (.slot 7) 0) false,.segs [.sl 4 1 .whole,.J] (.slot 7) true,.ptr 7 5 2,.slot 8 .I,.slot 9 .I,.slot 10 .I,.row .i64 4 (.slot 11) true,.const 15 (.int .i64 (some 1) 1),.slot 19 .I,.slot 20 .I,.slot 21 .I],[.segs [.hole (.L 64)] (.slot 2) true,.ptr 2 1 64,.segs [.hole (.L 64)] (.slot 4) true,.ptr 4 2 64,.segs [.J,.J,.J,.J,.J,.J,.J,.J,.J,.J] (.slot 6) true,.ptr 6 3 10,.row .u8 1 (.cell (.slot 7) 0) false,.segs [.sl 4 1 .whole,.J] (.slot 7) true,.ptr 7 5 2,.slot 8 .I,.slot 9 .I,.slot 10 .I,.row .i64 4 (.slot 11) true,.const 15 (.int .i64 (some 1) 1),.slot 19 .I],10,fun k=>u21 (q2p F k),fun k=>u21 (q94 F (q2p F k))⟩
theorem qot(F:Nat):(qej F).ok pp Tryz.f55 F:=
 okL q00 (q0v F) [] aN (fun _=>rfl) (fun _ _=>rfl) fun k d=>by kernel_rfl
def qtk(F:Nat):TL:=⟨368,[.segs [.hole (.L 64)] (.slot 2) true,.ptr 2 1 64,.segs [.hole (.L 64)] (.slot 4) true,.ptr 4 2 64,.segs [.J,.J,.J,.J,.J,.J,.J,.J,.J,.J] (.slot 6) true,.ptr 6 3 10,.row .u8 1 (.cell (.slot 7) 0) false,.segs [.sl 4 1 .whole,.J] (.slot 7) true,.ptr 7 5 2,.slot 8 .I,.slot 9 .I,.slot 10 .I,.row .i64 4 (.slot 11) true,.const 15 (.int .i64 (some 1) 1),.slot 19 .I],[.segs [.hole (.L 64)] (.slot 2) true,.ptr 2 1 64,.segs [.hole (.L 64)] (.slot 4) true,.ptr 4 2 64,.segs [.J,.J,.J,.J,.J,.J,.J,.J,.J,.J] (.slot 6) true,.ptr 6 3 10,.row .u8 1 (.cell (.slot 7) 0) false,.segs [.sl 4 1 .whole,.J] (.slot 7) true,.ptr 7 5 2,.slot 8 .I,.slot 9 .I,.slot 10 .I,.row .i64 4 (.slot 11) true,.const 15 (.int .i64 (some 1) 1)],8,fun k=>u19 (q3b F k),fun k=>u19 (qaf F (q3b F k))⟩
theorem zct(F:Nat):(qtk F).ok pp Tryz.f55 F:=
 okL q00 (q0v F) [(10,(qej F).ann F)] (aL (by kernel_rfl) (qot F) aN) (fun _=>rfl) (fun _ _=>rfl) fun k d=>by kernel_rfl
def qek(F:Nat):TL:=⟨368,[.segs [.hole (.L 64)] (.slot 2) true,.ptr 2 1 64,.segs [.hole (.L 64)] (.slot 4) true,.ptr 4 2 64,.segs [.J,.J,.J,.J,.J,.J,.J,.J,.J,.J] (.slot 6) true,.ptr 6 3 10,.row .u8 1 (.cell (.slot 7) 0) false,.segs [.sl 4 1 .whole,.J] (.slot 7) true,.ptr 7 5 2,.slot 8 .I,.slot 9 .I,.slot 10 .I,.row .i64 4 (.slot 11) true,.slot 15 .I,.slot 22 .I,.slot 23 .I],[.segs [.hole (.L 64)] (.slot 2) true,.ptr 2 1 64,.segs [.hole (.L 64)] (.slot 4) true,.ptr 4 2 64,.segs [.J,.J,.J,.J,.J,.J,.J,.J,.J,.J] (.slot 6) true,.ptr 6 3 10,.row .u8 1 (.cell (.slot 7) 0) false,.segs [.sl 4 1 .whole,.J] (.slot 7) true,.ptr 7 5 2,.slot 8 .I,.slot 9 .I,.slot 10 .I,.row .i64 4 (.slot 11) true,.slot 15 .I,.slot 22 .I],14,fun k=>u21 (q2q F k),fun k=>u21 (q95 F (q2q F k))⟩
theorem qou(F:Nat):(qek F).ok pp Tryz.f55 F:=
 okL q00 (q0v F) [] aN (fun _=>rfl) (fun _ _=>rfl) fun k d=>by kernel_rfl
def qov(F:Nat):TL:=⟨368,[.segs [.hole (.L 64)] (.slot 2) true,.ptr 2 1 64,.segs [.hole (.L 64)] (.slot 4) true,.ptr 4 2 64,.segs [.J,.J,.J,.J,.J,.J,.J,.J,.J,.J] (.slot 6) true,.ptr 6 3 10,.row .u8 1 (.cell (.slot 7) 0) false,.segs [.sl 4 1 .whole,.J] (.slot 7) true,.ptr 7 5 2,.slot 8 .I,.slot 9 .I,.slot 10 .I,.row .i64 4 (.slot 11) true,.slot 15 .I,.slot 22 .I],[.segs [.hole (.L 64)] (.slot 2) true,.ptr 2 1 64,.segs [.hole (.L 64)] (.slot 4) true,.ptr 4 2 64,.segs [.J,.J,.J,.J,.J,.J,.J,.J,.J,.J] (.slot 6) true,.ptr 6 3 10,.row .u8 1 (.cell (.slot 7) 0) false,.segs [.sl 4 1 .whole,.J] (.slot 7) true,.ptr 7 5 2,.slot 8 .I,.slot 9 .I,.slot 10 .I,.row .i64 4 (.slot 11) true],12,fun k=>u20 (q1r F k),fun k=>u20 (q96 F (q1r F k))⟩
theorem z86(F:Nat):(qov F).ok pp Tryz.f55 F:=
 okL q00 (q0v F) [(14,(qek F).ann F)] (aL (by kernel_rfl) (qou F) aN) (fun _=>rfl) (fun _ _=>rfl) fun k d=>by kernel_rfl
def qel(F:Nat):TL:=⟨368,[.segs [.hole (.L 64)] (.slot 2) true,.ptr 2 1 64,.segs [.hole (.L 64)] (.slot 4) true,.ptr 4 2 64,.segs [.J,.J,.J,.J,.J,.J,.J,.J,.J,.J] (.slot 6) true,.ptr 6 3 10,.row .u8 1 (.cell (.slot 7) 0) false,.segs [.sl 4 1 .whole,.J] (.slot 7) true,.ptr 7 5 2,.slot 8 .I,.slot 9 .I,.slot 10 .I,.row .i64 4 (.slot 11) true,.segs [.hole (.L 16)] (.slot 24) true,.ptr 24 7 16,.segs [.hole (.L 16)] (.slot 25) true,.ptr 25 8 16,.slot 26 .I,.slot 27 .I,.slot 28 .I],[.segs [.hole (.L 64)] (.slot 2) true,.ptr 2 1 64,.segs [.hole (.L 64)] (.slot 4) true,.ptr 4 2 64,.segs [.J,.J,.J,.J,.J,.J,.J,.J,.J,.J] (.slot 6) true,.ptr 6 3 10,.row .u8 1 (.cell (.slot 7) 0) false,.segs [.sl 4 1 .whole,.J] (.slot 7) true,.ptr 7 5 2,.slot 8 .I,.slot 9 .I,.slot 10 .I,.row .i64 4 (.slot 11) true,.segs [.hole (.L 16)] (.slot 24) true,.ptr 24 7 16,.segs [.hole (.L 16)] (.slot 25) true,.ptr 25 8 16,.slot 26 .I,.slot 27 .I],18,fun k=>u23 (q1s F k),fun k=>u23 (q97 F (q1s F k))⟩
theorem qow(F:Nat):(qel F).ok pp Tryz.f55 F:=
 okL q00 (q0v F) [] aN (fun _=>rfl) (fun _ _=>rfl) fun k d=>by kernel_rfl
def qox(F:Nat):TL:=⟨368,[.segs [.hole (.L 64)] (.slot 2) true,.ptr 2 1 64,.segs [.hole (.L 64)] (.slot 4) true,.ptr 4 2 64,.segs [.J,.J,.J,.J,.J,.J,.J,.J,.J,.J] (.slot 6) true,.ptr 6 3 10,.row .u8 1 (.cell (.slot 7) 0) false,.segs [.sl 4 1 .whole,.J] (.slot 7) true,.ptr 7 5 2,.slot 8 .I,.slot 9 .I,.slot 10 .I,.row .i64 4 (.slot 11) true,.segs [.hole (.L 16)] (.slot 24) true,.ptr 24 7 16,.segs [.hole (.L 16)] (.slot 25) true,.ptr 25 8 16,.slot 26 .I],[.segs [.hole (.L 64)] (.slot 2) true,.ptr 2 1 64,.segs [.hole (.L 64)] (.slot 4) true,.ptr 4 2 64,.segs [.J,.J,.J,.J,.J,.J,.J,.J,.J,.J] (.slot 6) true,.ptr 6 3 10,.row .u8 1 (.cell (.slot 7) 0) false,.segs [.sl 4 1 .whole,.J] (.slot 7) true,.ptr 7 5 2,.slot 8 .I,.slot 9 .I,.slot 10 .I,.row .i64 4 (.slot 11) true,.segs [.hole (.L 16)] (.slot 24) true,.ptr 24 7 16,.segs [.hole (.L 16)] (.slot 25) true,.ptr 25 8 16],16,fun k=>u21 (q1t F k),fun k=>u21 (q98 F (q1t F k))⟩
theorem z87(F:Nat):(qox F).ok pp Tryz.f55 F:=
 okL q00 (q0v F) [(18,(qel F).ann F)] (aL (by kernel_rfl) (qow F) aN) (fun _=>rfl) (fun _ _=>rfl) fun k d=>by kernel_rfl
def qoy(F:Nat):TL:=⟨368,[.segs [.hole (.L 64)] (.slot 2) true,.ptr 2 1 64,.segs [.hole (.L 64)] (.slot 4) true,.ptr 4 2 64,.segs [.J,.J,.J,.J,.J,.J,.J,.J,.J,.J] (.slot 6) true,.ptr 6 3 10,.row .u8 1 (.cell (.slot 7) 0) false,.segs [.sl 4 1 .whole,.J] (.slot 7) true,.ptr 7 5 2,.slot 8 .I,.slot 9 .I,.slot 10 .I,.row .i64 4 (.slot 11) true,.segs [.hole (.L 16)] (.slot 24) true,.ptr 24 7 16,.segs [.hole (.L 16)] (.slot 25) true,.ptr 25 8 16,.slot 29 .I],[.segs [.hole (.L 64)] (.slot 2) true,.ptr 2 1 64,.segs [.hole (.L 64)] (.slot 4) true,.ptr 4 2 64,.segs [.J,.J,.J,.J,.J,.J,.J,.J,.J,.J] (.slot 6) true,.ptr 6 3 10,.slot 8 .I,.slot 9 .I,.slot 10 .I,.row .i64 4 (.slot 11) true,.segs [.hole (.L 16)] (.slot 24) true,.ptr 24 5 16,.segs [.hole (.L 16)] (.slot 25) true,.ptr 25 6 16],20,fun k=>u21 (q10 F k),fun k=>u21 (q6h F (q10 F k))⟩
theorem z88(F:Nat):(qoy F).ok pp Tryz.f55 F:=
 okL q00 (q0v F) [] aN (fun _=>rfl) (fun _ _=>rfl) fun k d=>by kernel_rfl
def qem(F:Nat):TL:=⟨368,[.segs [.hole (.L 64)] (.slot 2) true,.ptr 2 1 64,.segs [.hole (.L 64)] (.slot 4) true,.ptr 4 2 64,.segs [.J,.J,.J,.J,.J,.J,.J,.J,.J,.J] (.slot 6) true,.ptr 6 3 10,.slot 8 .I,.slot 9 .I,.slot 10 .I,.row .i64 4 (.slot 11) true,.segs [.hole (.L 16)] (.slot 24) true,.ptr 24 5 16,.segs [.hole (.L 16)] (.slot 25) true,.ptr 25 6 16,.slot 31 .I,.segs [.hole (.L 4)] (.slot 33) true,.ptr 33 7 4,.segs [.hole (.L 4)] (.slot 34) true,.ptr 34 8 4,.slot 35 .I,.slot 36 .I,.slot 37 .I,.slot 38 .I,.slot 39 .I],[.segs [.hole (.L 64)] (.slot 2) true,.ptr 2 1 64,.segs [.hole (.L 64)] (.slot 4) true,.ptr 4 2 64,.segs [.J,.J,.J,.J,.J,.J,.J,.J,.J,.J] (.slot 6) true,.ptr 6 3 10,.slot 8 .I,.slot 9 .I,.slot 10 .I,.row .i64 4 (.slot 11) true,.segs [.hole (.L 16)] (.slot 24) true,.ptr 24 5 16,.segs [.hole (.L 16)] (.slot 25) true,.ptr 25 6 16,.slot 31 .I,.segs [.hole (.L 4)] (.slot 33) true,.ptr 33 7 4,.segs [.hole (.L 4)] (.slot 34) true,.ptr 34 8 4,.slot 37 .I,.slot 38 .I],24,fun k=>u26 (q11 F k),fun k=>u26 (q99 F (q11 F k))⟩
theorem qoz(F:Nat):(qem F).ok pp Tryz.f55 F:=
 okL q00 (q0v F) [] aN (fun _=>rfl) (fun _ _=>rfl) fun k d=>by kernel_rfl
def qp0(F:Nat):TL:=⟨368,[.segs [.hole (.L 64)] (.slot 2) true,.ptr 2 1 64,.segs [.hole (.L 64)] (.slot 4) true,.ptr 4 2 64,.segs [.J,.J,.J,.J,.J,.J,.J,.J,.J,.J] (.slot 6) true,.ptr 6 3 10,.slot 8 .I,.slot 9 .I,.slot 10 .I,.row .i64 4 (.slot 11) true,.segs [.hole (.L 16)] (.slot 24) true,.ptr 24 5 16,.segs [.hole (.L 16)] (.slot 25) true,.ptr 25 6 16,.slot 31 .I],[.segs [.hole (.L 64)] (.slot 2) true,.ptr 2 1 64,.segs [.hole (.L 64)] (.slot 4) true,.ptr 4 2 64],22,fun k=>u19 (q1u F k),fun k=>u19 (q9a F (q1u F k))⟩
theorem z89(F:Nat):(qp0 F).ok pp Tryz.f55 F:=
 okL q00 (q0v F) [(24,(qem F).ann F)] (aL (by kernel_rfl) (qoz F) aN) (fun _=>rfl) (fun _ _=>rfl) fun k d=>by kernel_rfl
def qp1(F:Nat):ToldF:=⟨55,1,[.row .u8 1 (.slot 0) false],[.ty (.L 64),.ty .I],u1 (qg3 F)⟩
theorem zi2(F:Nat):(qp1 F).ok pp:=
 okF q00 (q0v F) (fn:=Tryz.f55) [(2,(qhc F).ann F),(0,(qth F).ann F),(6,(qhd F).ann F),(4,(qtj F).ann F),(10,(qej F).ann F),(8,(qtk F).ann F),(14,(qek F).ann F),(12,(qov F).ann F),(18,(qel F).ann F),(16,(qox F).ann F),(20,(qoy F).ann F),(24,(qem F).ann F),(22,(qp0 F).ann F)] (by kernel_rfl) (aL (by kernel_rfl) (qtg F) (aL (by kernel_rfl) (zcr F) (aL (by kernel_rfl) (qti F) (aL (by kernel_rfl) (zcs F) (aL (by kernel_rfl) (qot F) (aL (by kernel_rfl) (zct F) (aL (by kernel_rfl) (qou F) (aL (by kernel_rfl) (z86 F) (aL (by kernel_rfl) (qow F) (aL (by kernel_rfl) (z87 F) (aL (by kernel_rfl) (z88 F) (aL (by kernel_rfl) (qoz F) (aL (by kernel_rfl) (z89 F) aN))))))))))))) fun d=>by kernel_rfl
def zqe(F:Nat):List ToldF:=[qfq F]
theorem zqf(F:Nat):q02 pp (zqe F):=⟨qx8 F,trivial⟩
def q63(F:Nat):ToldF:=⟨118,3,[.row .u8 1 (.slot 0) false,.slot 1 .I,.slot 2 .I],[.ty .I],u3 (q2w F)⟩
theorem qbl(F:Nat):(q63 F).ok pp:=
 okF q00 (zqf F) (fn:=Tryz.f118) [] (by kernel_rfl) aN fun d=>by kernel_rfl
def zi3(F:Nat):List ToldF:=[q63 F]
theorem qxn(F:Nat):q02 pp (zi3 F):=⟨qbl F,trivial⟩
def qxo(F:Nat):TL:=⟨30,[.row .u8 1 (.slot 0) false,.segs [.hole (.L 16)] (.slot 2) true,.ptr 2 2 16,.segs [.hole (.L 16)] (.slot 3) true,.ptr 3 3 16,.slot 4 .I],[.segs [.hole (.L 16)] (.slot 2) true,.ptr 2 1 16,.segs [.hole (.L 16)] (.slot 3) true,.ptr 3 2 16],0,fun k=>u4 (qf4 F k),fun k=>u4 (qvh F (qf4 F k))⟩
theorem zi4(F:Nat):(qxo F).ok pp Tryz.f187 F:=
 okL q00 (qxn F) [] aN (fun _=>rfl) (fun _ _=>rfl) fun k d=>by kernel_rfl
def qtl(F:Nat):ToldF:=⟨187,1,[.row .u8 1 (.slot 0) false],[.ty (.L 16)],u1 (zfi F)⟩
theorem zm3(F:Nat):(qtl F).ok pp:=
 okF q00 (qxn F) (fn:=Tryz.f187) [(0,(qxo F).ann F)] (by kernel_rfl) (aL (by kernel_rfl) (zi4 F) aN) fun d=>by kernel_rfl
def zi5(F:Nat):List ToldF:=[q63 F,qtl F]
theorem qxp(F:Nat):q02 pp (zi5 F):=⟨qbl F,zm3 F,trivial⟩
def qxq(F:Nat):TL:=⟨78,[.row .u8 1 (.slot 0) false,.segs [.const (.bool (some false) false),.const (.bool (some false) false),.hole (.L 3),.hole (.L 3),.hole (.L 2),.hole (.L 16)] (.slot 2) true,.ptr 2 2 26,.segs [.hole (.bool),.hole (.bool),.hole (.L 3),.hole (.L 3),.hole (.L 2),.hole (.L 16)] (.slot 4) true,.ptr 4 3 26,.slot 5 .I],[.row .u8 1 (.slot 0) false,.segs [.const (.bool (some false) false),.const (.bool (some false) false),.hole (.L 3),.hole (.L 3),.hole (.L 2),.hole (.L 16)] (.slot 2) true,.ptr 2 2 26,.segs [.hole (.bool),.hole (.bool),.hole (.L 3),.hole (.L 3),.hole (.L 2),.hole (.L 16)] (.slot 4) true,.ptr 4 3 26],0,fun k=>u12 (qf5 F k),fun k=>u12 (qvi F (qf5 F k))⟩
theorem zi6(F:Nat):(qxq F).ok pp Tryz.f115 F:=
 okL q00 (qxp F) [] aN (fun _=>rfl) (fun _ _=>rfl) fun k d=>by kernel_rfl
def qhe(F:Nat):ToldF:=⟨115,1,[.row .u8 1 (.slot 0) false],[.ty (.agg [.bool,.bool,.L 3,.L 3,.L 2,.L 16]),.ty .I],u1 (qqa F)⟩
theorem z1m(F:Nat):(qhe F).ok pp:=
 okF q00 (qxp F) (fn:=Tryz.f115) [(0,(qxq F).ann F)] (by kernel_rfl) (aL (by kernel_rfl) (zi6 F) aN) fun d=>by kernel_rfl
def z4y(F:Nat):ToldF:=⟨99,3,[.slot 0 .I,.slot 1 .I,.slot 2 .I],[.ty (.bool)],u3 (zz3 F)⟩
theorem zx3(F:Nat):(z4y F).ok pp:=
 okF q00 (zox F) (fn:=Tryz.f99) [] (by kernel_rfl) aN fun d=>by kernel_rfl
def qfr(F:Nat):ToldF:=⟨174,2,[.slot 0 .I,.slot 1 .I],[.ty .I],u2 (qvj F)⟩
theorem qxr(F:Nat):(qfr F).ok pp:=
 okF q00 (zox F) (fn:=Tryz.f174) [] (by kernel_rfl) aN fun d=>by kernel_rfl
def zi7(F:Nat):List ToldF:=[q4r F,z4y F,qfr F]
theorem qxs(F:Nat):q02 pp (zi7 F):=⟨q9o F,zx3 F,qxr F,trivial⟩
def qxt(F:Nat):TL:=⟨62,[.segs [.hole (.bool),.hole (.bool),.hole (.L 3),.hole (.L 3),.hole (.L 2),.hole (.L 16)] (.slot 1) true,.ptr 1 1 26,.segs [.hole (.L 8)] (.slot 2) true,.ptr 2 2 8,.segs [.hole (.L 8)] (.slot 4) true,.ptr 4 3 8,.slot 5 .I,.slot 6 .I],[.segs [.hole (.L 8)] (.slot 2) true,.ptr 2 1 8,.segs [.hole (.L 8)] (.slot 4) true,.ptr 4 2 8,.slot 5 .I],0,fun k=>u10 (qf6 F k),fun k=>u10 (qvk F (qf6 F k))⟩
theorem zi8(F:Nat):(qxt F).ok pp Tryz.f100 F:=
 okL q00 (qxs F) [] aN (fun _=>rfl) (fun _ _=>rfl) fun k d=>by kernel_rfl
def qao(F:Nat):ToldF:=⟨100,1,[.slot 0 (.agg [.bool,.bool,.L 3,.L 3,.L 2,.L 16])],[.ty (.L 8),.ty .I],u1 (qje F)⟩
theorem qmu(F:Nat):(qao F).ok pp:=
 okF q00 (qxs F) (fn:=Tryz.f100) [(0,(qxt F).ann F)] (by kernel_rfl) (aL (by kernel_rfl) (zi8 F) aN) fun d=>by kernel_rfl
def zm4(F:Nat):List ToldF:=[qfr F]
theorem zm5(F:Nat):q02 pp (zm4 F):=⟨qxr F,trivial⟩
def qk9(F:Nat):ToldF:=⟨101,2,[.slot 0 (.bool),.slot 1 .I],[.ty .I],u2 (z6t F)⟩
theorem z4z(F:Nat):(qk9 F).ok pp:=
 okF q00 (zm5 F) (fn:=Tryz.f101) [] (by kernel_rfl) aN fun d=>by kernel_rfl
def zi9(F:Nat):List ToldF:=[qfr F]
theorem zia(F:Nat):q02 pp (zi9 F):=⟨qxr F,trivial⟩
def qtm(F:Nat):ToldF:=⟨103,1,[.slot 0 .I],[.ty (.L 4)],u1 (zfj F)⟩
theorem zm6(F:Nat):(qtm F).ok pp:=
 okF q00 (zia F) (fn:=Tryz.f103) [] (by kernel_rfl) aN fun d=>by kernel_rfl
def qap(F:Nat):ToldF:=⟨95,2,[.slot 0 .I,.slot 1 .I],[.ty .I],u2 (qec F)⟩
theorem qmv(F:Nat):(qap F).ok pp:=
 okF q00 (zox F) (fn:=Tryz.f95) [] (by kernel_rfl) aN fun d=>by kernel_rfl
def zqi(F:Nat):List ToldF:=[qap F]
theorem z50(F:Nat):q02 pp (zqi F):=⟨qmv F,trivial⟩
def z51(F:Nat):TL:=⟨19,[.slot 1 .I,.segs [.hole (.L 4)] (.slot 2) true,.ptr 2 1 4,.segs [.hole (.L 4)] (.slot 4) true,.ptr 4 2 4,.slot 5 .I],[.segs [.hole (.L 4)] (.slot 2) true,.ptr 2 1 4,.segs [.hole (.L 4)] (.slot 4) true,.ptr 4 2 4],0,fun k=>u4 (ql2 F k),fun k=>u4 (z3v F (ql2 F k))⟩
theorem zqj(F:Nat):(z51 F).ok pp Tryz.f102 F:=
 okL q00 (z50 F) [] aN (fun _=>rfl) (fun _ _=>rfl) fun k d=>by kernel_rfl
def qmw(F:Nat):ToldF:=⟨102,2,[.slot 0 (.L 4),.slot 1 .I],[.ty (.L 4)],u2 (q7b F)⟩
theorem za2(F:Nat):(qmw F).ok pp:=
 okF q00 (z50 F) (fn:=Tryz.f102) [(0,(z51 F).ann F)] (by kernel_rfl) (aL (by kernel_rfl) (zqj F) aN) fun d=>by kernel_rfl
def zid(F:Nat):List ToldF:=[qao F,qk9 F,qtm F,qmw F]
theorem qxu(F:Nat):q02 pp (zid F):=⟨qmu F,z4z F,zm6 F,za2 F,trivial⟩
def qxv(F:Nat):TL:=⟨39,[.segs [.hole (.bool),.hole (.bool),.hole (.L 3),.hole (.L 3),.hole (.L 2),.hole (.L 16)] (.slot 1) true,.ptr 1 1 26,.segs [.hole (.L 64)] (.slot 2) true,.ptr 2 2 64,.segs [.hole (.L 8)] (.slot 3) true,.ptr 3 3 8,.segs [.hole (.L 64)] (.slot 5) true,.ptr 5 4 64,.slot 6 .I],[.segs [.hole (.L 64)] (.slot 2) true,.ptr 2 1 64,.segs [.hole (.L 64)] (.slot 5) true,.ptr 5 2 64],0,fun k=>u10 (qf7 F k),fun k=>u10 (qvl F (qf7 F k))⟩
theorem zie(F:Nat):(qxv F).ok pp Tryz.f49 F:=
 okL q00 (qxu F) [] aN (fun _=>rfl) (fun _ _=>rfl) fun k d=>by kernel_rfl
def qhf(F:Nat):ToldF:=⟨49,1,[.slot 0 (.agg [.bool,.bool,.L 3,.L 3,.L 2,.L 16])],[.ty (.L 64)],u1 (qqb F)⟩
theorem z1n(F:Nat):(qhf F).ok pp:=
 okF q00 (qxu F) (fn:=Tryz.f49) [(0,(qxv F).ann F)] (by kernel_rfl) (aL (by kernel_rfl) (zie F) aN) fun d=>by kernel_rfl
def zcu(F:Nat):List ToldF:=[qhe F,qhf F]
theorem zcv(F:Nat):q02 pp (zcu F):=⟨z1m F,z1n F,trivial⟩
def qp2(F:Nat):ToldF:=⟨56,1,[.row .u8 1 (.slot 0) false],[.ty (.L 64),.ty .I],u1 (qvm F)⟩
theorem zif(F:Nat):(qp2 F).ok pp:=
 okF q00 (zcv F) (fn:=Tryz.f56) [] (by kernel_rfl) aN fun d=>by kernel_rfl
def zig(F:Nat):List ToldF:=[z1a F,qhe F]
theorem zih(F:Nat):q02 pp (zig F):=⟨zu9 F,z1m F,trivial⟩
def qhg(F:Nat):ToldF:=⟨119,2,[.row .u8 1 (.slot 0) false,.slot 1 (.bool)],[.ty (.agg [.bool,.bool,.L 3,.L 3,.L 2,.L 16])],u2 (qqd F)⟩
theorem z1o(F:Nat):(qhg F).ok pp:=
 okF q00 (zih F) (fn:=Tryz.f119) [] (by kernel_rfl) aN fun d=>by kernel_rfl
def zm7(F:Nat):List ToldF:=[qao F,qhg F]
theorem zm8(F:Nat):q02 pp (zm7 F):=⟨qmu F,z1o F,trivial⟩
def qxw(F:Nat):ToldF:=⟨116,2,[.row .u8 1 (.slot 0) false,.slot 1 (.bool)],[.ty .I],u2 (znn F)⟩
theorem zqk(F:Nat):(qxw F).ok pp:=
 okF q00 (zm8 F) (fn:=Tryz.f116) [] (by kernel_rfl) aN fun d=>by kernel_rfl
def zql(F:Nat):List ToldF:=[q63 F]
theorem zqm(F:Nat):q02 pp (zql F):=⟨qbl F,trivial⟩
def qmx(F:Nat):ToldF:=⟨179,3,[.row .u8 1 (.slot 0) false,.slot 1 .I,.slot 2 .I],[.ty .I],u3 (q3u F)⟩
theorem za3(F:Nat):(qmx F).ok pp:=
 okF q00 (zqm F) (fn:=Tryz.f179) [] (by kernel_rfl) aN fun d=>by kernel_rfl
def zm9(F:Nat):List ToldF:=[q63 F]
theorem z1p(F:Nat):q02 pp (zm9 F):=⟨qbl F,trivial⟩
def z1q(F:Nat):TL:=⟨23,[.row .u8 1 (.slot 0) false,.row .i64 1 (.slot 1) false,.slot 5 .I,.slot 6 .I],[.slot 5 .I],0,fun k=>u4 (qia F k),fun k=>u4 (z0e F (qia F k))⟩
theorem zma(F:Nat):(z1q F).ok pp Tryz.f188 F:=
 okL q00 (z1p F) [] aN (fun _=>rfl) (fun _ _=>rfl) fun k d=>by kernel_rfl
def qka(F:Nat):ToldF:=⟨188,2,[.row .u8 1 (.slot 0) false,.row .i64 1 (.slot 1) false],[.ty .I],u2 (q9d F)⟩
theorem z52(F:Nat):(qka F).ok pp:=
 okF q00 (z1p F) (fn:=Tryz.f188) [(0,(z1q F).ann F)] (by kernel_rfl) (aL (by kernel_rfl) (zma F) aN) fun d=>by kernel_rfl
def zmb(F:Nat):List ToldF:=[q4r F]
theorem zmc(F:Nat):q02 pp (zmb F):=⟨q9o F,trivial⟩
def qxx(F:Nat):ToldF:=⟨190,1,[.slot 0 (.L 3)],[.ty (.L 4)],u1 (qz0 F)⟩
theorem zqn(F:Nat):(qxx F).ok pp:=
 okF q00 (zmc F) (fn:=Tryz.f190) [] (by kernel_rfl) aN fun d=>by kernel_rfl
def zii(F:Nat):List ToldF:=[qa4 F,qap F]
theorem qkb(F:Nat):q02 pp (zii F):=⟨qls F,qmv F,trivial⟩
def qkc(F:Nat):TL:=⟨58,[.segs [.hole (.L 4)] (.slot 3) true,.ptr 3 1 4,.segs [.hole (.L 4)] (.slot 4) true,.ptr 4 2 4,.segs [.hole (.L 4)] (.slot 5) true,.ptr 5 3 4,.segs [.hole (.L 64)] (.slot 6) true,.ptr 6 4 64,.segs [.hole (.L 64)] (.slot 7) true,.ptr 7 5 64,.slot 8 .I,.slot 9 .I],[.segs [.hole (.L 4)] (.slot 3) true,.ptr 3 1 4,.segs [.hole (.L 4)] (.slot 4) true,.ptr 4 2 4,.segs [.hole (.L 4)] (.slot 5) true,.ptr 5 3 4,.segs [.hole (.L 64)] (.slot 6) true,.ptr 6 4 64,.segs [.hole (.L 64)] (.slot 7) true,.ptr 7 5 64,.slot 8 .I],2,fun k=>u7 (qfa F k),fun k=>u7 (qvp F (qfa F k))⟩
theorem qxy(F:Nat):(qkc F).ok pp Tryz.f189 F:=
 okL q00 (qkb F) [] aN (fun _=>rfl) (fun _ _=>rfl) fun k d=>by kernel_rfl
def qxz(F:Nat):TL:=⟨58,[.segs [.hole (.L 4)] (.slot 3) true,.ptr 3 1 4,.segs [.hole (.L 4)] (.slot 4) true,.ptr 4 2 4,.segs [.hole (.L 4)] (.slot 5) true,.ptr 5 3 4,.segs [.hole (.L 64)] (.slot 6) true,.ptr 6 4 64,.segs [.hole (.L 64)] (.slot 7) true,.ptr 7 5 64,.slot 8 .I],[.segs [.hole (.L 64)] (.slot 6) true,.ptr 6 1 64,.segs [.hole (.L 64)] (.slot 7) true,.ptr 7 2 64],0,fun k=>u6 (qfb F k),fun k=>u6 (qvq F (qfb F k))⟩
theorem zij(F:Nat):(qxz F).ok pp Tryz.f189 F:=
 okL q00 (qkb F) [(2,(qkc F).ann F)] (aL (by kernel_rfl) (qxy F) aN) (fun _=>rfl) (fun _ _=>rfl) fun k d=>by kernel_rfl
def qtn(F:Nat):ToldF:=⟨189,3,[.slot 0 (.L 4),.slot 1 (.L 4),.slot 2 (.L 4)],[.ty (.L 64)],u3 (zfl F)⟩
theorem zmd(F:Nat):(qtn F).ok pp:=
 okF q00 (qkb F) (fn:=Tryz.f189) [(2,(qkc F).ann F),(0,(qxz F).ann F)] (by kernel_rfl) (aL (by kernel_rfl) (qxy F) (aL (by kernel_rfl) (zij F) aN)) fun d=>by kernel_rfl
def zcw(F:Nat):List ToldF:=[qmx F,qka F,qxx F,qtn F]
theorem zcx(F:Nat):q02 pp (zcw F):=⟨za3 F,z52 F,zqn F,zmd F,trivial⟩
def qp3(F:Nat):ToldF:=⟨117,1,[.row .u8 1 (.slot 0) false],[.ty (.L 64)],u1 (z9q F)⟩
theorem zik(F:Nat):(qp3 F).ok pp:=
 okF q00 (zcx F) (fn:=Tryz.f117) [] (by kernel_rfl) aN fun d=>by kernel_rfl
def zcy(F:Nat):List ToldF:=[q4r F]
theorem zcz(F:Nat):q02 pp (zcy F):=⟨q9o F,trivial⟩
def qp4(F:Nat):ToldF:=⟨191,1,[.slot 0 (.L 3)],[.ty (.L 4)],u1 (q3e F)⟩
theorem zil(F:Nat):(qp4 F).ok pp:=
 okF q00 (zcz F) (fn:=Tryz.f191) [] (by kernel_rfl) aN fun d=>by kernel_rfl
def qkd(F:Nat):ToldF:=⟨192,1,[.slot 0 .I],[.ty .I],u1 (qfc F)⟩
theorem z8a(F:Nat):(qkd F).ok pp:=
 okF q00 (zox F) (fn:=Tryz.f192) [] (by kernel_rfl) aN fun d=>by kernel_rfl
def qp5(F:Nat):ToldF:=⟨193,1,[.slot 0 (.L 3)],[.ty .I],u1 (qvr F)⟩
theorem zim(F:Nat):(qp5 F).ok pp:=
 okF q00 (zox F) (fn:=Tryz.f193) [] (by kernel_rfl) aN fun d=>by kernel_rfl
def zme(F:Nat):List ToldF:=[qmw F,qmx F,qka F,qp4 F,qkd F,qp5 F]
theorem zmf(F:Nat):q02 pp (zme F):=⟨za2 F,za3 F,z52 F,zil F,z8a F,zim F,trivial⟩
def qy0(F:Nat):ToldF:=⟨120,2,[.row .u8 1 (.slot 0) false,.slot 1 .I],[.ty (.L 16)],u2 (z6u F)⟩
theorem zqo(F:Nat):(qy0 F).ok pp:=
 okF q00 (zmf F) (fn:=Tryz.f120) [] (by kernel_rfl) aN fun d=>by kernel_rfl
def zd2(F:Nat):List ToldF:=[q63 F,qao F,qk9 F,qhf F,qhg F,qxw F,qp3 F,qy0 F]
theorem qto(F:Nat):q02 pp (zd2 F):=⟨qbl F,qmu F,z4z F,z1n F,z1o F,zqk F,zik F,zqo F,trivial⟩
def qtp(F:Nat):TL:=⟨91,[.row .u8 1 (.slot 0) false,.segs [.hole (.L 64)] (.slot 4) true,.ptr 4 2 64,.slot 6 .I,.slot 7 (.bool),.segs [.hole (.bool),.hole (.bool),.hole (.L 3),.hole (.L 3),.hole (.L 2),.hole (.L 16)] (.slot 8) true,.ptr 8 3 26,.segs [.hole (.L 64)] (.slot 9) true,.ptr 9 4 64,.segs [.hole (.L 8)] (.slot 10) true,.ptr 10 5 8,.slot 12 .I],[.segs [.hole (.L 64)] (.slot 4) true,.ptr 4 1 64,.segs [.hole (.L 64)] (.slot 9) true,.ptr 9 2 64],0,fun k=>u13 (q8h F k),fun k=>u13 (qrz F (q8h F k))⟩
theorem zd3(F:Nat):(qtp F).ok pp Tryz.f57 F:=
 okL q00 (qto F) [] aN (fun _=>rfl) (fun _ _=>rfl) fun k d=>by kernel_rfl
def qp6(F:Nat):ToldF:=⟨57,2,[.row .u8 1 (.slot 0) false,.slot 1 (.bool)],[.ty (.L 64),.ty .I],u2 (q8i F)⟩
theorem zin(F:Nat):(qp6 F).ok pp:=
 okF q00 (qto F) (fn:=Tryz.f57) [(0,(qtp F).ann F)] (by kernel_rfl) (aL (by kernel_rfl) (zd3 F) aN) fun d=>by kernel_rfl
def zio(F:Nat):List ToldF:=[q63 F]
theorem qy1(F:Nat):q02 pp (zio F):=⟨qbl F,trivial⟩
def qy2(F:Nat):TL:=⟨37,[.row .u8 1 (.slot 0) false,.segs [.hole (.L 16)] (.slot 5) true,.ptr 5 2 16,.segs [.hole (.L 16)] (.slot 7) true,.ptr 7 3 16,.slot 8 .I],[.row .u8 1 (.slot 0) false,.segs [.hole (.L 16)] (.slot 5) true,.ptr 5 2 16,.segs [.hole (.L 16)] (.slot 7) true,.ptr 7 3 16],0,fun k=>u4 (qfh F k),fun k=>u4 (qvv F (qfh F k))⟩
theorem ziq(F:Nat):(qy2 F).ok pp Tryz.f121 F:=
 okL q00 (qy1 F) [] aN (fun _=>rfl) (fun _ _=>rfl) fun k d=>by kernel_rfl
def qtq(F:Nat):ToldF:=⟨121,1,[.row .u8 1 (.slot 0) false],[.ty .I,.ty .I,.ty .I,.ty (.L 16),.ty .I],u1 (zfp F)⟩
theorem zmg(F:Nat):(qtq F).ok pp:=
 okF q00 (qy1 F) (fn:=Tryz.f121) [(0,(qy2 F).ann F)] (by kernel_rfl) (aL (by kernel_rfl) (ziq F) aN) fun d=>by kernel_rfl
def qtr(F:Nat):ToldF:=⟨123,1,[.slot 0 .I],[.ty (.L 8)],u1 (zfq F)⟩
theorem zmh(F:Nat):(qtr F).ok pp:=
 okF q00 (zox F) (fn:=Tryz.f123) [] (by kernel_rfl) aN fun d=>by kernel_rfl
def zit(F:Nat):List ToldF:=[qap F]
theorem ziu(F:Nat):q02 pp (zit F):=⟨qmv F,trivial⟩
def qts(F:Nat):ToldF:=⟨122,4,[.slot 0 .I,.slot 1 .I,.slot 2 .I,.slot 3 (.bool)],[.ty .I],u4 (zfr F)⟩
theorem zmi(F:Nat):(qts F).ok pp:=
 okF q00 (ziu F) (fn:=Tryz.f122) [] (by kernel_rfl) aN fun d=>by kernel_rfl
def zd4(F:Nat):List ToldF:=[qtq F,qtr F,qts F]
theorem qtt(F:Nat):q02 pp (zd4 F):=⟨zmg F,zmh F,zmi F,trivial⟩
def qtu(F:Nat):TL:=⟨41,[.slot 1 (.bool),.segs [.hole (.L 16)] (.slot 4) true,.ptr 4 1 16,.slot 6 .I,.slot 7 .I,.slot 8 .I,.segs [.hole (.L 16)] (.slot 9) true,.ptr 9 2 16,.slot 11 .I],[.segs [.hole (.L 16)] (.slot 4) true,.ptr 4 1 16,.segs [.hole (.L 16)] (.slot 9) true,.ptr 9 2 16],0,fun k=>u7 (qcp F k),fun k=>u7 (qs1 F (qcp F k))⟩
theorem zd5(F:Nat):(qtu F).ok pp Tryz.f58 F:=
 okL q00 (qtt F) [] aN (fun _=>rfl) (fun _ _=>rfl) fun k d=>by kernel_rfl
def qp7(F:Nat):ToldF:=⟨58,2,[.row .u8 1 (.slot 0) false,.slot 1 (.bool)],[.ty (.L 16),.ty .I],u2 (q8m F)⟩
theorem ziv(F:Nat):(qp7 F).ok pp:=
 okF q00 (qtt F) (fn:=Tryz.f58) [(0,(qtu F).ann F)] (by kernel_rfl) (aL (by kernel_rfl) (zd5 F) aN) fun d=>by kernel_rfl
def zd6(F:Nat):List ToldF:=[qim F,qop F,qor F,qtc F,qxi F,qtd F,qp1 F,qp2 F,qp6 F,qp7 F]
theorem zd7(F:Nat):q02 pp (zd6 F):=⟨z2x F,zho F,zhs F,zlt F,zq7 F,zlw F,zi2 F,zif F,zin F,ziv F,trivial⟩
def qp8(F:Nat):ToldF:=⟨20,2,[.slot 0 .I,.row .u8 1 (.slot 1) false],[.ty (.L 64),.ty .I],u2 (ql8 F)⟩
theorem ziw(F:Nat):(qp8 F).ok pp:=
 okF q00 (zd7 F) (fn:=Tryz.f20) [] (by kernel_rfl) aN fun d=>by kernel_rfl
def zix(F:Nat):List ToldF:=[qhb F,qfp F,z19 F]
theorem qke(F:Nat):q02 pp (zix F):=⟨z16 F,qx6 F,zu8 F,trivial⟩
def qkf(F:Nat):TL:=⟨40,[.slot 2 .I,.segs [.hole (.L 64)] (.slot 3) true,.ptr 3 1 64,.segs [.hole (.L 64)] (.slot 4) true,.ptr 4 2 64,.slot 7 .I,.slot 8 .I,.slot 9 .I],[.slot 2 .I,.segs [.hole (.L 64)] (.slot 3) true,.ptr 3 1 64,.segs [.hole (.L 64)] (.slot 4) true,.ptr 4 2 64,.slot 7 .I,.slot 8 .I],2,fun k=>u6 (q7r F k),fun k=>u6 (qcq F (q7r F k))⟩
theorem qy3(F:Nat):(qkf F).ok pp Tryz.f34 F:=
 okL q00 (qke F) [] aN (fun _=>rfl) (fun _ _=>rfl) fun k d=>by kernel_rfl
def qy4(F:Nat):TL:=⟨40,[.slot 2 .I,.segs [.hole (.L 64)] (.slot 3) true,.ptr 3 1 64,.segs [.hole (.L 64)] (.slot 4) true,.ptr 4 2 64,.slot 7 .I,.slot 8 .I],[.slot 7 .I],0,fun k=>u5 (q7s F k),fun k=>u5 (qcr F (q7s F k))⟩
theorem ziy(F:Nat):(qy4 F).ok pp Tryz.f34 F:=
 okL q00 (qke F) [(2,(qkf F).ann F)] (aL (by kernel_rfl) (qy3 F) aN) (fun _=>rfl) (fun _ _=>rfl) fun k d=>by kernel_rfl
def qtv(F:Nat):ToldF:=⟨34,3,[.slot 0 (.L 64),.slot 1 (.L 64),.slot 2 .I],[.ty .I],u3 (z2g F)⟩
theorem zmj(F:Nat):(qtv F).ok pp:=
 okF q00 (qke F) (fn:=Tryz.f34) [(2,(qkf F).ann F),(0,(qy4 F).ann F)] (by kernel_rfl) (aL (by kernel_rfl) (qy3 F) (aL (by kernel_rfl) (ziy F) aN)) fun d=>by kernel_rfl
def ziz(F:Nat):List ToldF:=[qim F,qt4 F,qp8 F,qtv F]
theorem zj0(F:Nat):q02 pp (ziz F):=⟨z2x F,zli F,ziw F,zmj F,trivial⟩
def qtw(F:Nat):ToldF:=⟨14,3,[.slot 0 .I,.row .u8 1 (.slot 1) false,.slot 2 (.L 64)],[.ty .I,.ty .I],u3 (qqk F)⟩
theorem zmk(F:Nat):(qtw F).ok pp:=
 okF q00 (zj0 F) (fn:=Tryz.f14) [] (by kernel_rfl) aN fun d=>by kernel_rfl
def z8b(F:Nat):List ToldF:=[q2j F,q9l F]
theorem z8c(F:Nat):q02 pp (z8b F):=⟨q5v F,qjo F,trivial⟩
def qlw(F:Nat):ToldF:=⟨155,3,[.slot 0 .I,.segs [.J] (.slot 1) false,.ptr 1 1 1,.segs [.J] (.slot 2) false,.ptr 2 2 1],[.ty .I],u3 (q90 F)⟩
theorem zd8(F:Nat):(qlw F).ok pp:=
 okF q00 (z8c F) (fn:=Tryz.f155) [] (by kernel_rfl) aN fun d=>by kernel_rfl
def qr4(F:Nat):List ToldF:=[qlw F]
theorem qdc(F:Nat):q02 pp (qr4 F):=⟨zd8 F,trivial⟩
def qdd(F:Nat):TL:=⟨27,[.segs [.J] (.cap (.slot 1) 0) false,.segs [.J] (.cap (.slot 1) 1) false,.fn 1 155 [.ptr 1 1,.ptr 2 1],.slot 5 .I,.slot 6 .I,.slot 9 .I,.slot 10 .I],[.slot 5 .I],0,fun k=>u6 (q0w F k),fun k=>u6 (q2f F (q0w F k))⟩
theorem qr5(F:Nat):(qdd F).ok pp Tryz.f154 F:=
 okL q00 (qdc F) [] aN (fun _=>rfl) (fun _ _=>rfl) fun k d=>by kernel_rfl
def qbm(F:Nat):ToldF:=⟨154,2,[.slot 0 .I,.segs [.J] (.cap (.slot 1) 0) false,.segs [.J] (.cap (.slot 1) 1) false,.fn 1 155 [.ptr 1 1,.ptr 2 1]],[.ty .I],u3 (qav F)⟩
theorem qui(F:Nat):(qbm F).ok pp:=
 okF q00 (qdc F) (fn:=Tryz.f154) [(0,(qdd F).ann F)] (by kernel_rfl) (aL (by kernel_rfl) (qr5 F) aN) fun d=>by kernel_rfl
def zml(F:Nat):List ToldF:=[qmn F,qbm F]
theorem zmm(F:Nat):q02 pp (zml F):=⟨z9t F,qui F,trivial⟩
def qkg(F:Nat):ToldF:=⟨77,2,[.slot 0 .I,.slot 1 .I],[.ty .I],u2 (q7i F)⟩
theorem z55(F:Nat):(qkg F).ok pp:=
 okF q00 (zmm F) (fn:=Tryz.f77) [] (by kernel_rfl) aN fun d=>by kernel_rfl
def z57(F:Nat):TL:=⟨26,[.slot 2 .I,.segs [.hole (.L 4)] (.slot 3) true,.ptr 3 1 4,.segs [.hole (.L 4)] (.slot 4) true,.ptr 4 2 4,.segs [.hole (.L 64)] (.slot 6) true,.ptr 6 3 64,.segs [.hole (.L 64)] (.slot 7) true,.ptr 7 4 64,.slot 8 .I],[.segs [.hole (.L 64)] (.slot 6) true,.ptr 6 1 64,.segs [.hole (.L 64)] (.slot 7) true,.ptr 7 2 64],0,fun k=>u6 (q8n F k),fun k=>u6 (qie F (q8n F k))⟩
theorem zqq(F:Nat):(z57 F).ok pp Tryz.f24 F:=
 okL q00 (zox F) [] aN (fun _=>rfl) (fun _ _=>rfl) fun k d=>by kernel_rfl
def qmy(F:Nat):ToldF:=⟨24,3,[.slot 0 (.L 4),.slot 1 (.L 4),.slot 2 .I],[.ty (.L 64)],u3 (qg8 F)⟩
theorem za4(F:Nat):(qmy F).ok pp:=
 okF q00 (zox F) (fn:=Tryz.f24) [(0,(z57 F).ann F)] (by kernel_rfl) (aL (by kernel_rfl) (zqq F) aN) fun d=>by kernel_rfl
theorem z8d(F:Nat):zyz pp 234 j3m okTT 1 [.segs [.hole (.is .i64 64)] (.slot 0) true,.ptr 0 1 64] (u1 (qfi F)):=
 zwz q00 (zf5 q00 (zox F)) (z3i (zox F)) (fn:=Tryz.f234) (c:=(qdu Tryz.f234)) (by kernel_rfl) (by kernel_rfl) decTT_ok (fun d=>rfl) (fun d=>rfl) (fun l d=>by kernel_rfl)
def z5a(F:Nat):TL:=⟨32,[.segs [.hole (.L 4)] (.slot 3) true,.ptr 3 1 4,.segs [.hole (.L 4)] (.slot 4) true,.ptr 4 2 4,.slot 7 .I,.slot 9 .I,.slot 10 .I],[.slot 7 .I],0,fun k=>u5 (q8o F k),fun k=>u5 (q9h F (q8o F k))⟩
theorem zqs(F:Nat):(z5a F).ok pp Tryz.f197 F:=
 okL q00 (zox F) [] aN (fun _=>rfl) (fun _ _=>rfl) fun k d=>by kernel_rfl
def qfs(F:Nat):ToldF:=⟨197,3,[.slot 0 (.L 4),.slot 1 (.L 4),.slot 2 .I],[.ty .I],u3 (qjl F)⟩
theorem qy5(F:Nat):(qfs F).ok pp:=
 okF q00 (zox F) (fn:=Tryz.f197) [(0,(z5a F).ann F)] (by kernel_rfl) (aL (by kernel_rfl) (zqs F) aN) fun d=>by kernel_rfl
def zd9(F:Nat):List ToldF:=[qfs F]
theorem qtx(F:Nat):q02 pp (zd9 F):=⟨qy5 F,trivial⟩
def qen(F:Nat):ToldF:=⟨126,2,[.slot 0 (.L 64),.slot 1 .I],[.ty (.L 4),.ty (.L 4)],u2 (q6q F)⟩
theorem qy6(F:Nat):(qen F).ok pp:=
 zth q00 (zf5 q00 (qtx F)) (z3i (qtx F)) (fn:=Tryz.f126) (gfn:=Tryz.f234) (c:=(qdu Tryz.f126)) (by kernel_rfl) (by kernel_rfl) (j3q (k:=3) (out:=0) (g:=15) (by kernel_rfl)) (by kernel_rfl) (by kernel_rfl) (fun x=>by kernel_rfl) j3o (z8d F) (by kernel_rfl) (by kernel_rfl) (nt:=31) (its:=[.segs [.hole (.int .i64)] (.slot 3) true,.ptr 3 1 1,.segs [.hole (.is .i64 4)] (.slot 4) true,.ptr 4 2 4,.segs [.hole (.is .i64 4)] (.slot 5) true,.ptr 5 3 4,.segs [.hole (.is .i64 4)] (.slot 6) true,.ptr 6 4 4,.segs [.hole (.is .i64 4)] (.slot 7) true,.ptr 7 5 4]) (outX:=[]) (eX:= .normal) (step:=fun x=>u5 (q7t F x)) (fun x d=>by kernel_rfl) (fun d=>by kernel_rfl) (fun d=>by kernel_rfl)
def zmn(F:Nat):List ToldF:=[qkg F]
theorem zmo(F:Nat):q02 pp (zmn F):=⟨z55 F,trivial⟩
def qy7(F:Nat):ToldF:=⟨127,1,[.slot 0 (.L 4)],[.ty .I],u1 (qiw F)⟩
theorem zqt(F:Nat):(qy7 F).ok pp:=
 okF q00 (zmo F) (fn:=Tryz.f127) [] (by kernel_rfl) aN fun d=>by kernel_rfl
def zda(F:Nat):List ToldF:=[qfs F]
theorem zdb(F:Nat):q02 pp (zda F):=⟨qy5 F,trivial⟩
def qp9(F:Nat):ToldF:=⟨196,2,[.slot 0 (.L 4),.segs [.hole (.L 4)] (.slot 1) false,.ptr 1 1 4],[.ty .I],u2 (qg9 F)⟩
theorem zj1(F:Nat):(qp9 F).ok pp:=
 okF q00 (zdb F) (fn:=Tryz.f196) [] (by kernel_rfl) aN fun d=>by kernel_rfl
def qbp(F:Nat):List ToldF:=[qp9 F]
theorem q57(F:Nat):q02 pp (qbp F):=⟨zj1 F,trivial⟩
def q58(F:Nat):TL:=⟨28,[.row .i64 4 (.slot 0) false,.segs [.hole (.L 4)] (.cap (.slot 1) 0) false,.fn 1 196 [.ptr 2 4],.slot 5 .I,.sl 8 1 4 .whole,.slot 9 .I,.slot 10 .I],[.slot 5 .I],0,fun k=>u5 (q0b F k),fun k=>u5 (q0m F (q0b F k))⟩
theorem qbq(F:Nat):(q58 F).ok pp Tryz.f195 F:=
 okL q00 (q57 F) [] aN (fun _=>rfl) (fun _ _=>rfl) fun k d=>by kernel_rfl
def q4s(F:Nat):ToldF:=⟨195,2,[.row .i64 4 (.slot 0) false,.segs [.hole (.L 4)] (.cap (.slot 1) 0) false,.fn 1 196 [.ptr 2 4]],[.ty .I],u2 (q22 F)⟩
theorem qde(F:Nat):(q4s F).ok pp:=
 okF q00 (q57 F) (fn:=Tryz.f195) [(0,(q58 F).ann F)] (by kernel_rfl) (aL (by kernel_rfl) (qbq F) aN) fun d=>by kernel_rfl
def zqu(F:Nat):List ToldF:=[qjq F,qd2 F,q4s F]
theorem z5b(F:Nat):q02 pp (zqu F):=⟨z3y F,qsb F,qde F,trivial⟩
def z5c(F:Nat):TL:=⟨38,[.slot 1 .I,.slot 2 .I,.segs [.hole (.L 16)] (.slot 9) true,.ptr 9 1 16,.segs [.hole (.L 16)] (.slot 10) true,.ptr 10 2 16,.slot 19 (.L 64),.slot 20 .I],[.slot 1 .I,.slot 2 .I,.segs [.hole (.L 16)] (.slot 10) true,.ptr 10 1 16],0,fun k=>u6 (q8p F k),fun k=>u6 (qif F (q8p F k))⟩
theorem zqv(F:Nat):(z5c F).ok pp Tryz.f125 F:=
 okL q00 (z5b F) [] aN (fun _=>rfl) (fun _ _=>rfl) fun k d=>by kernel_rfl
def z1r(F:Nat):ToldF:=⟨125,4,[.slot 0 (.L 64),.slot 1 .I,.slot 2 .I,.slot 3 (.bool)],[.row .u8 1],u4 (qns F)⟩
theorem zuf(F:Nat):(z1r F).ok pp:=
 okF q00 (z5b F) (fn:=Tryz.f125) [(0,(z5c F).ann F)] (by kernel_rfl) (aL (by kernel_rfl) (zqv F) aN) fun d=>by kernel_rfl
def qy8(F:Nat):List ToldF:=[q6l F]
theorem qy9(F:Nat):q02 pp (qy8 F):=⟨qd7 F,trivial⟩
def q55(F:Nat):ToldF:=⟨63,2,[.row .u8 1 (.cell (.slot 0) 65) false,.segs [.J,.hole (.L 64),.sl 1 1 .whole,.J] (.slot 0) true (some 1),.ptr 0 2 67,.row .u8 1 (.slot 1) false],[.ty (.bool),.psegs 1 [.J,.hole (.L 64),.row .u8 1 false,.J]],u5 (q0o F)⟩
theorem q9u(F:Nat):(q55 F).ok pp:=
 okF q00 (qy9 F) (fn:=Tryz.f63) [] (by kernel_rfl) aN fun d=>by kernel_rfl
def qkp(F:Nat):List ToldF:=[z1r F,q55 F]
theorem qkq(F:Nat):q02 pp (qkp F):=⟨zuf F,q9u F,trivial⟩
def q8w(F:Nat):ToldF:=⟨124,6,[.slot 0 .I,.slot 1 .I,.row .u8 1 (.cell (.cell (.slot 2) 0) 65) false,.segs [.J,.hole (.L 64),.sl 1 1 .whole,.J] (.cell (.slot 2) 0) true (some 1),.segs [.ptr 2 67] (.slot 2) false,.ptr 2 3 1,.row .u8 1 (.cell (.slot 3) 0) false,.segs [.sl 4 1 .whole] (.slot 3) false,.ptr 3 5 1,.segs [.hole (.L 64)] (.slot 4) false,.ptr 4 6 64,.segs [.hole (.bool)] (.slot 5) false,.ptr 5 7 1],[.ty (.bool),.psegs 1 [.J,.hole (.L 64),.row .u8 1 false,.J]],u9 (q0f F)⟩
theorem qmz(F:Nat):(q8w F).ok pp:=
 okF q00 (qkq F) (fn:=Tryz.f124) [] (by kernel_rfl) aN fun d=>by kernel_rfl
def qty(F:Nat):ToldF:=⟨128,0,[],[.ty (.L 6)],u0 (z2h F)⟩
theorem zmp(F:Nat):(qty F).ok pp:=
 okF q00 (zox F) (fn:=Tryz.f128) [] (by kernel_rfl) aN fun d=>by kernel_rfl
def qr6(F:Nat):List ToldF:=[qen F,qy7 F,q8w F,qty F]
theorem q76(F:Nat):q02 pp (qr6 F):=⟨qy6 F,zqt F,qmz F,zmp F,trivial⟩
def q77(F:Nat):TL:=⟨81,[.row .u8 1 (.cell (.slot 0) 65) false,.segs [.J,.hole (.L 64),.sl 1 1 .whole,.J] (.slot 0) true (some 1),.ptr 0 2 67,.slot 4 .I,.segs [.ptr 2 67] (.cap (.slot 10) 0) false,.row .u8 1 (.cell (.cap (.slot 10) 1) 0) false,.segs [.sl 4 1 .whole] (.cap (.slot 10) 1) false,.segs [.hole (.L 64)] (.cap (.slot 10) 2) false,.segs [.hole (.bool)] (.cap (.slot 10) 3) false,.fn 10 124 [.ptr 3 1,.ptr 5 1,.ptr 6 64,.ptr 7 1],.slot 13 .I,.slot 14 .I,.slot 15 .I,.slot 37 .I,.slot 38 (.bool),.slot 42 (.L 6),.slot 43 .I],[.row .u8 1 (.cell (.slot 0) 65) false,.segs [.J,.hole (.L 64),.sl 1 1 .whole,.J] (.slot 0) true (some 1),.ptr 0 2 67,.slot 4 .I,.segs [.ptr 2 67] (.cap (.slot 10) 0) false,.row .u8 1 (.cell (.cap (.slot 10) 1) 0) false,.segs [.sl 4 1 .whole] (.cap (.slot 10) 1) false,.segs [.hole (.L 64)] (.cap (.slot 10) 2) false,.segs [.hole (.bool)] (.cap (.slot 10) 3) false,.fn 10 124 [.ptr 3 1,.ptr 5 1,.ptr 6 64,.ptr 7 1],.slot 13 .I,.slot 14 .I,.slot 15 .I,.slot 37 .I,.slot 38 (.bool)],2,fun k=>u15 (q0a F k),fun k=>u15 (q3x F (q0a F k))⟩
theorem qdf(F:Nat):(q77 F).ok pp Tryz.f60 F:=
 okL q00 (q76 F) [] aN (fun _=>rfl) (fun _ _=>rfl) fun k d=>by kernel_rfl
def qdg(F:Nat):TL:=⟨81,[.row .u8 1 (.cell (.slot 0) 65) false,.segs [.J,.hole (.L 64),.sl 1 1 .whole,.J] (.slot 0) true (some 1),.ptr 0 2 67,.slot 4 .I,.segs [.ptr 2 67] (.cap (.slot 10) 0) false,.row .u8 1 (.cell (.cap (.slot 10) 1) 0) false,.segs [.sl 4 1 .whole] (.cap (.slot 10) 1) false,.segs [.hole (.L 64)] (.cap (.slot 10) 2) false,.segs [.hole (.bool)] (.cap (.slot 10) 3) false,.fn 10 124 [.ptr 3 1,.ptr 5 1,.ptr 6 64,.ptr 7 1],.slot 13 .I,.slot 14 .I,.slot 15 .I],[.row .u8 1 (.cell (.slot 0) 65) false,.segs [.J,.hole (.L 64),.sl 1 1 .whole,.J] (.slot 0) true (some 1),.ptr 0 2 67],0,fun k=>u11 (q0y F k),fun k=>u11 (q1y F (q0y F k))⟩
theorem qr7(F:Nat):(qdg F).ok pp Tryz.f60 F:=
 okL q00 (q76 F) [(2,(q77 F).ann F)] (aL (by kernel_rfl) (qdf F) aN) (fun _=>rfl) (fun _ _=>rfl) fun k d=>by kernel_rfl
def qbn(F:Nat):ToldF:=⟨60,5,[.row .u8 1 (.cell (.slot 0) 65) false,.segs [.J,.hole (.L 64),.sl 1 1 .whole,.J] (.slot 0) true (some 1),.ptr 0 2 67,.slot 1 (.L 64),.row .u8 1 (.slot 2) false,.slot 3 (.bool),.slot 4 .I],[.psegs 1 [.J,.hole (.L 64),.row .u8 1 false,.J]],u8 (q1a F)⟩
theorem quj(F:Nat):(qbn F).ok pp:=
 okF q00 (q76 F) (fn:=Tryz.f60) [(2,(q77 F).ann F),(0,(qdg F).ann F)] (by kernel_rfl) (aL (by kernel_rfl) (qdf F) (aL (by kernel_rfl) (qr7 F) aN)) fun d=>by kernel_rfl
def zj4(F:Nat):List ToldF:=[q8u F,qkg F]
theorem qya(F:Nat):q02 pp (zj4 F):=⟨qjp F,z55 F,trivial⟩
def qyb(F:Nat):TL:=⟨25,[.segs [.hole (.L 16)] (.slot 3) true,.ptr 3 1 16,.slot 8 (.L 64),.slot 9 .I],[.segs [.hole (.L 16)] (.slot 3) true,.ptr 3 1 16],0,fun k=>u3 (q62 F k),fun k=>u3 (qcs F (q62 F k))⟩
theorem zj5(F:Nat):(qyb F).ok pp Tryz.f61 F:=
 okL q00 (qya F) [] aN (fun _=>rfl) (fun _ _=>rfl) fun k d=>by kernel_rfl
def qtz(F:Nat):ToldF:=⟨61,1,[.slot 0 (.L 64)],[.row .u8 1],u1 (qjm F)⟩
theorem zmq(F:Nat):(qtz F).ok pp:=
 okF q00 (qya F) (fn:=Tryz.f61) [(0,(qyb F).ann F)] (by kernel_rfl) (aL (by kernel_rfl) (zj5 F) aN) fun d=>by kernel_rfl
def z8e(F:Nat):List ToldF:=[qdb F]
theorem qpa(F:Nat):q02 pp (z8e F):=⟨qr3 F,trivial⟩
def qpb(F:Nat):TL:=⟨31,[.slot 1 .I,.segs [.hole (.L 64)] (.slot 5) true,.ptr 5 1 64,.slot 10 (.L 64),.slot 11 .I],[.segs [.hole (.L 64)] (.slot 5) true,.ptr 5 1 64],0,fun k=>u4 (q3q F k),fun k=>u4 (q9i F (q3q F k))⟩
theorem z8f(F:Nat):(qpb F).ok pp Tryz.f135 F:=
 okL q00 (qpa F) [] aN (fun _=>rfl) (fun _ _=>rfl) fun k d=>by kernel_rfl
def qly(F:Nat):ToldF:=⟨135,2,[.slot 0 (.L 64),.slot 1 .I],[.ty .I],u2 (q9j F)⟩
theorem zdc(F:Nat):(qly F).ok pp:=
 okF q00 (qpa F) (fn:=Tryz.f135) [(0,(qpb F).ann F)] (by kernel_rfl) (aL (by kernel_rfl) (z8f F) aN) fun d=>by kernel_rfl
def qgl(F:Nat):ToldF:=⟨133,2,[.slot 0 .I,.segs [.J] (.slot 1) false,.ptr 1 1 1],[.ty .I],u2 (q7c F)⟩
theorem z2z(F:Nat):(qgl F).ok pp:=
 okF q00 (zox F) (fn:=Tryz.f133) [] (by kernel_rfl) aN fun d=>by kernel_rfl
def qdr(F:Nat):List ToldF:=[qgl F]
theorem q67(F:Nat):q02 pp (qdr F):=⟨z2z F,trivial⟩
def q68(F:Nat):TL:=⟨28,[.row .i64 1 (.slot 0) false,.segs [.J] (.cap (.slot 1) 0) false,.fn 1 133 [.ptr 2 1],.slot 5 .I,.sl 8 1 1 .whole,.slot 9 .I,.slot 10 .I],[.slot 5 .I],0,fun k=>u5 (q0i F k),fun k=>u5 (q0q F (q0i F k))⟩
theorem qds(F:Nat):(q68 F).ok pp Tryz.f132 F:=
 okL q00 (q67 F) [] aN (fun _=>rfl) (fun _ _=>rfl) fun k d=>by kernel_rfl
def q5x(F:Nat):ToldF:=⟨132,2,[.row .i64 1 (.slot 0) false,.segs [.J] (.cap (.slot 1) 0) false,.fn 1 133 [.ptr 2 1]],[.ty .I],u2 (q1g F)⟩
theorem qeo(F:Nat):(q5x F).ok pp:=
 okF q00 (q67 F) (fn:=Tryz.f132) [(0,(q68 F).ann F)] (by kernel_rfl) (aL (by kernel_rfl) (qds F) aN) fun d=>by kernel_rfl
def z8g(F:Nat):List ToldF:=[qgw F,q28 F,qh0 F,q5x F]
theorem qpc(F:Nat):q02 pp (z8g F):=⟨z0n F,q47 F,z0x F,qeo F,trivial⟩
def qpd(F:Nat):TL:=⟨62,[.slot 0 .I,.slot 1 .I,.segs [.J] (.slot 3) true (some 1),.ptr 3 1 1,.row .u8 1 (.cell (.slot 4) 0) true (some 2),.segs [.sl 2 1 .own] (.slot 4) true (some 3),.ptr 4 3 1,.segs [.hole (.L 8)] (.slot 7) true,.ptr 7 4 8,.segs [.hole (.L 16)] (.slot 8) true,.ptr 8 5 16,.slot 9 .I,.slot 19 (.L 16),.slot 20 .I],[.slot 0 .I,.slot 1 .I,.segs [.J] (.slot 3) true (some 1),.ptr 3 1 1,.row .u8 1 (.cell (.slot 4) 0) true (some 2),.segs [.sl 2 1 .own] (.slot 4) true (some 3),.ptr 4 3 1,.segs [.hole (.L 16)] (.slot 8) true,.ptr 8 4 16,.slot 9 .I],0,fun k=>u9 (q3r F k),fun k=>u9 (q9k F (q3r F k))⟩
theorem z8h(F:Nat):(qpd F).ok pp Tryz.f130 F:=
 okL q00 (qpc F) [] aN (fun _=>rfl) (fun _ _=>rfl) fun k d=>by kernel_rfl
def qlz(F:Nat):ToldF:=⟨130,5,[.slot 0 .I,.slot 1 .I,.segs [.hole (.L 16)] (.slot 2) false,.ptr 2 1 16,.segs [.J] (.slot 3) true (some 1),.ptr 3 2 1,.row .u8 1 (.cell (.slot 4) 0) true (some 2),.segs [.sl 3 1 .own] (.slot 4) true (some 3),.ptr 4 4 1],[.psegs 1 [.J],.psegs 3 [.row .u8 1 true]],u5 (q1b F)⟩
theorem zdd(F:Nat):(qlz F).ok pp:=
 okF q00 (qpc F) (fn:=Tryz.f130) [(0,(qpd F).ann F)] (by kernel_rfl) (aL (by kernel_rfl) (z8h F) aN) fun d=>by kernel_rfl
def zmr(F:Nat):List ToldF:=[qly F,qlz F]
theorem qn0(F:Nat):q02 pp (zmr F):=⟨zdc F,zdd F,trivial⟩
def z1s(F:Nat):TL:=⟨89,[.slot 1 .I,.slot 2 .I,.segs [.hole (.L 64)] (.slot 3) true,.ptr 3 1 64,.segs [.hole (.L 16)] (.slot 7) true,.ptr 7 2 16,.slot 8 .I,.slot 9 .I,.slot 17 (.L 64),.slot 18 .I],[.slot 1 .I,.slot 2 .I,.segs [.hole (.L 64)] (.slot 3) true,.ptr 3 1 64,.segs [.hole (.L 16)] (.slot 7) true,.ptr 7 2 16,.slot 8 .I,.slot 9 .I],0,fun k=>u8 (q71 F k),fun k=>u8 (qfj F (q71 F k))⟩
theorem zms(F:Nat):(z1s F).ok pp Tryz.f62 F:=
 okL q00 (qn0 F) [] aN (fun _=>rfl) (fun _ _=>rfl) fun k d=>by kernel_rfl
def z1t(F:Nat):TL:=⟨89,[.slot 8 .I,.slot 9 .I,.row .u8 1 (.cell (.slot 12) 0) true,.segs [.sl 1 1 .own] (.slot 12) true,.ptr 12 2 1,.segs [.hole (.L 16)] (.cap (.slot 14) 0) true,.segs [.J] (.cap (.slot 14) 1) true,.fn 14 130 [.ptr 3 16,.ptr 4 1,.ptr 2 1],.slot 16 .I],[.row .u8 1 (.cell (.slot 12) 0) true,.segs [.sl 1 1 .own] (.slot 12) true,.ptr 12 2 1],2,fun k=>u6 (q5t F k),fun k=>u6 (qfk F (q5t F k))⟩
theorem zmt(F:Nat):(z1t F).ok pp Tryz.f62 F:=
 okL q00 (qn0 F) [] aN (fun _=>rfl) (fun _ _=>rfl) fun k d=>by kernel_rfl
def qyc(F:Nat):ToldF:=⟨62,3,[.slot 0 (.L 64),.slot 1 .I,.slot 2 .I],[.row .u8 1],u3 (q5i F)⟩
theorem zqw(F:Nat):(qyc F).ok pp:=
 okF q00 (qn0 F) (fn:=Tryz.f62) [(0,(z1s F).ann F),(2,(z1t F).ann F)] (by kernel_rfl) (aL (by kernel_rfl) (zms F) (aL (by kernel_rfl) (zmt F) aN)) fun d=>by kernel_rfl
def zqx(F:Nat):List ToldF:=[q28 F]
theorem qr8(F:Nat):q02 pp (zqx F):=⟨q47 F,trivial⟩
def qr9(F:Nat):TL:=⟨57,[.segs [.hole (.L 4)] (.slot 1) true,.ptr 1 1 4,.segs [.hole (.L 4)] (.slot 2) true,.ptr 2 2 4,.segs [.hole (.L 8)] (.slot 4) true,.ptr 4 3 8,.segs [.hole (.L 2)] (.slot 5) true,.ptr 5 4 2,.slot 6 .I,.slot 10 .I,.slot 13 (.L 4),.slot 14 .I],[.segs [.hole (.L 4)] (.slot 1) true,.ptr 1 1 4,.segs [.hole (.L 4)] (.slot 2) true,.ptr 2 2 4,.segs [.hole (.L 8)] (.slot 4) true,.ptr 4 3 8,.segs [.hole (.L 2)] (.slot 5) true,.ptr 5 4 2,.slot 10 .I],2,fun k=>u8 (qbb F k),fun k=>u8 (qig F (qbb F k))⟩
theorem z5d(F:Nat):(qr9 F).ok pp Tryz.f136 F:=
 okL q00 (qr8 F) [] aN (fun _=>rfl) (fun _ _=>rfl) fun k d=>by kernel_rfl
def z5e(F:Nat):TL:=⟨57,[.segs [.hole (.L 4)] (.slot 1) true,.ptr 1 1 4,.segs [.hole (.L 4)] (.slot 2) true,.ptr 2 2 4,.segs [.hole (.L 8)] (.slot 4) true,.ptr 4 3 8,.segs [.hole (.L 2)] (.slot 5) true,.ptr 5 4 2,.slot 10 .I],[.segs [.hole (.L 4)] (.slot 2) true,.ptr 2 1 4,.segs [.hole (.L 8)] (.slot 4) true,.ptr 4 2 8,.segs [.hole (.L 2)] (.slot 5) true,.ptr 5 3 2],0,fun k=>u5 (q8q F k),fun k=>u5 (qih F (q8q F k))⟩
theorem zqy(F:Nat):(z5e F).ok pp Tryz.f136 F:=
 okL q00 (qr8 F) [(2,(qr9 F).ann F)] (aL (by kernel_rfl) (z5d F) aN) (fun _=>rfl) (fun _ _=>rfl) fun k d=>by kernel_rfl
def z1u(F:Nat):ToldF:=⟨136,1,[.slot 0 (.L 4)],[.ty (.L 4),.ty .I],u1 (qga F)⟩
theorem zug(F:Nat):(z1u F).ok pp:=
 okF q00 (qr8 F) (fn:=Tryz.f136) [(2,(qr9 F).ann F),(0,(z5e F).ann F)] (by kernel_rfl) (aL (by kernel_rfl) (z5d F) (aL (by kernel_rfl) (zqy F) aN)) fun d=>by kernel_rfl
def qhi(F:Nat):TL:=⟨35,[.segs [.hole (.L 2)] (.slot 3) true,.ptr 3 1 2,.segs [.hole (.L 8)] (.slot 4) true,.ptr 4 2 8,.segs [.hole (.L 8)] (.slot 5) true,.ptr 5 3 8,.slot 6 .I,.slot 10 (.L 8),.slot 11 .I,.slot 15 (.L 4),.slot 16 .I],[.segs [.hole (.L 2)] (.slot 3) true,.ptr 3 1 2,.segs [.hole (.L 8)] (.slot 4) true,.ptr 4 2 8,.segs [.hole (.L 8)] (.slot 5) true,.ptr 5 3 8,.slot 10 (.L 8),.slot 11 .I],2,fun k=>u8 (q3c F k),fun k=>u8 (qag F (q3c F k))⟩
theorem qu0(F:Nat):(qhi F).ok pp Tryz.f202 F:=
 okL q00 (zox F) [] aN (fun _=>rfl) (fun _ _=>rfl) fun k d=>by kernel_rfl
def qu1(F:Nat):TL:=⟨35,[.segs [.hole (.L 2)] (.slot 3) true,.ptr 3 1 2,.segs [.hole (.L 8)] (.slot 4) true,.ptr 4 2 8,.segs [.hole (.L 8)] (.slot 5) true,.ptr 5 3 8,.slot 10 (.L 8),.slot 11 .I],[.segs [.hole (.L 8)] (.slot 4) true,.ptr 4 1 8,.segs [.hole (.L 8)] (.slot 5) true,.ptr 5 2 8],0,fun k=>u5 (q4l F k),fun k=>u5 (qah F (q4l F k))⟩
theorem zdf(F:Nat):(qu1 F).ok pp Tryz.f202 F:=
 okL q00 (zox F) [(2,(qhi F).ann F)] (aL (by kernel_rfl) (qu0 F) aN) (fun _=>rfl) (fun _ _=>rfl) fun k d=>by kernel_rfl
def qpe(F:Nat):ToldF:=⟨202,2,[.slot 0 (.L 8),.slot 1 (.L 2)],[.ty (.L 8)],u2 (qg4 F)⟩
theorem zj6(F:Nat):(qpe F).ok pp:=
 okF q00 (zox F) (fn:=Tryz.f202) [(2,(qhi F).ann F),(0,(qu1 F).ann F)] (by kernel_rfl) (aL (by kernel_rfl) (qu0 F) (aL (by kernel_rfl) (zdf F) aN)) fun d=>by kernel_rfl
def zdg(F:Nat):List ToldF:=[qh2 F]
theorem qhj(F:Nat):q02 pp (zdg F):=⟨z0y F,trivial⟩
def qhk(F:Nat):TL:=⟨29,[.segs [.hole (.L 4)] (.slot 2) true,.ptr 2 1 4,.segs [.hole (.L 4)] (.slot 3) true,.ptr 3 2 4,.segs [.hole (.L 64)] (.slot 4) true,.ptr 4 3 64,.segs [.hole (.L 64)] (.slot 5) true,.ptr 5 4 64,.slot 6 .I,.slot 8 .I,.slot 11 .I],[.segs [.hole (.L 4)] (.slot 2) true,.ptr 2 1 4,.segs [.hole (.L 4)] (.slot 3) true,.ptr 3 2 4,.segs [.hole (.L 64)] (.slot 4) true,.ptr 4 3 64,.segs [.hole (.L 64)] (.slot 5) true,.ptr 5 4 64,.slot 8 .I],2,fun k=>u7 (q4m F k),fun k=>u7 (qai F (q4m F k))⟩
theorem qu2(F:Nat):(qhk F).ok pp Tryz.f203 F:=
 okL q00 (qhj F) [] aN (fun _=>rfl) (fun _ _=>rfl) fun k d=>by kernel_rfl
def qu3(F:Nat):TL:=⟨29,[.segs [.hole (.L 4)] (.slot 2) true,.ptr 2 1 4,.segs [.hole (.L 4)] (.slot 3) true,.ptr 3 2 4,.segs [.hole (.L 64)] (.slot 4) true,.ptr 4 3 64,.segs [.hole (.L 64)] (.slot 5) true,.ptr 5 4 64,.slot 8 .I],[.segs [.hole (.L 64)] (.slot 4) true,.ptr 4 1 64,.segs [.hole (.L 64)] (.slot 5) true,.ptr 5 2 64],0,fun k=>u5 (q4n F k),fun k=>u5 (qaj F (q4n F k))⟩
theorem zdh(F:Nat):(qu3 F).ok pp Tryz.f203 F:=
 okL q00 (qhj F) [(2,(qhk F).ann F)] (aL (by kernel_rfl) (qu2 F) aN) (fun _=>rfl) (fun _ _=>rfl) fun k d=>by kernel_rfl
def qpf(F:Nat):ToldF:=⟨203,2,[.slot 0 (.L 4),.slot 1 (.L 4)],[.ty (.L 64)],u2 (qb6 F)⟩
theorem zj7(F:Nat):(qpf F).ok pp:=
 okF q00 (qhj F) (fn:=Tryz.f203) [(2,(qhk F).ann F),(0,(qu3 F).ann F)] (by kernel_rfl) (aL (by kernel_rfl) (qu2 F) (aL (by kernel_rfl) (zdh F) aN)) fun d=>by kernel_rfl
def zdi(F:Nat):List ToldF:=[qfs F]
theorem zdj(F:Nat):q02 pp (zdi F):=⟨qy5 F,trivial⟩
def qpg(F:Nat):ToldF:=⟨204,2,[.slot 0 (.L 4),.segs [.hole (.L 4)] (.slot 1) false,.ptr 1 1 4],[.ty .I],u2 (qgb F)⟩
theorem zj8(F:Nat):(qpg F).ok pp:=
 okF q00 (zdj F) (fn:=Tryz.f204) [] (by kernel_rfl) aN fun d=>by kernel_rfl
def qbr(F:Nat):List ToldF:=[qpg F]
theorem q59(F:Nat):q02 pp (qbr F):=⟨zj8 F,trivial⟩
def q5a(F:Nat):TL:=⟨28,[.row .i64 4 (.slot 0) false,.segs [.hole (.L 4)] (.cap (.slot 1) 0) false,.fn 1 204 [.ptr 2 4],.slot 5 .I,.sl 8 1 4 .whole,.slot 9 .I,.slot 10 .I],[.slot 5 .I],0,fun k=>u5 (q0c F k),fun k=>u5 (q0n F (q0c F k))⟩
theorem qbs(F:Nat):(q5a F).ok pp Tryz.f195 F:=
 okL q00 (q59 F) [] aN (fun _=>rfl) (fun _ _=>rfl) fun k d=>by kernel_rfl
def q4t(F:Nat):ToldF:=⟨195,2,[.row .i64 4 (.slot 0) false,.segs [.hole (.L 4)] (.cap (.slot 1) 0) false,.fn 1 204 [.ptr 2 4]],[.ty .I],u2 (q18 F)⟩
theorem qdh(F:Nat):(q4t F).ok pp:=
 okF q00 (q59 F) (fn:=Tryz.f195) [(0,(q5a F).ann F)] (by kernel_rfl) (aL (by kernel_rfl) (qbs F) aN) fun d=>by kernel_rfl
def zqz(F:Nat):List ToldF:=[qgx F,qpe F,qpf F,q4t F]
theorem qra(F:Nat):q02 pp (zqz F):=⟨z0p F,zj6 F,zj7 F,qdh F,trivial⟩
def z5f(F:Nat):TL:=⟨68,[.segs [.hole (.L 8)] (.slot 4) true,.ptr 4 1 8,.segs [.hole (.L 2)] (.slot 5) true,.ptr 5 2 2,.segs [.hole (.L 64)] (.slot 8) true,.ptr 8 3 64,.segs [.hole (.L 16)] (.slot 9) true,.ptr 9 4 16,.slot 24 (.L 64),.slot 25 .I],[.segs [.hole (.L 8)] (.slot 4) true,.ptr 4 1 8,.segs [.hole (.L 2)] (.slot 5) true,.ptr 5 2 2,.segs [.hole (.L 16)] (.slot 9) true,.ptr 9 3 16],0,fun k=>u6 (q8r F k),fun k=>u6 (qii F (q8r F k))⟩
theorem zr0(F:Nat):(z5f F).ok pp Tryz.f137 F:=
 okL q00 (qra F) [] aN (fun _=>rfl) (fun _ _=>rfl) fun k d=>by kernel_rfl
def z5g(F:Nat):TL:=⟨68,[.segs [.hole (.L 8)] (.slot 4) true,.ptr 4 1 8,.segs [.hole (.L 2)] (.slot 5) true,.ptr 5 2 2,.segs [.hole (.L 16)] (.slot 9) true,.ptr 9 3 16,.slot 50 (.L 16),.slot 51 .I],[.segs [.hole (.L 8)] (.slot 4) true,.ptr 4 1 8,.segs [.hole (.L 2)] (.slot 5) true,.ptr 5 2 2,.segs [.hole (.L 16)] (.slot 9) true,.ptr 9 3 16],2,fun k=>u5 (q6r F k),fun k=>u5 (qij F (q6r F k))⟩
theorem zr1(F:Nat):(z5g F).ok pp Tryz.f137 F:=
 okL q00 (qra F) [] aN (fun _=>rfl) (fun _ _=>rfl) fun k d=>by kernel_rfl
def z1v(F:Nat):ToldF:=⟨137,3,[.slot 0 (.L 64),.slot 1 (.L 8),.slot 2 (.L 2)],[.row .u8 1],u3 (qct F)⟩
theorem zuh(F:Nat):(z1v F).ok pp:=
 okF q00 (qra F) (fn:=Tryz.f137) [(0,(z5f F).ann F),(2,(z5g F).ann F)] (by kernel_rfl) (aL (by kernel_rfl) (zr0 F) (aL (by kernel_rfl) (zr1 F) aN)) fun d=>by kernel_rfl
def quk(F:Nat):List ToldF:=[q28 F,qen F,q55 F,z1u F,z1v F]
theorem q2y(F:Nat):q02 pp (quk F):=⟨q47 F,qy6 F,q9u F,zug F,zuh F,trivial⟩
def q56(F:Nat):TL:=⟨110,[.row .u8 1 (.cell (.slot 0) 65) false,.segs [.J,.hole (.L 64),.sl 1 1 .whole,.J] (.slot 0) true (some 1),.ptr 0 2 67,.slot 1 .I,.segs [.hole (.L 8)] (.slot 6) true,.ptr 6 3 8,.segs [.hole (.L 2)] (.slot 7) true,.ptr 7 4 2,.slot 8 .I,.slot 9 .I,.slot 50 .I,.slot 51 (.bool),.slot 55 .I,.slot 58 (.L 2),.slot 59 .I],[.row .u8 1 (.cell (.slot 0) 65) false,.segs [.J,.hole (.L 64),.sl 1 1 .whole,.J] (.slot 0) true (some 1),.ptr 0 2 67,.slot 1 .I,.segs [.hole (.L 8)] (.slot 6) true,.ptr 6 3 8,.segs [.hole (.L 2)] (.slot 7) true,.ptr 7 4 2,.slot 8 .I,.slot 50 .I,.slot 51 (.bool),.slot 55 .I],4,fun k=>u14 (q1m F k),fun k=>u14 (q52 F (q1m F k))⟩
theorem q7z(F:Nat):(q56 F).ok pp Tryz.f64 F:=
 okL q00 (q2y F) [] aN (fun _=>rfl) (fun _ _=>rfl) fun k d=>by kernel_rfl
def q80(F:Nat):TL:=⟨110,[.row .u8 1 (.cell (.slot 0) 65) false,.segs [.J,.hole (.L 64),.sl 1 1 .whole,.J] (.slot 0) true (some 1),.ptr 0 2 67,.slot 1 .I,.segs [.hole (.L 8)] (.slot 6) true,.ptr 6 3 8,.segs [.hole (.L 2)] (.slot 7) true,.ptr 7 4 2,.slot 8 .I,.slot 50 .I,.slot 51 (.bool),.slot 55 .I],[.row .u8 1 (.cell (.slot 0) 65) false,.segs [.J,.hole (.L 64),.sl 1 1 .whole,.J] (.slot 0) true (some 1),.ptr 0 2 67,.slot 1 .I,.segs [.hole (.L 8)] (.slot 6) true,.ptr 6 3 8,.segs [.hole (.L 2)] (.slot 7) true,.ptr 7 4 2,.slot 8 .I,.slot 50 .I,.slot 51 (.bool)],2,fun k=>u11 (q1n F k),fun k=>u11 (q53 F (q1n F k))⟩
theorem qe3(F:Nat):(q80 F).ok pp Tryz.f64 F:=
 okL q00 (q2y F) [(4,(q56 F).ann F)] (aL (by kernel_rfl) (q7z F) aN) (fun _=>rfl) (fun _ _=>rfl) fun k d=>by kernel_rfl
def q81(F:Nat):TL:=⟨110,[.row .u8 1 (.cell (.slot 0) 65) false,.segs [.J,.hole (.L 64),.sl 1 1 .whole,.J] (.slot 0) true (some 1),.ptr 0 2 67,.slot 1 .I,.segs [.hole (.L 8)] (.slot 6) true,.ptr 6 3 8,.segs [.hole (.L 2)] (.slot 7) true,.ptr 7 4 2,.slot 8 .I,.slot 50 .I,.slot 51 (.bool),.slot 89 .I],[.row .u8 1 (.cell (.slot 0) 65) false,.segs [.J,.hole (.L 64),.sl 1 1 .whole,.J] (.slot 0) true (some 1),.ptr 0 2 67,.slot 1 .I,.segs [.hole (.L 8)] (.slot 6) true,.ptr 6 3 8,.segs [.hole (.L 2)] (.slot 7) true,.ptr 7 4 2,.slot 8 .I,.slot 50 .I,.slot 51 (.bool)],6,fun k=>u11 (q1o F k),fun k=>u11 (q54 F (q1o F k))⟩
theorem qe4(F:Nat):(q81 F).ok pp Tryz.f64 F:=
 okL q00 (q2y F) [] aN (fun _=>rfl) (fun _ _=>rfl) fun k d=>by kernel_rfl
def qe5(F:Nat):TL:=⟨110,[.row .u8 1 (.cell (.slot 0) 65) false,.segs [.J,.hole (.L 64),.sl 1 1 .whole,.J] (.slot 0) true (some 1),.ptr 0 2 67,.slot 1 .I,.segs [.hole (.L 8)] (.slot 6) true,.ptr 6 3 8,.segs [.hole (.L 2)] (.slot 7) true,.ptr 7 4 2,.slot 8 .I],[.row .u8 1 (.cell (.slot 0) 65) false,.segs [.J,.hole (.L 64),.sl 1 1 .whole,.J] (.slot 0) true (some 1),.ptr 0 2 67],0,fun k=>u8 (q0s F k),fun k=>u8 (q25 F (q0s F k))⟩
theorem qul(F:Nat):(qe5 F).ok pp Tryz.f64 F:=
 okL q00 (q2y F) [(4,(q56 F).ann F),(2,(q80 F).ann F),(6,(q81 F).ann F)] (aL (by kernel_rfl) (q7z F) (aL (by kernel_rfl) (qe3 F) (aL (by kernel_rfl) (qe4 F) aN))) (fun _=>rfl) (fun _ _=>rfl) fun k d=>by kernel_rfl
def qdi(F:Nat):ToldF:=⟨64,2,[.row .u8 1 (.cell (.slot 0) 65) false,.segs [.J,.hole (.L 64),.sl 1 1 .whole,.J] (.slot 0) true (some 1),.ptr 0 2 67,.slot 1 .I],[.psegs 1 [.J,.hole (.L 64),.row .u8 1 false,.J]],u5 (q5u F)⟩
theorem qyd(F:Nat):(qdi F).ok pp:=
 okF q00 (q2y F) (fn:=Tryz.f64) [(4,(q56 F).ann F),(2,(q80 F).ann F),(6,(q81 F).ann F),(0,(qe5 F).ann F)] (by kernel_rfl) (aL (by kernel_rfl) (q7z F) (aL (by kernel_rfl) (qe3 F) (aL (by kernel_rfl) (qe4 F) (aL (by kernel_rfl) (qul F) aN)))) fun d=>by kernel_rfl
def zr2(F:Nat):List ToldF:=[q6l F,qdb F,q55 F,qbn F,qtz F,qyc F,qdi F]
theorem z5h(F:Nat):q02 pp (zr2 F):=⟨qd7 F,qr3 F,q9u F,quj F,zmq F,zqw F,qyd F,trivial⟩
def z5i(F:Nat):TL:=⟨96,[.slot 0 .I,.slot 2 .I,.segs [.hole (.L 64)] (.slot 4) true,.ptr 4 1 64,.row .u8 1 (.cell (.slot 11) 65) false,.segs [.J,.hole (.L 64),.sl 2 1 .whole,.J] (.slot 11) true,.ptr 11 3 67,.slot 12 .I],[.row .u8 1 (.cell (.slot 11) 65) false,.segs [.J,.hole (.L 64),.sl 1 1 .whole,.J] (.slot 11) true,.ptr 11 2 67],0,fun k=>u8 (q1p F k),fun k=>u8 (q16 F (q1p F k))⟩
theorem zr3(F:Nat):(z5i F).ok pp Tryz.f22 F:=
 okL q00 (z5h F) [] aN (fun _=>rfl) (fun _ _=>rfl) fun k d=>by kernel_rfl
def qn1(F:Nat):ToldF:=⟨22,3,[.slot 0 .I,.slot 1 (.L 64),.slot 2 .I],[.row .u8 1 false,.ty .I,.ty .I],u3 (q2x F)⟩
theorem za5(F:Nat):(qn1 F).ok pp:=
 okF q00 (z5h F) (fn:=Tryz.f22) [(0,(z5i F).ann F)] (by kernel_rfl) (aL (by kernel_rfl) (zr3 F) aN) fun d=>by kernel_rfl
def zj9(F:Nat):List ToldF:=[qmy F,qn1 F]
theorem zja(F:Nat):q02 pp (zj9 F):=⟨za4 F,za5 F,trivial⟩
def qu4(F:Nat):ToldF:=⟨21,0,[],[.ty (.bool)],u0 (qjn F)⟩
theorem zmu(F:Nat):(qu4 F).ok pp:=
 okF q00 (zja F) (fn:=Tryz.f21) [] (by kernel_rfl) aN fun d=>by kernel_rfl
def z5j(F:Nat):List ToldF:=[qx1 F,qtw F,qmy F,qn1 F,qu4 F]
theorem qm0(F:Nat):q02 pp (z5j F):=⟨zpq F,zmk F,za4 F,za5 F,zmu F,trivial⟩
def qm1(F:Nat):TX:=⟨77,[.slot 0 .I,.slot 7 (.bool),.segs [.hole (.L 64)] (.slot 8) true,.ptr 8 1 64,.slot 9 .I],[.const 6 (.bool (some false) false)],[.slot 7 (.bool)],.ret,0,fun k=>u4 (q2b F k),fun k=>u4 (q86 F (q2b F k))⟩
theorem z5k(F:Nat):(qm1 F).ok pp Tryz.f9 F:=
 okX q00 (qm0 F) [] aN (fun _=>rfl) (fun _ _=>rfl) (eR rfl) fun k d=>by kernel_rfl
def qkh(F:Nat):ToldF:=⟨9,3,[.slot 0 .I,.slot 1 (.L 8),.slot 2 .I],[.ty (.bool)],u3 (qmk F)⟩
theorem z8i(F:Nat):(qkh F).ok pp:=
 okF q00 (qm0 F) (fn:=Tryz.f9) [(0,(qm1 F).ann F)] (by kernel_rfl) (aX (by kernel_rfl) (z5k F) aN) fun d=>by kernel_rfl
end Go.Proofs.YtdnccegimipapaaGreat
namespace Go.AE.Gn
open Go Go.AE
theorem w64{x:Int}(h1: -9223372036854775808≤x)(h2:x≤9223372036854775807):y0 .i64 x=x:=z64 (has_iff.2 ⟨h1,h2⟩)
theorem wu64{x:Int}(h1:0≤x)(h2:x≤18446744073709551615):y0 .u64 x=x:=z64 (has_iff.2 ⟨h1,h2⟩)
theorem wu8{x:Int}(h1:0≤x)(h2:x≤255):y0 .u8 x=x:=z64 (has_iff.2 ⟨h1,h2⟩)
theorem beqF{a b:Int}(h:a≠b):(a==b)=false:=by simpa using h
theorem bneT{a b:Int}(h:a≠b):(a !=b)=true:=by simpa using h
def Bytes(b:LI):Prop:=∀x∈b,0≤x∧x≤255
theorem Bytes.getD{b:LI}(h:Bytes b)(i:Nat):0≤b.getD i 0∧b.getD i 0≤255:=by
 rw[ye]
 by_cases hi:i<b.length
 ·rw[yj hi]
  exact h _ (List.getElem_mem hi)
 ·rw[w9 (by omega)]
  simp
theorem Bytes.set{b:LI}(h:Bytes b){i:Nat}{v:Int}(hv:0≤v∧v≤255):Bytes (b.set i v):=by
 intro x hx
 rcases List.mem_or_eq_of_mem_set hx with hx|rfl
 ·exact h x hx
 ·exact hv
theorem qz4(b:LI)(i j:Nat)(v:Int)(hi:i<b.length):(b.set i v).getD j 0=if i=j then v else b.getD j 0:=by
 simp only[ye,List.getElem?_set]
 split
 ·rename_i h
  simp[hi]
 ·rfl
theorem pow63{k:Nat}(hk:k≤63):(2:Int)^k≤9223372036854775808:=by
 have h:(2:Nat)^k≤9223372036854775808:=Nat.le_trans (Nat.pow_le_pow_right (by decide) hk) (by decide)
 have e:((2^k:Nat):Int)=(2:Int)^k:=wg 2 k
 omega
theorem qgm(k:Nat):(0:Int)<2^k:=Int.pow_pos (by decide)
def qep(f:Nat→Int):Nat→Int
 |0=>0
 |n+1=>qep f n+f n*2^n
def qn2(f:Nat→Int):Nat→Int
 |0=>0
 |n+1=>2*qn2 f n+f n
def Bit(f:Nat→Int)(n:Nat):Prop:=∀i,i<n→f i=0∨f i=1
theorem z30{f g:Nat→Int}:∀{n:Nat},(∀i,i<n→f i=g i)→qep f n=qep g n
 |0,_=>rfl
 |n+1,h=>by rw[qep,qep,z30 fun i hi=>h i (by omega),h n (by omega)]
theorem zjb{f g:Nat→Int}:∀{n:Nat},(∀i,i<n→f i=g i)→qn2 f n=qn2 g n
 |0,_=>rfl
 |n+1,h=>by rw[qn2,qn2,zjb fun i hi=>h i (by omega),h n (by omega)]
theorem z31{f:Nat→Int}:∀{n:Nat},Bit f n→0≤qep f n∧qep f n<2^n
 |0,_=>⟨Int.le_refl _,by simp[qep]⟩
 |n+1,h=>by
  obtain⟨h1,h2⟩:=z31 (n:=n) fun i hi=>h i (by omega)
  rw[qep,Int.pow_succ]
  rcases h n (by omega)with e|e<;>rw[e]<;>omega
theorem zjc{f:Nat→Int}:∀{n:Nat},Bit f n→0≤qn2 f n∧qn2 f n<2^n
 |0,_=>⟨Int.le_refl _,by simp[qn2]⟩
 |n+1,h=>by
  obtain⟨h1,h2⟩:=zjc (n:=n) fun i hi=>h i (by omega)
  rw[qn2,Int.pow_succ]
  rcases h n (by omega)with e|e<;>rw[e]<;>omega
theorem zjd(f:Nat→Int):∀n,qep f (n+1)=f 0+2*qep (fun i=>f (i+1)) n
 |0=>by simp[qep]
 |n+1=>by
  rw[qep,zjd f n,qep,Int.pow_succ,Int.mul_add,←Int.mul_assoc,←Int.mul_assoc,Int.mul_comm (f (n+1)) (2^n),Int.mul_comm 2 (f (n+1)),Int.mul_comm (2^n) (f (n+1))]
  have:f (n+1)*2^n*2=f (n+1)*2*2^n:=by rw[Int.mul_assoc,Int.mul_assoc,Int.mul_comm (2^n) 2]
  omega
theorem j3s(f:Nat→Int)(n:Nat):qn2 (fun j=>f (n-1-j)) n=qep f n:=by
 induction n generalizing f with
 |zero=>rfl
 |succ n ih=>
  rw[qn2,zjd,←ih (fun i=>f (i+1))]
  have:qn2 (fun j=>f (n+1-1-j)) n=qn2 (fun j=>f (n-1-j+1)) n:=zjb fun i hi=>by
   congr 1
   omega
  rw[this]
  simp only[Nat.add_sub_cancel,Nat.sub_self]
  omega
theorem z8j(x:Int)(hx:0≤x):∀n:Nat,qep (fun i=>x/2^i%2) n=x%2^n
 |0=>by simp[qep]
 |n+1=>by
  rw[qep,z8j x hx n,Int.pow_succ]
  have hp:(0:Int)<2^n:=Int.pow_pos (by decide)
  have h1:=Int.emod_add_mul_ediv x (2^n)
  have h2:=Int.emod_add_mul_ediv (x/2^n) 2
  have h3:x=x%2^n+2^n*(x/2^n%2)+(2^n*2)*(x/2^n/2):=by
   rw[Int.mul_assoc,Int.add_assoc,←Int.mul_add,h2,h1]
  have h4:=Int.emod_nonneg x (Int.ne_of_gt hp)
  have h5:=Int.emod_lt_of_pos x hp
  have h6:0≤x/2^n%2∧x/2^n%2≤1:=by omega
  have h7:0≤2^n*(x/2^n%2)∧2^n*(x/2^n%2)≤2^n:=by
   rcases(show x/2^n%2=0∨x/2^n%2=1 by omega)with e|e<;>rw[e]<;>omega
  have h8:x%(2^n*2)=x%2^n+2^n*(x/2^n%2):=by
   conv=>lhs;rw[h3]
   rw[Int.add_mul_emod_self_left]
   apply Int.emod_eq_of_lt
   ·omega
   ·rcases(show x/2^n%2=0∨x/2^n%2=1 by omega)with e|e<;>rw[e]<;>omega
  rw[h8,Int.mul_comm (x/2^n%2)]
theorem q3s{x y:Int}(h:0≤x):x.tdiv y=x/y:=Int.tdiv_eq_ediv_of_nonneg h
theorem tmod_nonneg{x y:Int}(h:0≤x):x.tmod y=x%y:=Int.tmod_eq_emod_of_nonneg h
end Go.AE.Gn
