/- A part of the proof, put together of my texts: E14certs, PureLib. -/
import Derived.Test.YtaogfbhifeobmaaGreatRows
import Derived.KernelRfl
import Derived.Test.YtaogfbhifeobmaaGreatRowFlatTellsP4
set_option linter.unusedSimpArgs false
set_option maxRecDepth 100000
set_option linter.unusedVariables false
open Go.IntKind renaming wrap → y0
open List renaming getD_eq_getElem?_getD → ye, getElem?_eq_getElem → yj, getElem?_eq_none → wa
open Int renaming natCast_pow → wh, emod_eq_of_lt → we
abbrev Go.AE.Ty.I:Go.AE.Ty:= .int .i64
abbrev Go.AE.CI.J:Go.AE.CI:= .hole (.int .i64)
abbrev Go.AE.CO.J:Go.AE.CO:= .hole (.int .i64)
abbrev Go.AE.CTy.I:Go.AE.CTy:= .int .i64
abbrev Go.AE.Ty.L(n:Nat):Go.AE.Ty:= .is .i64 n
abbrev Go.AE.CTy.L(n:Nat):Go.AE.CTy:= .is .i64 n
namespace Go.Proofs.YtaogfbhifeobmaaGreat
open Go Go.AE Go.AE.Gn
noncomputable abbrev pp:=Tryz.prog
theorem q00:q1y Tryz.prog:=j1r (by kernel_rfl)
def zhp(F:Nat):List ToldF:=[]
theorem qx1(F:Nat):q02 pp (zhp F):=trivial
def qx2(F:Nat):TL:=⟨14,[.segs [.hole (.L 4)] (.slot 1) true,.ptr 1 1 4,.segs [.hole (.L 64)] (.slot 2) true,.ptr 2 2 64,.segs [.hole (.L 64)] (.slot 3) true,.ptr 3 3 64,.slot 4 .I],[.segs [.hole (.L 64)] (.slot 2) true,.ptr 2 1 64,.segs [.hole (.L 64)] (.slot 3) true,.ptr 3 2 64],0,fun k=>u4 (q9i F k),fun k=>u4 (qe9 F (q9i F k))⟩
theorem zhq(F:Nat):(qx2 F).ok pp Tryz.f25 F:=
 okL q00 (qx1 F) [] aN (fun _=>rfl) (fun _ _=>rfl) fun k d=>by kernel_rfl
def qih(F:Nat):ToldF:=⟨25,1,[.slot 0 (.L 4)],[.ty (.L 64)],u1 (qg0 F)⟩
theorem z1z(F:Nat):(qih F).ok pp:=
 okF q00 (qx1 F) (fn:=Tryz.f25) [(0,(qx2 F).ann F)] (by kernel_rfl) (aL (by kernel_rfl) (zhq F) aN) fun d=>by kernel_rfl
def qbs(F:Nat):ToldF:=⟨9,1,[.slot 0 .I],[.ty (.agg [.I,.I,.bool]),.ty .I],u1 (qaj F)⟩
theorem qnd(F:Nat):(qbs F).ok pp:=
 okF q00 (qx1 F) (fn:=Tryz.f9) [] (by kernel_rfl) aN fun d=>by kernel_rfl
def qom(F:Nat):TX:=⟨23,[.slot 7 (.L 64),.slot 8 .I,.slot 11 (.L 4),.slot 12 .I],[.const 2 (.bool (some false) false)],[.slot 7 (.L 64),.slot 8 .I],.ret,2,fun k=>u4 (q3r F k),fun k=>u4 (q9j F (q3r F k))⟩
theorem z20(F:Nat):(qom F).ok pp Tryz.f37 F:=
 okX q00 (qx1 F) [] aN (fun _=>rfl) (fun _ _=>rfl) (eR rfl) fun k d=>by kernel_rfl
def z22(F:Nat):TX:=⟨23,[.slot 7 (.L 64),.slot 8 .I],[.const 2 (.bool (some false) false)],[],.ret,0,fun k=>u2 (q3s F k),fun k=>u2 (q9k F (q3s F k))⟩
theorem zn6(F:Nat):(z22 F).ok pp Tryz.f37 F:=
 okX q00 (qx1 F) [(2,(qom F).ann F)] (aX (by kernel_rfl) (z20 F) aN) (fun _=>rfl) (fun _ _=>rfl) (eR rfl) fun k d=>by kernel_rfl
def qx3(F:Nat):ToldF:=⟨37,1,[.slot 0 (.L 64)],[.ty (.bool)],u1 (q69 F)⟩
theorem zsg(F:Nat):(qx3 F).ok pp:=
 okF q00 (qx1 F) (fn:=Tryz.f37) [(2,(qom F).ann F),(0,(z22 F).ann F)] (by kernel_rfl) (aX (by kernel_rfl) (z20 F) (aX (by kernel_rfl) (zn6 F) aN)) fun d=>by kernel_rfl
def zd5(F:Nat):List ToldF:=[qbs F]
theorem qii(F:Nat):q02 pp (zd5 F):=⟨qnd F,trivial⟩
def qij(F:Nat):TL:=⟨41,[.segs [.hole (.L 64)] (.slot 3) true,.ptr 3 1 64,.segs [.hole (.L 64)] (.slot 4) true,.ptr 4 2 64,.slot 7 .I,.slot 19 .I,.slot 24 (.L 4),.slot 25 .I],[.segs [.hole (.L 64)] (.slot 3) true,.ptr 3 1 64,.segs [.hole (.L 64)] (.slot 4) true,.ptr 4 2 64,.slot 19 .I],2,fun k=>u6 (q7p F k),fun k=>u6 (qcm F (q7p F k))⟩
theorem qto(F:Nat):(qij F).ok pp Tryz.f30 F:=
 okL q00 (qii F) [] aN (fun _=>rfl) (fun _ _=>rfl) fun k d=>by kernel_rfl
def qtp(F:Nat):TL:=⟨41,[.segs [.hole (.L 64)] (.slot 3) true,.ptr 3 1 64,.segs [.hole (.L 64)] (.slot 4) true,.ptr 4 2 64,.slot 19 .I],[.segs [.hole (.L 64)] (.slot 3) true,.ptr 3 1 64,.segs [.hole (.L 64)] (.slot 4) true,.ptr 4 2 64],0,fun k=>u3 (q7q F k),fun k=>u3 (qcn F (q7q F k))⟩
theorem zd6(F:Nat):(qtp F).ok pp Tryz.f30 F:=
 okL q00 (qii F) [(2,(qij F).ann F)] (aL (by kernel_rfl) (qto F) aN) (fun _=>rfl) (fun _ _=>rfl) fun k d=>by kernel_rfl
def qg5(F:Nat):ToldF:=⟨30,2,[.slot 0 .I,.slot 1 (.L 64)],[.ty (.L 64)],u2 (qhs F)⟩
theorem qx4(F:Nat):(qg5 F).ok pp:=
 okF q00 (qii F) (fn:=Tryz.f30) [(2,(qij F).ann F),(0,(qtp F).ann F)] (by kernel_rfl) (aL (by kernel_rfl) (qto F) (aL (by kernel_rfl) (zd6 F) aN)) fun d=>by kernel_rfl
def z23(F:Nat):ToldF:=⟨193,1,[.slot 0 .I],[.ty (.bool)],u1 (zxx F)⟩
theorem zxz(F:Nat):(z23 F).ok pp:=
 okF q00 (qx1 F) (fn:=Tryz.f193) [] (by kernel_rfl) aN fun d=>by kernel_rfl
def zn7(F:Nat):List ToldF:=[z23 F]
theorem z24(F:Nat):q02 pp (zn7 F):=⟨zxz F,trivial⟩
def z25(F:Nat):TL:=⟨28,[.slot 0 .I,.slot 1 .I,.slot 5 .I,.slot 6 .I],[.slot 5 .I,.slot 6 .I],0,fun k=>u4 (qjq F k),fun k=>u4 (z1v F (qjq F k))⟩
theorem zn8(F:Nat):(z25 F).ok pp Tryz.f130 F:=
 okL q00 (z24 F) [] aN (fun _=>rfl) (fun _ _=>rfl) fun k d=>by kernel_rfl
def q47(F:Nat):ToldF:=⟨130,2,[.slot 0 .I,.slot 1 .I],[.ty .I],u2 (q0n F)⟩
theorem q8n(F:Nat):(q47 F).ok pp:=
 okF q00 (z24 F) (fn:=Tryz.f130) [(0,(z25 F).ann F)] (by kernel_rfl) (aL (by kernel_rfl) (zn8 F) aN) fun d=>by kernel_rfl
def zd7(F:Nat):List ToldF:=[q47 F]
theorem zd8(F:Nat):q02 pp (zd7 F):=⟨q8n F,trivial⟩
def qpt(F:Nat):ToldF:=⟨129,2,[.slot 0 .I,.segs [.J] (.slot 1) false,.ptr 1 1 1],[.ty .I],u2 (qwx F)⟩
theorem zhr(F:Nat):(qpt F).ok pp:=
 okF q00 (zd8 F) (fn:=Tryz.f129) [] (by kernel_rfl) aN fun d=>by kernel_rfl
def qg6(F:Nat):ToldF:=⟨126,1,[.slot 0 .I],[.ty .I],u1 (qaf F)⟩
theorem qx5(F:Nat):(qg6 F).ok pp:=
 okF q00 (qx1 F) (fn:=Tryz.f126) [] (by kernel_rfl) aN fun d=>by kernel_rfl
def z9n(F:Nat):List ToldF:=[qg6 F]
theorem qpu(F:Nat):q02 pp (z9n F):=⟨qx5 F,trivial⟩
def qpv(F:Nat):TL:=⟨25,[.slot 0 .I,.row .i64 1 (.cell (.slot 2) 0) false,.segs [.sl 1 1 .whole] (.slot 2) false,.ptr 2 2 1,.slot 5 .I,.row .i64 1 (.slot 8) false,.slot 9 .I,.slot 10 .I],[.slot 5 .I],0,fun k=>u6 (q4q F k),fun k=>u6 (q5g F (q4q F k))⟩
theorem z9o(F:Nat):(qpv F).ok pp Tryz.f232 F:=
 okL q00 (qpu F) [] aN (fun _=>rfl) (fun _ _=>rfl) fun k d=>by kernel_rfl
def qne(F:Nat):ToldF:=⟨232,3,[.slot 0 .I,.row .i64 1 (.cell (.slot 1) 0) false,.segs [.sl 1 1 .whole] (.slot 1) false,.ptr 1 2 1,.row .i64 1 (.cell (.slot 2) 0) false,.segs [.sl 3 1 .whole] (.slot 2) false,.ptr 2 4 1],[.ty .I],u3 (qkb F)⟩
theorem zdb(F:Nat):(qne F).ok pp:=
 okF q00 (qpu F) (fn:=Tryz.f232) [(0,(qpv F).ann F)] (by kernel_rfl) (aL (by kernel_rfl) (z9o F) aN) fun d=>by kernel_rfl
def qsm(F:Nat):List ToldF:=[qne F]
theorem qek(F:Nat):q02 pp (qsm F):=⟨zdb F,trivial⟩
def qel(F:Nat):TL:=⟨27,[.row .i64 1 (.cell (.cap (.slot 1) 0) 0) false,.segs [.sl 1 1 .whole] (.cap (.slot 1) 0) false,.row .i64 1 (.cell (.cap (.slot 1) 1) 0) false,.segs [.sl 3 1 .whole] (.cap (.slot 1) 1) false,.fn 1 232 [.ptr 2 1,.ptr 4 1],.slot 5 .I,.slot 6 .I,.slot 9 .I,.slot 10 .I],[.slot 5 .I],0,fun k=>u6 (q0u F k),fun k=>u6 (q0y F (q0u F k))⟩
theorem qsn(F:Nat):(qel F).ok pp Tryz.f231 F:=
 okL q00 (qek F) [] aN (fun _=>rfl) (fun _ _=>rfl) fun k d=>by kernel_rfl
def qdg(F:Nat):ToldF:=⟨231,2,[.slot 0 .I,.row .i64 1 (.cell (.cap (.slot 1) 0) 0) false,.segs [.sl 1 1 .whole] (.cap (.slot 1) 0) false,.row .i64 1 (.cell (.cap (.slot 1) 1) 0) false,.segs [.sl 3 1 .whole] (.cap (.slot 1) 1) false,.fn 1 232 [.ptr 2 1,.ptr 4 1]],[.ty .I],u3 (qd0 F)⟩
theorem qvx(F:Nat):(qdg F).ok pp:=
 okF q00 (qek F) (fn:=Tryz.f231) [(0,(qel F).ann F)] (by kernel_rfl) (aL (by kernel_rfl) (qsn F) aN) fun d=>by kernel_rfl
def zn9(F:Nat):List ToldF:=[qdg F]
theorem zna(F:Nat):q02 pp (zn9 F):=⟨qvx F,trivial⟩
def q7t(F:Nat):ToldF:=⟨192,2,[.row .i64 1 (.slot 0) false,.row .i64 1 (.slot 1) false],[.ty .I],u2 (qdd F)⟩
theorem qem(F:Nat):(q7t F).ok pp:=
 okF q00 (zna F) (fn:=Tryz.f192) [] (by kernel_rfl) aN fun d=>by kernel_rfl
def qx6(F:Nat):List ToldF:=[qpt F,q7t F]
theorem qaq(F:Nat):q02 pp (qx6 F):=⟨zhr F,qem F,trivial⟩
def qht(F:Nat):TL:=⟨39,[.slot 1 .I,.slot 2 .I,.segs [.J] (.cap (.slot 3) 0) false,.fn 3 129 [.ptr 1 1],.row .i64 1 (.slot 9) true,.const 10 .nils,.slot 14 (.L 64),.slot 15 .I],[.slot 2 .I,.segs [.J] (.cap (.slot 3) 0) false,.fn 3 129 [.ptr 1 1],.row .i64 1 (.slot 9) true,.const 10 .nils],0,fun k=>u6 (q2s F k),fun k=>u6 (q6n F (q2s F k))⟩
theorem qx7(F:Nat):(qht F).ok pp Tryz.f128 F:=
 okL q00 (qaq F) [] aN (fun _=>rfl) (fun _ _=>rfl) fun k d=>by kernel_rfl
def qhu(F:Nat):TL:=⟨39,[.segs [.J] (.cap (.slot 3) 0) false,.fn 3 129 [.ptr 1 1],.row .i64 1 (.slot 9) true,.row .i64 1 (.slot 10) true,.slot 25 .I,.slot 26 .I],[.row .i64 1 (.slot 9) true,.row .i64 1 (.slot 10) true],2,fun k=>u5 (q25 F k),fun k=>u5 (q2h F (q25 F k))⟩
theorem qx8(F:Nat):(qhu F).ok pp Tryz.f128 F:=
 okL q00 (qaq F) [] aN (fun _=>rfl) (fun _ _=>rfl) fun k d=>by kernel_rfl
def qff(F:Nat):ToldF:=⟨128,4,[.slot 0 (.L 64),.slot 1 .I,.slot 2 .I,.segs [.J] (.cap (.slot 3) 0) false,.fn 3 129 [.ptr 1 1]],[.ty .I],u4 (qbd F)⟩
theorem z1a(F:Nat):(qff F).ok pp:=
 okF q00 (qaq F) (fn:=Tryz.f128) [(0,(qht F).ann F),(2,(qhu F).ann F)] (by kernel_rfl) (aL (by kernel_rfl) (qx7 F) (aL (by kernel_rfl) (qx8 F) aN)) fun d=>by kernel_rfl
def zsj(F:Nat):List ToldF:=[qff F]
theorem zsk(F:Nat):q02 pp (zsj F):=⟨z1a F,trivial⟩
def qh5(F:Nat):ToldF:=⟨68,3,[.slot 0 (.L 64),.slot 1 .I,.slot 2 .I],[.ty .I],u3 (qbr F)⟩
theorem qx9(F:Nat):(qh5 F).ok pp:=
 okF q00 (zsk F) (fn:=Tryz.f68) [] (by kernel_rfl) aN fun d=>by kernel_rfl
def qtr(F:Nat):TL:=⟨13,[.slot 0 .I,.segs [.hole (.L 16)] (.slot 2) true,.ptr 2 1 16,.segs [.hole (.L 16)] (.slot 3) true,.ptr 3 2 16,.slot 5 .I],[.segs [.hole (.L 16)] (.slot 2) true,.ptr 2 1 16,.segs [.hole (.L 16)] (.slot 3) true,.ptr 3 2 16],0,fun k=>u4 (q5r F k),fun k=>u4 (qco F (q5r F k))⟩
theorem zdd(F:Nat):(qtr F).ok pp Tryz.f67 F:=
 okL q00 (qx1 F) [] aN (fun _=>rfl) (fun _ _=>rfl) fun k d=>by kernel_rfl
def q5h(F:Nat):ToldF:=⟨67,1,[.slot 0 .I],[.ty (.L 16)],u1 (q6o F)⟩
theorem qar(F:Nat):(q5h F).ok pp:=
 okF q00 (qx1 F) (fn:=Tryz.f67) [(0,(qtr F).ann F)] (by kernel_rfl) (aL (by kernel_rfl) (zdd F) aN) fun d=>by kernel_rfl
def qon(F:Nat):ToldF:=⟨208,3,[.row .u8 1 (.slot 0) false,.slot 1 .I,.slot 2 .I],[.ty (.bool)],u3 (qpf F)⟩
theorem zc9(F:Nat):(qon F).ok pp:=
 okF q00 (qx1 F) (fn:=Tryz.f208) [] (by kernel_rfl) aN fun d=>by kernel_rfl
def znb(F:Nat):List ToldF:=[qon F]
theorem znc(F:Nat):q02 pp (znb F):=⟨zc9 F,trivial⟩
def qen(F:Nat):ToldF:=⟨233,3,[.row .u8 1 (.slot 0) false,.slot 1 .I,.slot 2 .I],[.ty .I],u3 (qkw F)⟩
theorem qso(F:Nat):(qen F).ok pp:=
 okF q00 (znc F) (fn:=Tryz.f233) [] (by kernel_rfl) aN fun d=>by kernel_rfl
def zsn(F:Nat):List ToldF:=[qen F]
theorem zso(F:Nat):q02 pp (zsn F):=⟨qso F,trivial⟩
def qoo(F:Nat):ToldF:=⟨201,4,[.row .u8 1 (.slot 0) false,.slot 1 .I,.slot 2 .I,.slot 3 (.int .u64)],[.ty .I],u4 (qwo F)⟩
theorem zca(F:Nat):(qoo F).ok pp:=
 okF q00 (zso F) (fn:=Tryz.f201) [] (by kernel_rfl) aN fun d=>by kernel_rfl
def q5u(F:Nat):ToldF:=⟨202,1,[.row .u8 1 (.slot 0) false],[.row .u8 1],fun d=>q38 F d.1⟩
theorem qbt(F:Nat):(q5u F).ok pp:=
 j60 q00 (fn:=Tryz.f202) (f:=202) (k:= .u8) (sz:=1) (R0:=cloneR0 (qj8 Tryz.f202)) (X:=cloneX (qj8 Tryz.f202)) (REST:=j8j (qj8 Tryz.f202)) (o3:=cloneO3 (qj8 Tryz.f202)) (o4:=cloneO4 (qj8 Tryz.f202)) (t:=40) (t' :=40) (e:=5) (i1:=1) (by kernel_rfl) (by kernel_rfl) (by kernel_rfl) (by kernel_rfl) (by kernel_rfl) (by kernel_rfl) (by kernel_rfl)
  (cloneS1 1 .u8) (j8l 1 .u8)
  (fun l=>by kernel_rfl) (fun l=>by kernel_rfl) (fun l=>⟨rfl,rfl⟩) (fun l=>by simp[j8l]) (fun l=>by kernel_rfl) (fun l=>by kernel_rfl)
def qsp(F:Nat):ToldF:=⟨203,3,[.slot 0 (.int .u8),.slot 1 .I,.slot 2 (.int .u64)],[.ty (.int .u8)],u3 (z64 F)⟩
theorem zhs(F:Nat):(qsp F).ok pp:=
 okF q00 (qx1 F) (fn:=Tryz.f203) [] (by kernel_rfl) aN fun d=>by kernel_rfl
def zht(F:Nat):List ToldF:=[qoo F,q5u F,qsp F]
theorem qxa(F:Nat):q02 pp (zht F):=⟨zca F,qbt F,zhs F,trivial⟩
def qxb(F:Nat):TL:=⟨48,[.slot 1 .I,.slot 3 (.int .u64),.row .u8 1 (.slot 11) true,.slot 24 .I,.slot 25 .I],[.row .u8 1 (.slot 11) true],0,fun k=>u5 (q93 F k),fun k=>u5 (ql8 F (q93 F k))⟩
theorem zhu(F:Nat):(qxb F).ok pp Tryz.f191 F:=
 okL q00 (qxa F) [] aN (fun _=>rfl) (fun _ _=>rfl) fun k d=>by kernel_rfl
def q8y(F:Nat):ToldF:=⟨191,4,[.row .u8 1 (.slot 0) false,.slot 1 .I,.slot 2 .I,.slot 3 (.int .u64)],[.row .u8 1,.ty .I],u4 (q89 F)⟩
theorem qh6(F:Nat):(q8y F).ok pp:=
 okF q00 (qxa F) (fn:=Tryz.f191) [(0,(qxb F).ann F)] (by kernel_rfl) (aL (by kernel_rfl) (zhu F) aN) fun d=>by kernel_rfl
def z9p(F:Nat):List ToldF:=[q8y F]
theorem qpw(F:Nat):q02 pp (z9p F):=⟨qh6 F,trivial⟩
def qpx(F:Nat):TX:=⟨41,[.slot 0 (.int .u64),.slot 1 .I,.slot 2 .I,.slot 12 (.L 16),.slot 13 .I],[.const 8 .nils,.const 9 (.int .i64 (some 1) 1)],[.slot 0 (.int .u64)],.ret,0,fun k=>u5 (q1s F k),fun k=>u5 (q5b F (q1s F k))⟩
theorem z9q(F:Nat):(qpx F).ok pp Tryz.f127 F:=
 okX q00 (qpw F) [] aN (fun _=>rfl) (fun _ _=>rfl) (eR rfl) fun k d=>by kernel_rfl
def qeo(F:Nat):ToldF:=⟨127,4,[.slot 0 (.int .u64),.slot 1 .I,.slot 2 .I,.slot 3 (.L 16)],[.row .u8 1,.ty .I],u4 (q4t F)⟩
theorem qts(F:Nat):(qeo F).ok pp:=
 okF q00 (qpw F) (fn:=Tryz.f127) [(0,(qpx F).ann F)] (by kernel_rfl) (aX (by kernel_rfl) (z9q F) aN) fun d=>by kernel_rfl
def z1b(F:Nat):List ToldF:=[qeo F]
theorem z1c(F:Nat):q02 pp (z1b F):=⟨qts F,trivial⟩
def qhv(F:Nat):ToldF:=⟨66,1,[.slot 0 (.L 16)],[.row .u8 1,.ty .I],u1 (q4o F)⟩
theorem z4k(F:Nat):(qhv F).ok pp:=
 okF q00 (z1c F) (fn:=Tryz.f66) [] (by kernel_rfl) aN fun d=>by kernel_rfl
def znd(F:Nat):List ToldF:=[q8y F]
theorem z26(F:Nat):q02 pp (znd F):=⟨qh6 F,trivial⟩
def z27(F:Nat):TX:=⟨56,[.slot 8 (.int .u64),.slot 31 (.L 16),.slot 32 .I],[.const 6 .nils,.const 7 (.int .i64 (some 1) 1)],[.slot 8 (.int .u64)],.ret,0,fun k=>u3 (q2d F k),fun k=>u3 (q97 F (q2d F k))⟩
theorem zne(F:Nat):(z27 F).ok pp Tryz.f131 F:=
 okX q00 (z26 F) [] aN (fun _=>rfl) (fun _ _=>rfl) (eR rfl) fun k d=>by kernel_rfl
def qxc(F:Nat):ToldF:=⟨131,3,[.slot 0 .I,.slot 1 .I,.slot 2 (.L 16)],[.row .u8 1,.ty .I],u3 (q7h F)⟩
theorem zsp(F:Nat):(qxc F).ok pp:=
 okF q00 (z26 F) (fn:=Tryz.f131) [(0,(z27 F).ann F)] (by kernel_rfl) (aX (by kernel_rfl) (zne F) aN) fun d=>by kernel_rfl
def zy2(F:Nat):List ToldF:=[qh5 F,q5h F,qxc F]
theorem zy3(F:Nat):q02 pp (zy2 F):=⟨qx9 F,qar F,zsp F,trivial⟩
def z6c(F:Nat):ToldF:=⟨69,1,[.slot 0 (.L 64)],[.row .u8 1],u1 (z0q F)⟩
theorem j1u(F:Nat):(z6c F).ok pp:=
 okF q00 (zy3 F) (fn:=Tryz.f69) [] (by kernel_rfl) aN fun d=>by kernel_rfl
def qnf(F:Nat):ToldF:=⟨142,1,[.slot 0 .I],[.ty .I],u1 (qsd F)⟩
theorem zde(F:Nat):(qnf F).ok pp:=
 okF q00 (qx1 F) (fn:=Tryz.f142) [] (by kernel_rfl) aN fun d=>by kernel_rfl
def qvy(F:Nat):List ToldF:=[q7t F,qnf F]
theorem q9z(F:Nat):q02 pp (qvy F):=⟨qem F,zde F,trivial⟩
def qfg(F:Nat):TL:=⟨39,[.slot 1 .I,.slot 2 .I,.fn 3 142 [],.row .i64 1 (.slot 9) true,.const 10 .nils,.slot 14 (.L 64),.slot 15 .I],[.slot 2 .I,.fn 3 142 [],.row .i64 1 (.slot 9) true,.const 10 .nils],0,fun k=>u5 (q2i F k),fun k=>u5 (q5x F (q2i F k))⟩
theorem qvz(F:Nat):(qfg F).ok pp Tryz.f128 F:=
 okL q00 (q9z F) [] aN (fun _=>rfl) (fun _ _=>rfl) fun k d=>by kernel_rfl
def qfh(F:Nat):TL:=⟨39,[.fn 3 142 [],.row .i64 1 (.slot 9) true,.row .i64 1 (.slot 10) true,.slot 25 .I,.slot 26 .I],[.row .i64 1 (.slot 9) true,.row .i64 1 (.slot 10) true],2,fun k=>u4 (q1p F k),fun k=>u4 (q27 F (q1p F k))⟩
theorem qw0(F:Nat):(qfh F).ok pp Tryz.f128 F:=
 okL q00 (q9z F) [] aN (fun _=>rfl) (fun _ _=>rfl) fun k d=>by kernel_rfl
def qep(F:Nat):ToldF:=⟨128,4,[.slot 0 (.L 64),.slot 1 .I,.slot 2 .I,.fn 3 142 []],[.ty .I],u3 (qea F)⟩
theorem qxd(F:Nat):(qep F).ok pp:=
 okF q00 (q9z F) (fn:=Tryz.f128) [(0,(qfg F).ann F),(2,(qfh F).ann F)] (by kernel_rfl) (aL (by kernel_rfl) (qvz F) (aL (by kernel_rfl) (qw0 F) aN)) fun d=>by kernel_rfl
def znf(F:Nat):List ToldF:=[qep F]
theorem zng(F:Nat):q02 pp (znf F):=⟨qxd F,trivial⟩
def qln(F:Nat):ToldF:=⟨76,2,[.slot 0 (.L 64),.slot 1 .I],[.ty .I],u2 (qpp F)⟩
theorem z6d(F:Nat):(qln F).ok pp:=
 okF q00 (zng F) (fn:=Tryz.f76) [] (by kernel_rfl) aN fun d=>by kernel_rfl
def zhv(F:Nat):List ToldF:=[qeo F]
theorem zhw(F:Nat):q02 pp (zhv F):=⟨qts F,trivial⟩
def qtt(F:Nat):ToldF:=⟨132,3,[.slot 0 .I,.slot 1 .I,.slot 2 (.L 16)],[.row .u8 1,.ty .I],u3 (q5j F)⟩
theorem znh(F:Nat):(qtt F).ok pp:=
 okF q00 (zhw F) (fn:=Tryz.f132) [] (by kernel_rfl) aN fun d=>by kernel_rfl
def zsq(F:Nat):List ToldF:=[q5h F,qln F,qtt F]
theorem zsr(F:Nat):q02 pp (zsq F):=⟨qar F,z6d F,znh F,trivial⟩
def z28(F:Nat):ToldF:=⟨70,2,[.slot 0 (.L 64),.slot 1 .I],[.row .u8 1],u2 (qlj F)⟩
theorem zy4(F:Nat):(z28 F).ok pp:=
 okF q00 (zsr F) (fn:=Tryz.f70) [] (by kernel_rfl) aN fun d=>by kernel_rfl
def qlo(F:Nat):ToldF:=⟨134,2,[.slot 0 .I,.segs [.J] (.slot 1) false,.ptr 1 1 1],[.ty .I],u2 (qoj F)⟩
theorem z9t(F:Nat):(qlo F).ok pp:=
 okF q00 (qx1 F) (fn:=Tryz.f134) [] (by kernel_rfl) aN fun d=>by kernel_rfl
def qsq(F:Nat):List ToldF:=[q7t F,qlo F]
theorem q8o(F:Nat):q02 pp (qsq F):=⟨qem F,z9t F,trivial⟩
def qeq(F:Nat):TL:=⟨39,[.slot 1 .I,.slot 2 .I,.segs [.J] (.cap (.slot 3) 0) false,.fn 3 134 [.ptr 1 1],.row .i64 1 (.slot 9) true,.const 10 .nils,.slot 14 (.L 64),.slot 15 .I],[.slot 2 .I,.segs [.J] (.cap (.slot 3) 0) false,.fn 3 134 [.ptr 1 1],.row .i64 1 (.slot 9) true,.const 10 .nils],0,fun k=>u6 (q28 F k),fun k=>u6 (q4w F (q28 F k))⟩
theorem qsr(F:Nat):(qeq F).ok pp Tryz.f128 F:=
 okL q00 (q8o F) [] aN (fun _=>rfl) (fun _ _=>rfl) fun k d=>by kernel_rfl
def qer(F:Nat):TL:=⟨39,[.segs [.J] (.cap (.slot 3) 0) false,.fn 3 134 [.ptr 1 1],.row .i64 1 (.slot 9) true,.row .i64 1 (.slot 10) true,.slot 25 .I,.slot 26 .I],[.row .i64 1 (.slot 9) true,.row .i64 1 (.slot 10) true],2,fun k=>u5 (q1e F k),fun k=>u5 (q1z F (q1e F k))⟩
theorem qss(F:Nat):(qer F).ok pp Tryz.f128 F:=
 okL q00 (q8o F) [] aN (fun _=>rfl) (fun _ _=>rfl) fun k d=>by kernel_rfl
def qdh(F:Nat):ToldF:=⟨128,4,[.slot 0 (.L 64),.slot 1 .I,.slot 2 .I,.segs [.J] (.cap (.slot 3) 0) false,.fn 3 134 [.ptr 1 1]],[.ty .I],u4 (q8h F)⟩
theorem qw1(F:Nat):(qdh F).ok pp:=
 okF q00 (q8o F) (fn:=Tryz.f128) [(0,(qeq F).ann F),(2,(qer F).ann F)] (by kernel_rfl) (aL (by kernel_rfl) (qsr F) (aL (by kernel_rfl) (qss F) aN)) fun d=>by kernel_rfl
def z6g(F:Nat):List ToldF:=[q8y F]
theorem z6h(F:Nat):q02 pp (z6g F):=⟨qh6 F,trivial⟩
def qlp(F:Nat):ToldF:=⟨194,5,[.slot 0 .I,.slot 1 .I,.row .u8 1 (.cell (.slot 2) 0) true (some 0),.segs [.sl 1 1 .own] (.slot 2) true (some 1),.ptr 2 2 1,.segs [.J] (.slot 3) true (some 2),.ptr 3 3 1,.segs [.hole (.bool)] (.slot 4) true (some 3),.ptr 4 4 1],[.psegs 1 [.row .u8 1 true],.psegs 2 [.J],.psegs 3 [.hole (.bool)]],u5 (q3m F)⟩
theorem z9u(F:Nat):(qlp F).ok pp:=
 okF q00 (z6h F) (fn:=Tryz.f194) [] (by kernel_rfl) aN fun d=>by kernel_rfl
def zhx(F:Nat):List ToldF:=[q8y F,qlp F]
theorem qlq(F:Nat):q02 pp (zhx F):=⟨qh6 F,z9u F,trivial⟩
def qxe(F:Nat):TL:=⟨62,[.segs [.hole (.L 8)] (.slot 3) true,.ptr 3 1 8,.segs [.hole (.L 2)] (.slot 4) true,.ptr 4 2 2,.segs [.hole (.L 16)] (.slot 5) true,.ptr 5 3 16,.row .u8 1 (.cell (.slot 8) 0) true,.segs [.sl 4 1 .own] (.slot 8) true,.ptr 8 5 1,.segs [.hole (.bool)] (.slot 11) true,.ptr 11 6 1,.segs [.J] (.cap (.slot 12) 1) true,.fn 12 194 [.ptr 5 1,.ptr 7 1,.ptr 6 1],.slot 22 .I],[.segs [.hole (.L 2)] (.slot 4) true,.ptr 4 1 2,.segs [.hole (.L 16)] (.slot 5) true,.ptr 5 2 16,.row .u8 1 (.cell (.slot 8) 0) true,.segs [.sl 3 1 .own] (.slot 8) true,.ptr 8 4 1,.segs [.hole (.bool)] (.slot 11) true,.ptr 11 5 1,.segs [.J] (.cap (.slot 12) 1) true,.fn 12 194 [.ptr 4 1,.ptr 6 1,.ptr 5 1]],0,fun k=>u7 (q56 F k),fun k=>u7 (qe1 F (q56 F k))⟩
theorem zhy(F:Nat):(qxe F).ok pp Tryz.f135 F:=
 okL q00 (qlq F) [] aN (fun _=>rfl) (fun _ _=>rfl) fun k d=>by kernel_rfl
def qxf(F:Nat):TL:=⟨62,[.row .u8 1 (.cell (.slot 8) 0) true,.segs [.sl 1 1 .own] (.slot 8) true,.ptr 8 2 1,.segs [.hole (.bool)] (.slot 11) true,.ptr 11 3 1,.segs [.J] (.cap (.slot 12) 1) true,.fn 12 194 [.ptr 2 1,.ptr 4 1,.ptr 3 1],.slot 46 (.L 16),.slot 47 .I],[.row .u8 1 (.cell (.slot 8) 0) true,.segs [.sl 1 1 .own] (.slot 8) true,.ptr 8 2 1,.segs [.hole (.bool)] (.slot 11) true,.ptr 11 3 1],2,fun k=>u5 (q57 F k),fun k=>u5 (qe2 F (q57 F k))⟩
theorem zhz(F:Nat):(qxf F).ok pp Tryz.f135 F:=
 okL q00 (qlq F) [] aN (fun _=>rfl) (fun _ _=>rfl) fun k d=>by kernel_rfl
def qtu(F:Nat):ToldF:=⟨135,3,[.slot 0 (.L 8),.slot 1 (.L 2),.slot 2 (.L 16)],[.row .u8 1,.ty .I],u3 (qfs F)⟩
theorem zni(F:Nat):(qtu F).ok pp:=
 okF q00 (qlq F) (fn:=Tryz.f135) [(0,(qxe F).ann F),(2,(qxf F).ann F)] (by kernel_rfl) (aL (by kernel_rfl) (zhy F) (aL (by kernel_rfl) (zhz F) aN)) fun d=>by kernel_rfl
def zi0(F:Nat):List ToldF:=[q5h F,qdh F,qtu F]
theorem qxg(F:Nat):q02 pp (zi0 F):=⟨qar F,qw1 F,zni F,trivial⟩
def qxh(F:Nat):TL:=⟨30,[.segs [.hole (.L 64)] (.slot 1) false,.ptr 1 1 64,.segs [.J] (.slot 2) true,.ptr 2 2 1,.segs [.hole (.L 4)] (.slot 4) true,.ptr 4 3 4,.slot 8 .I],[.segs [.J] (.slot 2) true,.ptr 2 1 1,.segs [.hole (.L 4)] (.slot 4) true,.ptr 4 2 4],0,fun k=>u4 (q6y F k),fun k=>u4 (qeb F (q6y F k))⟩
theorem zi1(F:Nat):(qxh F).ok pp Tryz.f133 F:=
 okL q00 (qxg F) [] aN (fun _=>rfl) (fun _ _=>rfl) fun k d=>by kernel_rfl
def qtv(F:Nat):ToldF:=⟨133,2,[.slot 0 .I,.segs [.hole (.L 64)] (.slot 1) false,.ptr 1 1 64],[.row .u8 1],u2 (qlk F)⟩
theorem znj(F:Nat):(qtv F).ok pp:=
 okF q00 (qxg F) (fn:=Tryz.f133) [(0,(qxh F).ann F)] (by kernel_rfl) (aL (by kernel_rfl) (zi1 F) aN) fun d=>by kernel_rfl
def qxj(F:Nat):TL:=⟨17,[.slot 0 (.int .u8),.segs [.hole (.is .u64 8)] (.slot 2) true,.ptr 2 1 8,.segs [.hole (.is .u64 8)] (.slot 3) true,.ptr 3 2 8,.slot 5 .I],[.segs [.hole (.is .u64 8)] (.slot 2) true,.ptr 2 1 8,.segs [.hole (.is .u64 8)] (.slot 3) true,.ptr 3 2 8],0,fun k=>u4 (qgs F k),fun k=>u4 (qwn F (qgs F k))⟩
theorem zi3(F:Nat):(qxj F).ok pp Tryz.f242 F:=
 okL q00 (qx1 F) [] aN (fun _=>rfl) (fun _ _=>rfl) fun k d=>by kernel_rfl
def qik(F:Nat):ToldF:=⟨242,1,[.slot 0 (.int .u8)],[.ty (.is .u64 8)],u1 (ql7 F)⟩
theorem z29(F:Nat):(qik F).ok pp:=
 okF q00 (qx1 F) (fn:=Tryz.f242) [(0,(qxj F).ann F)] (by kernel_rfl) (aL (by kernel_rfl) (zi3 F) aN) fun d=>by kernel_rfl
def zy5(F:Nat):List ToldF:=[qik F]
theorem zy6(F:Nat):q02 pp (zy5 F):=⟨z29 F,trivial⟩
def z6i(F:Nat):ToldF:=⟨235,2,[.row .u8 1 (.slot 0) false,.slot 1 .I],[.ty (.int .u64)],u2 (zg8 F)⟩
theorem j1v(F:Nat):(z6i F).ok pp:=
 okF q00 (zy6 F) (fn:=Tryz.f235) [] (by kernel_rfl) aN fun d=>by kernel_rfl
def zy7(F:Nat):List ToldF:=[qen F,z6i F]
theorem zcb(F:Nat):q02 pp (zy7 F):=⟨qso F,j1v F,trivial⟩
def zcc(F:Nat):TX:=⟨34,[.row .u8 1 (.slot 0) false,.slot 1 .I,.slot 8 .I,.slot 9 (.int .u64),.slot 15 .I,.slot 16 .I],[.const 6 (.int .u64 (some 0) 0),.slot 7 .I],[.slot 8 .I,.slot 9 (.int .u64)],.ret,0,fun k=>u6 (qcy F k),fun k=>u6 (qn4 F (qcy F k))⟩
theorem zy8(F:Nat):(zcc F).ok pp Tryz.f209 F:=
 okX q00 (zcb F) [] aN (fun _=>rfl) (fun _ _=>rfl) (eR rfl) fun k d=>by kernel_rfl
def qst(F:Nat):ToldF:=⟨209,3,[.row .u8 1 (.slot 0) false,.slot 1 .I,.slot 2 .I],[.ty (.int .u64),.ty .I],u3 (z0j F)⟩
theorem zi4(F:Nat):(qst F).ok pp:=
 okF q00 (zcb F) (fn:=Tryz.f209) [(0,(zcc F).ann F)] (by kernel_rfl) (aX (by kernel_rfl) (zy8 F) aN) fun d=>by kernel_rfl
def zss(F:Nat):List ToldF:=[qon F,qst F]
theorem z6j(F:Nat):q02 pp (zss F):=⟨zc9 F,zi4 F,trivial⟩
def z6k(F:Nat):TL:=⟨63,[.row .u8 1 (.slot 0) false,.slot 1 .I,.slot 2 .I,.row .i64 1 (.slot 10) true,.slot 41 .I,.slot 42 .I],[.row .i64 1 (.slot 10) true],1,fun k=>u6 (qd8 F k),fun k=>u6 (qrz F (qd8 F k))⟩
theorem zst(F:Nat):(z6k F).ok pp Tryz.f177 F:=
 okL q00 (z6j F) [] aN (fun _=>rfl) (fun _ _=>rfl) fun k d=>by kernel_rfl
def qh7(F:Nat):ToldF:=⟨177,4,[.row .u8 1 (.slot 0) false,.slot 1 .I,.slot 2 .I,.slot 3 .I],[.row .i64 1,.ty .I],u4 (ql9 F)⟩
theorem qxk(F:Nat):(qh7 F).ok pp:=
 okF q00 (z6j F) (fn:=Tryz.f177) [(1,(z6k F).ann F)] (by kernel_rfl) (aL (by kernel_rfl) (zst F) aN) fun d=>by kernel_rfl
def zdf(F:Nat):List ToldF:=[q47 F,qh7 F]
theorem qtw(F:Nat):q02 pp (zdf F):=⟨q8n F,qxk F,trivial⟩
def qtx(F:Nat):TL:=⟨29,[.segs [.hole (.L 16)] (.slot 2) true,.ptr 2 1 16,.segs [.hole (.L 16)] (.slot 4) true,.ptr 4 2 16,.row .i64 1 (.slot 5) true,.slot 17 .I],[.segs [.hole (.L 16)] (.slot 2) true,.ptr 2 1 16,.segs [.hole (.L 16)] (.slot 4) true,.ptr 4 2 16],0,fun k=>u4 (q3v F k),fun k=>u4 (q62 F (q3v F k))⟩
theorem zdg(F:Nat):(qtx F).ok pp Tryz.f119 F:=
 okL q00 (qtw F) [] aN (fun _=>rfl) (fun _ _=>rfl) fun k d=>by kernel_rfl
def qpy(F:Nat):ToldF:=⟨119,1,[.row .u8 1 (.slot 0) false],[.ty (.L 16),.ty .I],u1 (qn6 F)⟩
theorem zi5(F:Nat):(qpy F).ok pp:=
 okF q00 (qtw F) (fn:=Tryz.f119) [(0,(qtx F).ann F)] (by kernel_rfl) (aL (by kernel_rfl) (zdg F) aN) fun d=>by kernel_rfl
def zi6(F:Nat):List ToldF:=[qh7 F]
theorem zi7(F:Nat):q02 pp (zi6 F):=⟨qxk F,trivial⟩
def qty(F:Nat):ToldF:=⟨178,1,[.row .u8 1 (.slot 0) false],[.ty .I,.ty .I,.ty (.L 16),.ty .I],u1 (qs5 F)⟩
theorem znk(F:Nat):(qty F).ok pp:=
 okF q00 (zi7 F) (fn:=Tryz.f178) [] (by kernel_rfl) aN fun d=>by kernel_rfl
def zdh(F:Nat):List ToldF:=[q47 F]
theorem zdi(F:Nat):q02 pp (zdh F):=⟨q8n F,trivial⟩
def qpz(F:Nat):ToldF:=⟨210,1,[.slot 0 .I],[.ty (.L 4)],u1 (qhj F)⟩
theorem zi8(F:Nat):(qpz F).ok pp:=
 okF q00 (zdi F) (fn:=Tryz.f210) [] (by kernel_rfl) aN fun d=>by kernel_rfl
def qh8(F:Nat):ToldF:=⟨207,5,[.slot 0 .I,.slot 1 .I,.slot 2 .I,.slot 3 .I,.slot 4 .I],[.ty .I],u5 (qph F)⟩
theorem qxl(F:Nat):(qh8 F).ok pp:=
 okF q00 (qx1 F) (fn:=Tryz.f207) [] (by kernel_rfl) aN fun d=>by kernel_rfl
def z9v(F:Nat):List ToldF:=[qh8 F]
theorem qq0(F:Nat):q02 pp (z9v F):=⟨qxl F,trivial⟩
def qq1(F:Nat):TL:=⟨28,[.slot 2 .I,.slot 3 .I,.segs [.hole (.L 4)] (.slot 4) true,.ptr 4 1 4,.segs [.hole (.L 4)] (.slot 5) true,.ptr 5 2 4,.segs [.hole (.L 4)] (.slot 8) true,.ptr 8 3 4,.segs [.hole (.L 4)] (.slot 9) true,.ptr 9 4 4,.slot 12 .I],[.segs [.hole (.L 4)] (.slot 8) true,.ptr 8 1 4,.segs [.hole (.L 4)] (.slot 9) true,.ptr 9 2 4],0,fun k=>u7 (q2w F k),fun k=>u7 (qb0 F (q2w F k))⟩
theorem z9w(F:Nat):(qq1 F).ok pp Tryz.f211 F:=
 okL q00 (qq0 F) [] aN (fun _=>rfl) (fun _ _=>rfl) fun k d=>by kernel_rfl
def qng(F:Nat):ToldF:=⟨211,4,[.slot 0 (.L 4),.slot 1 (.L 4),.slot 2 .I,.slot 3 .I],[.ty (.L 4)],u4 (q6c F)⟩
theorem zdj(F:Nat):(qng F).ok pp:=
 okF q00 (qq0 F) (fn:=Tryz.f211) [(0,(qq1 F).ann F)] (by kernel_rfl) (aL (by kernel_rfl) (z9w F) aN) fun d=>by kernel_rfl
def z9x(F:Nat):List ToldF:=[qpz F,qng F]
theorem z9y(F:Nat):q02 pp (z9x F):=⟨zi8 F,zdj F,trivial⟩
def qnh(F:Nat):ToldF:=⟨179,3,[.slot 0 .I,.slot 1 .I,.slot 2 (.bool)],[.ty (.L 16)],u3 (qju F)⟩
theorem zdk(F:Nat):(qnh F).ok pp:=
 okF q00 (z9y F) (fn:=Tryz.f179) [] (by kernel_rfl) aN fun d=>by kernel_rfl
def zdl(F:Nat):List ToldF:=[qty F,qnh F]
theorem qtz(F:Nat):q02 pp (zdl F):=⟨znk F,zdk F,trivial⟩
def qu0(F:Nat):TL:=⟨41,[.segs [.hole (.L 64)] (.slot 4) true,.ptr 4 1 64,.segs [.hole (.L 64)] (.slot 6) true,.ptr 6 2 64,.segs [.hole (.L 16)] (.slot 11) true,.ptr 11 3 16,.slot 29 (.L 16),.slot 30 .I],[.segs [.hole (.L 64)] (.slot 4) true,.ptr 4 1 64,.segs [.hole (.L 64)] (.slot 6) true,.ptr 6 2 64],0,fun k=>u5 (q3x F k),fun k=>u5 (q64 F (q3x F k))⟩
theorem zdm(F:Nat):(qu0 F).ok pp Tryz.f121 F:=
 okL q00 (qtz F) [] aN (fun _=>rfl) (fun _ _=>rfl) fun k d=>by kernel_rfl
def qq2(F:Nat):ToldF:=⟨121,2,[.row .u8 1 (.slot 0) false,.slot 1 (.bool)],[.ty (.L 64),.ty .I],u2 (q7x F)⟩
theorem zi9(F:Nat):(qq2 F).ok pp:=
 okF q00 (qtz F) (fn:=Tryz.f121) [(0,(qu0 F).ann F)] (by kernel_rfl) (aL (by kernel_rfl) (zdm F) aN) fun d=>by kernel_rfl
def qq3(F:Nat):ToldF:=⟨120,2,[.slot 0 (.L 64),.slot 1 .I],[.ty (.L 64)],u2 (qak F)⟩
theorem zia(F:Nat):(qq3 F).ok pp:=
 okF q00 (qx1 F) (fn:=Tryz.f120) [] (by kernel_rfl) aN fun d=>by kernel_rfl
def qxn(F:Nat):TL:=⟨23,[.slot 1 .I,.segs [.hole (.L 64)] (.slot 4) true,.ptr 4 1 64,.segs [.hole (.L 64)] (.slot 8) true,.ptr 8 2 64,.slot 11 (.L 16),.slot 12 .I],[.segs [.hole (.L 64)] (.slot 4) true,.ptr 4 1 64,.segs [.hole (.L 64)] (.slot 8) true,.ptr 8 2 64],0,fun k=>u5 (q9f F k),fun k=>u5 (qe5 F (q9f F k))⟩
theorem zic(F:Nat):(qxn F).ok pp Tryz.f118 F:=
 okL q00 (qx1 F) [] aN (fun _=>rfl) (fun _ _=>rfl) fun k d=>by kernel_rfl
def qil(F:Nat):ToldF:=⟨118,4,[.slot 0 (.L 64),.slot 1 .I,.slot 2 (.L 16),.slot 3 .I],[.ty (.L 64)],u4 (qfz F)⟩
theorem z2a(F:Nat):(qil F).ok pp:=
 okF q00 (qx1 F) (fn:=Tryz.f118) [(0,(qxn F).ann F)] (by kernel_rfl) (aL (by kernel_rfl) (zic F) aN) fun d=>by kernel_rfl
def z4l(F:Nat):ToldF:=⟨140,1,[.slot 0 .I],[.ty .I],u1 (zho F)⟩
theorem zy9(F:Nat):(z4l F).ok pp:=
 okF q00 (qx1 F) (fn:=Tryz.f140) [] (by kernel_rfl) aN fun d=>by kernel_rfl
def zsw(F:Nat):List ToldF:=[qik F]
theorem zsx(F:Nat):q02 pp (zsw F):=⟨z29 F,trivial⟩
def z2b(F:Nat):ToldF:=⟨234,2,[.row .u8 1 (.slot 0) false,.slot 1 .I],[.ty (.int .u64)],u2 (z63 F)⟩
theorem zya(F:Nat):(z2b F).ok pp:=
 okF q00 (zsx F) (fn:=Tryz.f234) [] (by kernel_rfl) aN fun d=>by kernel_rfl
def zsy(F:Nat):List ToldF:=[qen F,z2b F]
theorem z6l(F:Nat):q02 pp (zsy F):=⟨qso F,zya F,trivial⟩
def z6m(F:Nat):TX:=⟨33,[.row .u8 1 (.slot 0) false,.slot 1 .I,.slot 8 .I,.slot 9 (.int .u64),.slot 15 .I,.slot 16 .I],[.const 6 (.int .u64 (some 0) 0),.slot 7 .I],[.slot 8 .I,.slot 9 (.int .u64)],.ret,0,fun k=>u6 (qaa F k),fun k=>u6 (qjo F (qaa F k))⟩
theorem zsz(F:Nat):(z6m F).ok pp Tryz.f206 F:=
 okX q00 (z6l F) [] aN (fun _=>rfl) (fun _ _=>rfl) (eR rfl) fun k d=>by kernel_rfl
def qbu(F:Nat):ToldF:=⟨206,3,[.row .u8 1 (.slot 0) false,.slot 1 .I,.slot 2 .I],[.ty (.int .u64),.ty .I],u3 (qdu F)⟩
theorem qni(F:Nat):(qbu F).ok pp:=
 okF q00 (z6l F) (fn:=Tryz.f206) [(0,(z6m F).ann F)] (by kernel_rfl) (aX (by kernel_rfl) (zsz F) aN) fun d=>by kernel_rfl
def zdp(F:Nat):List ToldF:=[qbu F]
theorem zdq(F:Nat):q02 pp (zdp F):=⟨qni F,trivial⟩
def qq4(F:Nat):ToldF:=⟨205,3,[.slot 0 .I,.slot 1 .I,.row .u8 1 (.cell (.slot 2) 0) false,.segs [.sl 1 1 .whole] (.slot 2) false,.ptr 2 2 1],[.ty .I],u3 (qai F)⟩
theorem zid(F:Nat):(qq4 F).ok pp:=
 okF q00 (zdq F) (fn:=Tryz.f205) [] (by kernel_rfl) aN fun d=>by kernel_rfl
def zt0(F:Nat):List ToldF:=[z4l F,qq4 F]
theorem z6n(F:Nat):q02 pp (zt0 F):=⟨zy9 F,zid F,trivial⟩
def z6o(F:Nat):TL:=⟨32,[.segs [.hole (.L 16)] (.slot 5) true,.ptr 5 1 16,.segs [.hole (.L 16)] (.slot 7) true,.ptr 7 2 16,.row .u8 1 (.cell (.cap (.slot 8) 0) 0) false,.segs [.sl 3 1 .whole] (.cap (.slot 8) 0) true,.fn 8 205 [.ptr 4 1],.slot 15 .I],[.segs [.hole (.L 16)] (.slot 5) true,.ptr 5 1 16,.segs [.hole (.L 16)] (.slot 7) true,.ptr 7 2 16,.row .u8 1 (.cell (.cap (.slot 8) 0) 0) false,.segs [.sl 3 1 .whole] (.cap (.slot 8) 0) true,.fn 8 205 [.ptr 4 1]],0,fun k=>u4 (q85 F k),fun k=>u4 (qbc F (q85 F k))⟩
theorem zt1(F:Nat):(z6o F).ok pp Tryz.f173 F:=
 okL q00 (z6n F) [] aN (fun _=>rfl) (fun _ _=>rfl) fun k d=>by kernel_rfl
def z2c(F:Nat):ToldF:=⟨173,1,[.row .u8 1 (.slot 0) false],[.ty .I,.ty .I,.ty .I,.ty (.L 16),.ty .I],u1 (z6b F)⟩
theorem zyb(F:Nat):(z2c F).ok pp:=
 okF q00 (z6n F) (fn:=Tryz.f173) [(0,(z6o F).ann F)] (by kernel_rfl) (aL (by kernel_rfl) (zt1 F) aN) fun d=>by kernel_rfl
def z2d(F:Nat):ToldF:=⟨174,1,[.slot 0 .I],[.ty (.L 8)],u1 (q6l F)⟩
theorem zyc(F:Nat):(z2d F).ok pp:=
 okF q00 (qx1 F) (fn:=Tryz.f174) [] (by kernel_rfl) aN fun d=>by kernel_rfl
def q6a(F:Nat):ToldF:=⟨137,2,[.slot 0 .I,.slot 1 .I],[.ty .I],u2 (q6t F)⟩
theorem qbv(F:Nat):(q6a F).ok pp:=
 okF q00 (qx1 F) (fn:=Tryz.f137) [] (by kernel_rfl) aN fun d=>by kernel_rfl
def zt4(F:Nat):List ToldF:=[q6a F]
theorem zt5(F:Nat):q02 pp (zt4 F):=⟨qbv F,trivial⟩
def qop(F:Nat):ToldF:=⟨144,4,[.slot 0 .I,.slot 1 .I,.slot 2 .I,.slot 3 (.bool)],[.ty .I],u4 (qww F)⟩
theorem zcd(F:Nat):(qop F).ok pp:=
 okF q00 (zt5 F) (fn:=Tryz.f144) [] (by kernel_rfl) aN fun d=>by kernel_rfl
def znl(F:Nat):List ToldF:=[z2c F,z2d F,qop F]
theorem z2e(F:Nat):q02 pp (znl F):=⟨zyb F,zyc F,zcd F,trivial⟩
def z2f(F:Nat):TL:=⟨44,[.slot 1 (.bool),.segs [.hole (.L 16)] (.slot 4) true,.ptr 4 1 16,.slot 6 .I,.slot 7 .I,.segs [.hole (.L 16)] (.slot 9) true,.ptr 9 2 16,.segs [.hole (.L 8)] (.slot 11) true,.ptr 11 3 8,.slot 28 (.L 16),.slot 29 .I],[.segs [.hole (.L 16)] (.slot 4) true,.ptr 4 1 16,.segs [.hole (.L 16)] (.slot 9) true,.ptr 9 2 16],0,fun k=>u8 (q6m F k),fun k=>u8 (q9e F (q6m F k))⟩
theorem znm(F:Nat):(z2f F).ok pp Tryz.f115 F:=
 okL q00 (z2e F) [] aN (fun _=>rfl) (fun _ _=>rfl) fun k d=>by kernel_rfl
def qlr(F:Nat):ToldF:=⟨115,2,[.row .u8 1 (.slot 0) false,.slot 1 (.bool)],[.ty (.L 16),.ty .I],u2 (qkx F)⟩
theorem z6p(F:Nat):(qlr F).ok pp:=
 okF q00 (z2e F) (fn:=Tryz.f115) [(0,(z2f F).ann F)] (by kernel_rfl) (aL (by kernel_rfl) (znm F) aN) fun d=>by kernel_rfl
def zdr(F:Nat):List ToldF:=[qh7 F]
theorem zds(F:Nat):q02 pp (zdr F):=⟨qxk F,trivial⟩
def qq5(F:Nat):ToldF:=⟨175,1,[.row .u8 1 (.slot 0) false],[.ty .I,.ty .I,.ty (.L 16),.ty .I],u1 (qn5 F)⟩
theorem zig(F:Nat):(qq5 F).ok pp:=
 okF q00 (zds F) (fn:=Tryz.f175) [] (by kernel_rfl) aN fun d=>by kernel_rfl
def zih(F:Nat):List ToldF:=[qh8 F]
theorem qxo(F:Nat):q02 pp (zih F):=⟨qxl F,trivial⟩
def qxp(F:Nat):TL:=⟨31,[.slot 0 .I,.slot 1 .I,.segs [.hole (.L 8)] (.slot 4) true,.ptr 4 1 8,.segs [.hole (.L 8)] (.slot 5) true,.ptr 5 2 8,.slot 6 .I,.slot 16 .I,.slot 17 .I],[.segs [.hole (.L 8)] (.slot 4) true,.ptr 4 1 8,.segs [.hole (.L 8)] (.slot 5) true,.ptr 5 2 8],0,fun k=>u7 (q6s F k),fun k=>u7 (qlb F (q6s F k))⟩
theorem zii(F:Nat):(qxp F).ok pp Tryz.f176 F:=
 okL q00 (qxo F) [] aN (fun _=>rfl) (fun _ _=>rfl) fun k d=>by kernel_rfl
def qu1(F:Nat):ToldF:=⟨176,2,[.slot 0 .I,.slot 1 .I],[.ty (.L 8)],u2 (qs3 F)⟩
theorem znn(F:Nat):(qu1 F).ok pp:=
 okF q00 (qxo F) (fn:=Tryz.f176) [(0,(qxp F).ann F)] (by kernel_rfl) (aL (by kernel_rfl) (zii F) aN) fun d=>by kernel_rfl
def z9z(F:Nat):List ToldF:=[qq5 F,qu1 F]
theorem qq6(F:Nat):q02 pp (z9z F):=⟨zig F,znn F,trivial⟩
def qq7(F:Nat):TL:=⟨37,[.segs [.hole (.L 16)] (.slot 2) true,.ptr 2 1 16,.segs [.hole (.L 16)] (.slot 6) true,.ptr 6 2 16,.segs [.hole (.L 8)] (.slot 8) true,.ptr 8 3 8,.slot 25 (.L 16),.slot 26 .I],[.segs [.hole (.L 16)] (.slot 2) true,.ptr 2 1 16,.segs [.hole (.L 16)] (.slot 6) true,.ptr 6 2 16],0,fun k=>u5 (q2u F k),fun k=>u5 (q5c F (q2u F k))⟩
theorem za0(F:Nat):(qq7 F).ok pp Tryz.f116 F:=
 okL q00 (qq6 F) [] aN (fun _=>rfl) (fun _ _=>rfl) fun k d=>by kernel_rfl
def qnj(F:Nat):ToldF:=⟨116,1,[.row .u8 1 (.slot 0) false],[.ty (.L 16),.ty .I],u1 (qjp F)⟩
theorem zdt(F:Nat):(qnj F).ok pp:=
 okF q00 (qq6 F) (fn:=Tryz.f116) [(0,(qq7 F).ann F)] (by kernel_rfl) (aL (by kernel_rfl) (za0 F) aN) fun d=>by kernel_rfl
def z1d(F:Nat):List ToldF:=[qlr F,qnj F]
theorem z1e(F:Nat):q02 pp (z1d F):=⟨z6p F,zdt F,trivial⟩
def qhw(F:Nat):ToldF:=⟨114,2,[.row .u8 1 (.slot 0) false,.segs [.J,.J,.hole (.bool)] (.slot 1) false,.ptr 1 2 3],[.ty (.L 16),.ty .I],u4 (qcl F)⟩
theorem z4m(F:Nat):(qhw F).ok pp:=
 okF q00 (z1e F) (fn:=Tryz.f114) [] (by kernel_rfl) aN fun d=>by kernel_rfl
def z1f(F:Nat):List ToldF:=[qil F,qhw F]
theorem z1g(F:Nat):q02 pp (z1f F):=⟨z2a F,z4m F,trivial⟩
def qhx(F:Nat):ToldF:=⟨117,4,[.slot 0 (.L 64),.slot 1 .I,.row .u8 1 (.slot 2) false,.segs [.J,.J,.hole (.bool)] (.cap (.cell (.slot 3) 0) 0) false,.segs [.fnp 114 [(2,3)]] (.slot 3) false,.ptr 3 3 1],[.ty (.L 64)],u6 (q13 F)⟩
theorem z4n(F:Nat):(qhx F).ok pp:=
 okF q00 (z1g F) (fn:=Tryz.f117) [] (by kernel_rfl) aN fun d=>by kernel_rfl
def qu3(F:Nat):TL:=⟨17,[.slot 0 (.bool),.segs [.hole (.L 64)] (.slot 2) true,.ptr 2 1 64,.segs [.hole (.L 64)] (.slot 3) true,.ptr 3 2 64,.slot 5 .I],[.segs [.hole (.L 64)] (.slot 2) true,.ptr 2 1 64,.segs [.hole (.L 64)] (.slot 3) true,.ptr 3 2 64],0,fun k=>u4 (qe6 F k),fun k=>u4 (qtn F (qe6 F k))⟩
theorem zdv(F:Nat):(qu3 F).ok pp Tryz.f122 F:=
 okL q00 (qx1 F) [] aN (fun _=>rfl) (fun _ _=>rfl) fun k d=>by kernel_rfl
def qq8(F:Nat):ToldF:=⟨122,1,[.slot 0 (.bool)],[.ty (.L 64)],u1 (qal F)⟩
theorem zij(F:Nat):(qq8 F).ok pp:=
 okF q00 (qx1 F) (fn:=Tryz.f122) [(0,(qu3 F).ann F)] (by kernel_rfl) (aL (by kernel_rfl) (zdv F) aN) fun d=>by kernel_rfl
def q8z(F:Nat):ToldF:=⟨212,1,[.slot 0 (.int .u8)],[.ty .I],u1 (q4j F)⟩
theorem qls(F:Nat):(q8z F).ok pp:=
 okF q00 (qx1 F) (fn:=Tryz.f212) [] (by kernel_rfl) aN fun d=>by kernel_rfl
def zdw(F:Nat):List ToldF:=[q8z F]
theorem zdx(F:Nat):q02 pp (zdw F):=⟨qls F,trivial⟩
def qq9(F:Nat):ToldF:=⟨180,1,[.row .u8 1 (.slot 0) false],[.ty .I],u1 (qn9 F)⟩
theorem zik(F:Nat):(qq9 F).ok pp:=
 okF q00 (zdx F) (fn:=Tryz.f180) [] (by kernel_rfl) aN fun d=>by kernel_rfl
def qnk(F:Nat):ToldF:=⟨213,0,[],[.row .i64 10],u0 (qs9 F)⟩
theorem zdy(F:Nat):(qnk F).ok pp:=
 okF q00 (qx1 F) (fn:=Tryz.f213) [] (by kernel_rfl) aN fun d=>by kernel_rfl
def z4o(F:Nat):List ToldF:=[qst F]
theorem z4p(F:Nat):q02 pp (z4o F):=⟨zi4 F,trivial⟩
def qbo(F:Nat):ToldF:=⟨214,3,[.slot 0 .I,.row .u8 1 (.cell (.slot 1) 0) false,.segs [.sl 1 1 .whole] (.slot 1) false,.ptr 1 2 1,.segs [.J] (.slot 2) true (some 2),.ptr 2 3 1],[.ty .I,.psegs 2 [.J]],u3 (q16 F)⟩
theorem qnl(F:Nat):(qbo F).ok pp:=
 okF q00 (z4p F) (fn:=Tryz.f214) [] (by kernel_rfl) aN fun d=>by kernel_rfl
def qes(F:Nat):ToldF:=⟨215,2,[.slot 0 (.agg [.I,.I,.I,.I,.I,.I,.I,.I,.I,.I]),.slot 1 .I],[.ty .I],u2 (q8b F)⟩
theorem qu4(F:Nat):(qes F).ok pp:=
 okF q00 (qx1 F) (fn:=Tryz.f215) [] (by kernel_rfl) aN fun d=>by kernel_rfl
def qfb(F:Nat):List ToldF:=[q47 F,qbo F,qes F]
theorem q32(F:Nat):q02 pp (qfb F):=⟨q8n F,qnl F,qu4 F,trivial⟩
def q33(F:Nat):TL:=⟨97,[.row .i64 4 (.cell (.slot 0) 13) true (some 0),.segs [.J,.J,.J,.J,.J,.J,.J,.J,.J,.J,.J,.J,.J,.sl 1 4 .own,.hole (.L 16),.hole (.L 16)] (.slot 0) false,.ptr 0 2 46,.row .u8 1 (.cell (.cap (.slot 1) 0) 0) false,.segs [.sl 3 1 .whole] (.cap (.slot 1) 0) false,.segs [.J] (.cap (.slot 1) 1) true (some 4),.fn 1 214 [.ptr 4 1,.ptr 5 1],.slot 4 .I,.slot 5 .I,.slot 6 .I,.slot 24 .I,.slot 25 .I,.slot 55 (.L 4),.slot 56 .I],[.row .i64 4 (.cell (.slot 0) 13) true (some 0),.segs [.J,.J,.J,.J,.J,.J,.J,.J,.J,.J,.J,.J,.J,.sl 1 4 .own,.hole (.L 16),.hole (.L 16)] (.slot 0) false,.ptr 0 2 46,.row .u8 1 (.cell (.cap (.slot 1) 0) 0) false,.segs [.sl 3 1 .whole] (.cap (.slot 1) 0) false,.segs [.J] (.cap (.slot 1) 1) true (some 4),.fn 1 214 [.ptr 4 1,.ptr 5 1],.slot 4 .I,.slot 5 .I,.slot 6 .I,.slot 24 .I,.slot 25 .I],2,fun k=>u25 (q08 F k),fun k=>u25 (q1k F (q08 F k))⟩
theorem q75(F:Nat):(q33 F).ok pp Tryz.f216 F:=
 okL q00 (q32 F) [] aN (fun _=>rfl) (fun _ _=>rfl) fun k d=>by kernel_rfl
def q76(F:Nat):TL:=⟨97,[.row .i64 4 (.cell (.slot 0) 13) true (some 0),.segs [.J,.J,.J,.J,.J,.J,.J,.J,.J,.J,.J,.J,.J,.sl 1 4 .own,.hole (.L 16),.hole (.L 16)] (.slot 0) false,.ptr 0 2 46,.row .u8 1 (.cell (.cap (.slot 1) 0) 0) false,.segs [.sl 3 1 .whole] (.cap (.slot 1) 0) false,.segs [.J] (.cap (.slot 1) 1) true (some 4),.fn 1 214 [.ptr 4 1,.ptr 5 1],.slot 4 .I,.slot 5 .I,.slot 24 .I,.slot 25 .I],[.row .i64 4 (.cell (.slot 0) 13) true (some 0),.segs [.J,.J,.J,.J,.J,.J,.J,.J,.J,.J,.J,.J,.J,.sl 1 4 .own,.hole (.L 16),.hole (.L 16)] (.slot 0) false,.ptr 0 2 46,.row .u8 1 (.cell (.cap (.slot 1) 0) 0) false,.segs [.sl 3 1 .whole] (.cap (.slot 1) 0) false,.segs [.J] (.cap (.slot 1) 1) true (some 4),.fn 1 214 [.ptr 4 1,.ptr 5 1]],0,fun k=>u22 (q0i F k),fun k=>u22 (q1l F (q0i F k))⟩
theorem qfc(F:Nat):(q76 F).ok pp Tryz.f216 F:=
 okL q00 (q32 F) [(2,(q33 F).ann F)] (aL (by kernel_rfl) (q75 F) aN) (fun _=>rfl) (fun _ _=>rfl) fun k d=>by kernel_rfl
def q6q(F:Nat):ToldF:=⟨216,2,[.row .i64 4 (.cell (.slot 0) 13) true (some 0),.segs [.J,.J,.J,.J,.J,.J,.J,.J,.J,.J,.J,.J,.J,.sl 1 4 .own,.hole (.L 16),.hole (.L 16)] (.slot 0) false,.ptr 0 2 46,.row .u8 1 (.cell (.cap (.slot 1) 0) 0) false,.segs [.sl 3 1 .whole] (.cap (.slot 1) 0) false,.segs [.J] (.cap (.slot 1) 1) true (some 4),.fn 1 214 [.ptr 4 1,.ptr 5 1]],[.prow 0 .i64,.psegs 4 [.J]],u18 (q2k F)⟩
theorem qg7(F:Nat):(q6q F).ok pp:=
 okF q00 (q32 F) (fn:=Tryz.f216) [(2,(q33 F).ann F),(0,(q76 F).ann F)] (by kernel_rfl) (aL (by kernel_rfl) (q75 F) (aL (by kernel_rfl) (qfc F) aN)) fun d=>by kernel_rfl
def qj9(F:Nat):ToldF:=⟨243,1,[.slot 0 (.agg [.I,.I])],[.row .u8 1],u1 (qwr F)⟩
theorem z6q(F:Nat):(qj9 F).ok pp:=
 okF q00 (qx1 F) (fn:=Tryz.f243) [] (by kernel_rfl) aN fun d=>by kernel_rfl
def qlt(F:Nat):ToldF:=⟨237,2,[.slot 0 .I,.slot 1 .I],[.ty (.bool)],u2 (z0n F)⟩
theorem z6r(F:Nat):(qlt F).ok pp:=
 okF q00 (qx1 F) (fn:=Tryz.f237) [] (by kernel_rfl) aN fun d=>by kernel_rfl
def z6s(F:Nat):List ToldF:=[qj9 F,qlt F]
theorem z6t(F:Nat):q02 pp (z6s F):=⟨z6q F,z6r F,trivial⟩
def qlu(F:Nat):ToldF:=⟨236,3,[.slot 0 .I,.slot 1 .I,.slot 2 .I],[.ty .I],u3 (qgu F)⟩
theorem za5(F:Nat):(qlu F).ok pp:=
 okF q00 (z6t F) (fn:=Tryz.f236) [] (by kernel_rfl) aN fun d=>by kernel_rfl
def qqa(F:Nat):List ToldF:=[qlu F]
theorem qdi(F:Nat):q02 pp (qqa F):=⟨za5 F,trivial⟩
def qdj(F:Nat):TL:=⟨35,[.row .i64 4 (.cell (.slot 0) 13) false,.segs [.J,.J,.J,.J,.J,.J,.J,.J,.J,.J,.J,.J,.J,.sl 1 4 .whole,.hole (.L 16),.hole (.L 16)] (.slot 0) false,.ptr 0 2 46,.slot 1 .I,.slot 5 (.bool),.slot 6 .I],[.slot 5 (.bool)],0,fun k=>u19 (q19 F k),fun k=>u19 (q4k F (q19 F k))⟩
theorem qqb(F:Nat):(qdj F).ok pp Tryz.f217 F:=
 okL q00 (qdi F) [] aN (fun _=>rfl) (fun _ _=>rfl) fun k d=>by kernel_rfl
def qbw(F:Nat):ToldF:=⟨217,2,[.row .i64 4 (.cell (.slot 0) 13) false,.segs [.J,.J,.J,.J,.J,.J,.J,.J,.J,.J,.J,.J,.J,.sl 1 4 .whole,.hole (.L 16),.hole (.L 16)] (.slot 0) false,.ptr 0 2 46,.slot 1 .I],[.ty .I],u17 (q79 F)⟩
theorem qsu(F:Nat):(qbw F).ok pp:=
 okF q00 (qdi F) (fn:=Tryz.f217) [(0,(qdj F).ann F)] (by kernel_rfl) (aL (by kernel_rfl) (qqb F) aN) fun d=>by kernel_rfl
def zdz(F:Nat):List ToldF:=[qnk F,qbo F,qes F,q6q F,qbw F]
theorem q90(F:Nat):q02 pp (zdz F):=⟨zdy F,qnl F,qu4 F,qg7 F,qsu F,trivial⟩
def qim(F:Nat):TL:=⟨105,[.segs [.const (.int .i64 (some 0) 0),.const (.int .i64 (some 0) 0),.const (.int .i64 (some 0) 0),.const (.int .i64 (some 0) 0),.const (.int .i64 (some 0) 0),.const (.int .i64 (some 0) 0),.const (.int .i64 (some 0) 0),.const (.int .i64 (some 0) 0),.const (.int .i64 (some 0) 0),.const (.int .i64 (some 0) 0),.const (.int .i64 (some 0) 0),.const (.int .i64 (some 0) 0),.const (.int .i64 (some 0) 0),.const .nils,.hole (.L 16),.hole (.L 16)] (.slot 4) true,.ptr 4 1 46,.row .i64 4 (.cell (.slot 5) 13) true,.segs [.J,.J,.J,.J,.J,.J,.J,.J,.J,.J,.J,.J,.J,.sl 2 4 .own,.hole (.L 16),.hole (.L 16)] (.slot 5) true,.ptr 5 3 46,.row .u8 1 (.cell (.cap (.slot 7) 0) 0) false,.segs [.sl 4 1 .whole] (.cap (.slot 7) 0) true,.segs [.J] (.cap (.slot 7) 1) true,.fn 7 214 [.ptr 5 1,.ptr 6 1],.slot 8 .I,.slot 44 .I,.slot 49 .I,.slot 50 .I],[.segs [.const (.int .i64 (some 0) 0),.const (.int .i64 (some 0) 0),.const (.int .i64 (some 0) 0),.const (.int .i64 (some 0) 0),.const (.int .i64 (some 0) 0),.const (.int .i64 (some 0) 0),.const (.int .i64 (some 0) 0),.const (.int .i64 (some 0) 0),.const (.int .i64 (some 0) 0),.const (.int .i64 (some 0) 0),.const (.int .i64 (some 0) 0),.const (.int .i64 (some 0) 0),.const (.int .i64 (some 0) 0),.const .nils,.hole (.L 16),.hole (.L 16)] (.slot 4) true,.ptr 4 1 46,.row .i64 4 (.cell (.slot 5) 13) true,.segs [.J,.J,.J,.J,.J,.J,.J,.J,.J,.J,.J,.J,.J,.sl 2 4 .own,.hole (.L 16),.hole (.L 16)] (.slot 5) true,.ptr 5 3 46,.row .u8 1 (.cell (.cap (.slot 7) 0) 0) false,.segs [.sl 4 1 .whole] (.cap (.slot 7) 0) true,.segs [.J] (.cap (.slot 7) 1) true,.fn 7 214 [.ptr 5 1,.ptr 6 1],.slot 44 .I],2,fun k=>u24 (q5l F k),fun k=>u24 (qc8 F (q5l F k))⟩
theorem qu5(F:Nat):(qim F).ok pp Tryz.f181 F:=
 okL q00 (q90 F) [] aN (fun _=>rfl) (fun _ _=>rfl) fun k d=>by kernel_rfl
def qu6(F:Nat):TL:=⟨105,[.segs [.const (.int .i64 (some 0) 0),.const (.int .i64 (some 0) 0),.const (.int .i64 (some 0) 0),.const (.int .i64 (some 0) 0),.const (.int .i64 (some 0) 0),.const (.int .i64 (some 0) 0),.const (.int .i64 (some 0) 0),.const (.int .i64 (some 0) 0),.const (.int .i64 (some 0) 0),.const (.int .i64 (some 0) 0),.const (.int .i64 (some 0) 0),.const (.int .i64 (some 0) 0),.const (.int .i64 (some 0) 0),.const .nils,.hole (.L 16),.hole (.L 16)] (.slot 4) true,.ptr 4 1 46,.row .i64 4 (.cell (.slot 5) 13) true,.segs [.J,.J,.J,.J,.J,.J,.J,.J,.J,.J,.J,.J,.J,.sl 2 4 .own,.hole (.L 16),.hole (.L 16)] (.slot 5) true,.ptr 5 3 46,.row .u8 1 (.cell (.cap (.slot 7) 0) 0) false,.segs [.sl 4 1 .whole] (.cap (.slot 7) 0) true,.segs [.J] (.cap (.slot 7) 1) true,.fn 7 214 [.ptr 5 1,.ptr 6 1],.slot 44 .I],[.segs [.const (.int .i64 (some 0) 0),.const (.int .i64 (some 0) 0),.const (.int .i64 (some 0) 0),.const (.int .i64 (some 0) 0),.const (.int .i64 (some 0) 0),.const (.int .i64 (some 0) 0),.const (.int .i64 (some 0) 0),.const (.int .i64 (some 0) 0),.const (.int .i64 (some 0) 0),.const (.int .i64 (some 0) 0),.const (.int .i64 (some 0) 0),.const (.int .i64 (some 0) 0),.const (.int .i64 (some 0) 0),.const .nils,.hole (.L 16),.hole (.L 16)] (.slot 4) true,.ptr 4 1 46,.row .i64 4 (.cell (.slot 5) 13) true,.segs [.J,.J,.J,.J,.J,.J,.J,.J,.J,.J,.J,.J,.J,.sl 2 4 .own,.hole (.L 16),.hole (.L 16)] (.slot 5) true,.ptr 5 3 46,.row .u8 1 (.cell (.cap (.slot 7) 0) 0) false,.segs [.sl 4 1 .whole] (.cap (.slot 7) 0) true,.segs [.J] (.cap (.slot 7) 1) true,.fn 7 214 [.ptr 5 1,.ptr 6 1]],0,fun k=>u21 (q2o F k),fun k=>u21 (qc9 F (q2o F k))⟩
theorem ze0(F:Nat):(qu6 F).ok pp Tryz.f181 F:=
 okL q00 (q90 F) [(2,(qim F).ann F)] (aL (by kernel_rfl) (qu5 F) aN) (fun _=>rfl) (fun _ _=>rfl) fun k d=>by kernel_rfl
def qu7(F:Nat):TL:=⟨105,[.segs [.const (.int .i64 (some 0) 0),.const (.int .i64 (some 0) 0),.const (.int .i64 (some 0) 0),.const (.int .i64 (some 0) 0),.const (.int .i64 (some 0) 0),.const (.int .i64 (some 0) 0),.const (.int .i64 (some 0) 0),.const (.int .i64 (some 0) 0),.const (.int .i64 (some 0) 0),.const (.int .i64 (some 0) 0),.const (.int .i64 (some 0) 0),.const (.int .i64 (some 0) 0),.const (.int .i64 (some 0) 0),.const .nils,.hole (.L 16),.hole (.L 16)] (.slot 4) true,.ptr 4 1 46,.row .i64 4 (.cell (.slot 5) 13) true,.segs [.J,.J,.J,.J,.J,.J,.J,.J,.J,.J,.J,.J,.J,.sl 2 4 .own,.hole (.L 16),.hole (.L 16)] (.slot 5) true,.ptr 5 3 46,.row .u8 1 (.cell (.cap (.slot 7) 0) 0) false,.segs [.sl 4 1 .whole] (.cap (.slot 7) 0) true,.segs [.J] (.cap (.slot 7) 1) true,.fn 7 214 [.ptr 5 1,.ptr 6 1],.slot 69 .I],[.segs [.const (.int .i64 (some 0) 0),.const (.int .i64 (some 0) 0),.const (.int .i64 (some 0) 0),.const (.int .i64 (some 0) 0),.const (.int .i64 (some 0) 0),.const (.int .i64 (some 0) 0),.const (.int .i64 (some 0) 0),.const (.int .i64 (some 0) 0),.const (.int .i64 (some 0) 0),.const (.int .i64 (some 0) 0),.const (.int .i64 (some 0) 0),.const (.int .i64 (some 0) 0),.const (.int .i64 (some 0) 0),.const .nils,.hole (.L 16),.hole (.L 16)] (.slot 4) true,.ptr 4 1 46,.row .i64 4 (.cell (.slot 5) 13) true,.segs [.J,.J,.J,.J,.J,.J,.J,.J,.J,.J,.J,.J,.J,.sl 2 4 .own,.hole (.L 16),.hole (.L 16)] (.slot 5) true,.ptr 5 3 46,.row .u8 1 (.cell (.cap (.slot 7) 0) 0) false,.segs [.sl 4 1 .whole] (.cap (.slot 7) 0) true,.segs [.J] (.cap (.slot 7) 1) true,.fn 7 214 [.ptr 5 1,.ptr 6 1]],4,fun k=>u21 (q5m F k),fun k=>u21 (qca F (q5m F k))⟩
theorem ze1(F:Nat):(qu7 F).ok pp Tryz.f181 F:=
 okL q00 (q90 F) [] aN (fun _=>rfl) (fun _ _=>rfl) fun k d=>by kernel_rfl
def qu8(F:Nat):TL:=⟨105,[.segs [.const (.int .i64 (some 0) 0),.const (.int .i64 (some 0) 0),.const (.int .i64 (some 0) 0),.const (.int .i64 (some 0) 0),.const (.int .i64 (some 0) 0),.const (.int .i64 (some 0) 0),.const (.int .i64 (some 0) 0),.const (.int .i64 (some 0) 0),.const (.int .i64 (some 0) 0),.const (.int .i64 (some 0) 0),.const (.int .i64 (some 0) 0),.const (.int .i64 (some 0) 0),.const (.int .i64 (some 0) 0),.const .nils,.hole (.L 16),.hole (.L 16)] (.slot 4) true,.ptr 4 1 46,.row .i64 4 (.cell (.slot 5) 13) true,.segs [.J,.J,.J,.J,.J,.J,.J,.J,.J,.J,.J,.J,.J,.sl 2 4 .own,.hole (.L 16),.hole (.L 16)] (.slot 5) true,.ptr 5 3 46,.row .u8 1 (.cell (.cap (.slot 7) 0) 0) false,.segs [.sl 4 1 .whole] (.cap (.slot 7) 0) true,.segs [.J] (.cap (.slot 7) 1) true,.fn 7 214 [.ptr 5 1,.ptr 6 1],.slot 88 .I],[.segs [.const (.int .i64 (some 0) 0),.const (.int .i64 (some 0) 0),.const (.int .i64 (some 0) 0),.const (.int .i64 (some 0) 0),.const (.int .i64 (some 0) 0),.const (.int .i64 (some 0) 0),.const (.int .i64 (some 0) 0),.const (.int .i64 (some 0) 0),.const (.int .i64 (some 0) 0),.const (.int .i64 (some 0) 0),.const (.int .i64 (some 0) 0),.const (.int .i64 (some 0) 0),.const (.int .i64 (some 0) 0),.const .nils,.hole (.L 16),.hole (.L 16)] (.slot 4) true,.ptr 4 1 46,.row .i64 4 (.cell (.slot 5) 13) true,.segs [.J,.J,.J,.J,.J,.J,.J,.J,.J,.J,.J,.J,.J,.sl 2 4 .own,.hole (.L 16),.hole (.L 16)] (.slot 5) true,.ptr 5 3 46],6,fun k=>u21 (q5n F k),fun k=>u21 (qcb F (q5n F k))⟩
theorem ze2(F:Nat):(qu8 F).ok pp Tryz.f181 F:=
 okL q00 (q90 F) [] aN (fun _=>rfl) (fun _ _=>rfl) fun k d=>by kernel_rfl
def qqc(F:Nat):ToldF:=⟨181,2,[.row .u8 1 (.slot 0) false,.slot 1 .I],[.agg [.J,.J,.J,.J,.J,.J,.J,.J,.J,.J,.J,.J,.J,.row .i64 4 true,.hole (.L 16),.hole (.L 16)]],u2 (qna F)⟩
theorem zil(F:Nat):(qqc F).ok pp:=
 okF q00 (q90 F) (fn:=Tryz.f181) [(2,(qim F).ann F),(0,(qu6 F).ann F),(4,(qu7 F).ann F),(6,(qu8 F).ann F)] (by kernel_rfl) (aL (by kernel_rfl) (qu5 F) (aL (by kernel_rfl) (ze0 F) (aL (by kernel_rfl) (ze1 F) (aL (by kernel_rfl) (ze2 F) aN)))) fun d=>by kernel_rfl
def qnm(F:Nat):ToldF:=⟨238,0,[],[.ty (.is .u32 64)],u0 (z65 F)⟩
theorem ze3(F:Nat):(qnm F).ok pp:=
 okF q00 (qx1 F) (fn:=Tryz.f238) [] (by kernel_rfl) aN fun d=>by kernel_rfl
def qu9(F:Nat):ToldF:=⟨239,0,[],[.ty (.is .u16 64)],u0 (zhl F)⟩
theorem znq(F:Nat):(qu9 F).ok pp:=
 okF q00 (qx1 F) (fn:=Tryz.f239) [] (by kernel_rfl) aN fun d=>by kernel_rfl
def ze4(F:Nat):List ToldF:=[qlt F,qnm F,qu9 F]
theorem ze5(F:Nat):q02 pp (ze4 F):=⟨z6r F,ze3 F,znq F,trivial⟩
def qqd(F:Nat):ToldF:=⟨218,3,[.slot 0 .I,.slot 1 .I,.slot 2 .I],[.ty .I],u3 (qn7 F)⟩
theorem zio(F:Nat):(qqd F).ok pp:=
 okF q00 (ze5 F) (fn:=Tryz.f218) [] (by kernel_rfl) aN fun d=>by kernel_rfl
def qja(F:Nat):ToldF:=⟨240,1,[.slot 0 .I],[.row .i64 1],u1 (qdw F)⟩
theorem z6u(F:Nat):(qja F).ok pp:=
 okF q00 (qx1 F) (fn:=Tryz.f240) [] (by kernel_rfl) aN fun d=>by kernel_rfl
def zip(F:Nat):List ToldF:=[qh8 F,qja F]
theorem ziq(F:Nat):q02 pp (zip F):=⟨qxl F,z6u F,trivial⟩
def qua(F:Nat):ToldF:=⟨219,4,[.slot 0 .I,.slot 1 .I,.slot 2 .I,.slot 3 .I],[.ty .I],u4 (q4p F)⟩
theorem znr(F:Nat):(qua F).ok pp:=
 okF q00 (ziq F) (fn:=Tryz.f219) [] (by kernel_rfl) aN fun d=>by kernel_rfl
def qqe(F:Nat):List ToldF:=[qqd F,qua F]
theorem qdk(F:Nat):q02 pp (qqe F):=⟨zio F,znr F,trivial⟩
def qdl(F:Nat):TL:=⟨126,[.row .i64 4 (.cell (.slot 0) 13) false,.segs [.J,.J,.J,.J,.J,.J,.J,.J,.J,.J,.J,.J,.J,.sl 1 4 .whole,.hole (.L 16),.hole (.L 16)] (.slot 0) false,.ptr 0 2 46,.segs [.hole (.L 4)] (.slot 4) true,.ptr 4 3 4,.segs [.hole (.L 4)] (.slot 6) true,.ptr 6 4 4,.segs [.hole (.L 4)] (.slot 7) true,.ptr 7 5 4,.slot 8 .I,.slot 9 .I,.slot 10 .I,.slot 11 .I,.segs [.hole (.L 4)] (.slot 12) true,.ptr 12 6 4,.slot 81 .I],[.row .i64 4 (.cell (.slot 0) 13) false,.segs [.J,.J,.J,.J,.J,.J,.J,.J,.J,.J,.J,.J,.J,.sl 1 4 .whole,.hole (.L 16),.hole (.L 16)] (.slot 0) false,.ptr 0 2 46,.segs [.hole (.L 4)] (.slot 4) true,.ptr 4 3 4,.segs [.hole (.L 4)] (.slot 6) true,.ptr 6 4 4,.segs [.hole (.L 4)] (.slot 7) true,.ptr 7 5 4,.slot 10 .I,.slot 11 .I,.segs [.hole (.L 4)] (.slot 12) true,.ptr 12 6 4],0,fun k=>u25 (q0k F k),fun k=>u25 (q4l F (q0k F k))⟩
theorem qqf(F:Nat):(qdl F).ok pp Tryz.f182 F:=
 okL q00 (qdk F) [] aN (fun _=>rfl) (fun _ _=>rfl) fun k d=>by kernel_rfl
def qbx(F:Nat):ToldF:=⟨182,2,[.row .i64 4 (.cell (.slot 0) 13) false,.segs [.J,.J,.J,.J,.J,.J,.J,.J,.J,.J,.J,.J,.J,.sl 1 4 .whole,.hole (.L 16),.hole (.L 16)] (.slot 0) false,.ptr 0 2 46,.slot 1 .I],[.ty (.L 4)],u17 (q7a F)⟩
theorem qsv(F:Nat):(qbx F).ok pp:=
 okF q00 (qdk F) (fn:=Tryz.f182) [(0,(qdl F).ann F)] (by kernel_rfl) (aL (by kernel_rfl) (qqf F) aN) fun d=>by kernel_rfl
def z6v(F:Nat):List ToldF:=[qq9 F,qqc F,qbx F]
theorem qnn(F:Nat):q02 pp (z6v F):=⟨zik F,zil F,qsv F,trivial⟩
def qno(F:Nat):TL:=⟨29,[.segs [.hole (.L 64)] (.slot 2) true,.ptr 2 1 64,.segs [.hole (.L 64)] (.slot 4) true,.ptr 4 2 64,.row .i64 4 (.cell (.slot 6) 13) true,.segs [.J,.J,.J,.J,.J,.J,.J,.J,.J,.J,.J,.J,.J,.sl 3 4 .own,.hole (.L 16),.hole (.L 16)] (.slot 6) true,.ptr 6 4 46,.slot 20 .I],[.segs [.hole (.L 64)] (.slot 2) true,.ptr 2 1 64,.segs [.hole (.L 64)] (.slot 4) true,.ptr 4 2 64],0,fun k=>u19 (q3c F k),fun k=>u19 (qa4 F (q3c F k))⟩
theorem z6w(F:Nat):(qno F).ok pp Tryz.f123 F:=
 okL q00 (qnn F) [] aN (fun _=>rfl) (fun _ _=>rfl) fun k d=>by kernel_rfl
def qlv(F:Nat):ToldF:=⟨123,1,[.row .u8 1 (.slot 0) false],[.ty (.L 64),.ty .I],u1 (qbq F)⟩
theorem za8(F:Nat):(qlv F).ok pp:=
 okF q00 (qnn F) (fn:=Tryz.f123) [(0,(qno F).ann F)] (by kernel_rfl) (aL (by kernel_rfl) (z6w F) aN) fun d=>by kernel_rfl
def z4u(F:Nat):List ToldF:=[qbu F]
theorem z4v(F:Nat):q02 pp (z4u F):=⟨qni F,trivial⟩
def qjb(F:Nat):ToldF:=⟨220,3,[.slot 0 .I,.slot 1 .I,.row .u8 1 (.cell (.slot 2) 0) false,.segs [.sl 1 1 .whole] (.slot 2) false,.ptr 2 2 1],[.ty .I],u3 (q14 F)⟩
theorem z6x(F:Nat):(qjb F).ok pp:=
 okF q00 (z4v F) (fn:=Tryz.f220) [] (by kernel_rfl) aN fun d=>by kernel_rfl
def qet(F:Nat):ToldF:=⟨197,1,[.slot 0 .I],[.ty .I],u1 (q1i F)⟩
theorem qub(F:Nat):(qet F).ok pp:=
 okF q00 (qx1 F) (fn:=Tryz.f197) [] (by kernel_rfl) aN fun d=>by kernel_rfl
def ze6(F:Nat):List ToldF:=[qjb F,qet F]
theorem qin(F:Nat):q02 pp (ze6 F):=⟨z6x F,qub F,trivial⟩
def quc(F:Nat):TL:=⟨95,[.segs [.const (.bool (some false) false),.const (.bool (some false) false),.hole (.L 3),.hole (.L 3),.hole (.L 2),.hole (.L 16)] (.slot 2) true,.ptr 2 1 26,.segs [.hole (.bool),.hole (.bool),.hole (.L 3),.hole (.L 3),.hole (.L 2),.hole (.L 16)] (.slot 4) true,.ptr 4 2 26,.row .u8 1 (.cell (.cap (.slot 5) 0) 0) false,.segs [.sl 3 1 .whole] (.cap (.slot 5) 0) true,.fn 5 220 [.ptr 4 1],.slot 22 .I],[.segs [.const (.bool (some false) false),.const (.bool (some false) false),.hole (.L 3),.hole (.L 3),.hole (.L 2),.hole (.L 16)] (.slot 2) true,.ptr 2 1 26,.segs [.hole (.bool),.hole (.bool),.hole (.L 3),.hole (.L 3),.hole (.L 2),.hole (.L 16)] (.slot 4) true,.ptr 4 2 26,.row .u8 1 (.cell (.cap (.slot 5) 0) 0) false,.segs [.sl 3 1 .whole] (.cap (.slot 5) 0) true,.fn 5 220 [.ptr 4 1]],0,fun k=>u12 (q2n F k),fun k=>u12 (qc5 F (q2n F k))⟩
theorem ze7(F:Nat):(quc F).ok pp Tryz.f183 F:=
 okL q00 (qin F) [] aN (fun _=>rfl) (fun _ _=>rfl) fun k d=>by kernel_rfl
def qud(F:Nat):TL:=⟨95,[.segs [.const (.bool (some false) false),.const (.bool (some false) false),.hole (.L 3),.hole (.L 3),.hole (.L 2),.hole (.L 16)] (.slot 2) true,.ptr 2 1 26,.segs [.hole (.bool),.hole (.bool),.hole (.L 3),.hole (.L 3),.hole (.L 2),.hole (.L 16)] (.slot 4) true,.ptr 4 2 26,.row .u8 1 (.cell (.cap (.slot 5) 0) 0) false,.segs [.sl 3 1 .whole] (.cap (.slot 5) 0) true,.fn 5 220 [.ptr 4 1],.slot 75 .I],[.segs [.const (.bool (some false) false),.const (.bool (some false) false),.hole (.L 3),.hole (.L 3),.hole (.L 2),.hole (.L 16)] (.slot 2) true,.ptr 2 1 26,.segs [.hole (.bool),.hole (.bool),.hole (.L 3),.hole (.L 3),.hole (.L 2),.hole (.L 16)] (.slot 4) true,.ptr 4 2 26],2,fun k=>u12 (q3z F k),fun k=>u12 (q66 F (q3z F k))⟩
theorem ze8(F:Nat):(qud F).ok pp Tryz.f183 F:=
 okL q00 (qin F) [] aN (fun _=>rfl) (fun _ _=>rfl) fun k d=>by kernel_rfl
def qbj(F:Nat):ToldF:=⟨183,1,[.row .u8 1 (.slot 0) false],[.ty (.agg [.bool,.bool,.L 3,.L 3,.L 2,.L 16]),.ty .I],u1 (q40 F)⟩
theorem qlw(F:Nat):(qbj F).ok pp:=
 okF q00 (qin F) (fn:=Tryz.f183) [(0,(quc F).ann F),(2,(qud F).ann F)] (by kernel_rfl) (aL (by kernel_rfl) (ze7 F) (aL (by kernel_rfl) (ze8 F) aN)) fun d=>by kernel_rfl
def ze9(F:Nat):List ToldF:=[q47 F]
theorem que(F:Nat):q02 pp (ze9 F):=⟨q8n F,trivial⟩
def quf(F:Nat):TL:=⟨61,[.segs [.hole (.bool),.hole (.bool),.hole (.L 3),.hole (.L 3),.hole (.L 2),.hole (.L 16)] (.slot 1) true,.ptr 1 1 26,.segs [.hole (.L 8)] (.slot 2) true,.ptr 2 2 8,.segs [.hole (.L 8)] (.slot 4) true,.ptr 4 3 8,.slot 5 .I,.slot 13 .I],[.segs [.hole (.L 8)] (.slot 2) true,.ptr 2 1 8,.segs [.hole (.L 8)] (.slot 4) true,.ptr 4 2 8,.slot 5 .I],0,fun k=>u10 (q15 F k),fun k=>u10 (qc6 F (q15 F k))⟩
theorem zea(F:Nat):(quf F).ok pp Tryz.f221 F:=
 okL q00 (que F) [] aN (fun _=>rfl) (fun _ _=>rfl) fun k d=>by kernel_rfl
def qbk(F:Nat):ToldF:=⟨221,1,[.slot 0 (.agg [.bool,.bool,.L 3,.L 3,.L 2,.L 16])],[.ty (.L 8),.ty .I],u1 (qda F)⟩
theorem qlx(F:Nat):(qbk F).ok pp:=
 okF q00 (que F) (fn:=Tryz.f221) [(0,(quf F).ann F)] (by kernel_rfl) (aL (by kernel_rfl) (zea F) aN) fun d=>by kernel_rfl
def qio(F:Nat):ToldF:=⟨222,2,[.slot 0 (.bool),.slot 1 .I],[.ty .I],u2 (qlg F)⟩
theorem z2g(F:Nat):(qio F).ok pp:=
 okF q00 (qx1 F) (fn:=Tryz.f222) [] (by kernel_rfl) aN fun d=>by kernel_rfl
def qqg(F:Nat):ToldF:=⟨223,1,[.slot 0 .I],[.ty (.L 4)],u1 (qn8 F)⟩
theorem zit(F:Nat):(qqg F).ok pp:=
 okF q00 (qx1 F) (fn:=Tryz.f223) [] (by kernel_rfl) aN fun d=>by kernel_rfl
def zed(F:Nat):List ToldF:=[q6a F,qbk F,qio F,qqg F]
theorem qip(F:Nat):q02 pp (zed F):=⟨qbv F,qlx F,z2g F,zit F,trivial⟩
def qiq(F:Nat):TL:=⟨55,[.segs [.hole (.bool),.hole (.bool),.hole (.L 3),.hole (.L 3),.hole (.L 2),.hole (.L 16)] (.slot 1) true,.ptr 1 1 26,.segs [.hole (.L 64)] (.slot 2) true,.ptr 2 2 64,.segs [.hole (.L 8)] (.slot 3) true,.ptr 3 3 8,.segs [.hole (.L 64)] (.slot 5) true,.ptr 5 4 64,.slot 6 .I,.slot 7 .I,.slot 8 .I,.slot 16 (.L 16),.slot 17 .I,.slot 30 .I],[.segs [.hole (.bool),.hole (.bool),.hole (.L 3),.hole (.L 3),.hole (.L 2),.hole (.L 16)] (.slot 1) true,.ptr 1 1 26,.segs [.hole (.L 64)] (.slot 2) true,.ptr 2 2 64,.segs [.hole (.L 8)] (.slot 3) true,.ptr 3 3 8,.segs [.hole (.L 64)] (.slot 5) true,.ptr 5 4 64,.slot 16 (.L 16),.slot 17 .I],2,fun k=>u15 (q2c F k),fun k=>u15 (qc7 F (q2c F k))⟩
theorem qug(F:Nat):(qiq F).ok pp Tryz.f184 F:=
 okL q00 (qip F) [] aN (fun _=>rfl) (fun _ _=>rfl) fun k d=>by kernel_rfl
def quh(F:Nat):TL:=⟨55,[.segs [.hole (.bool),.hole (.bool),.hole (.L 3),.hole (.L 3),.hole (.L 2),.hole (.L 16)] (.slot 1) true,.ptr 1 1 26,.segs [.hole (.L 64)] (.slot 2) true,.ptr 2 2 64,.segs [.hole (.L 8)] (.slot 3) true,.ptr 3 3 8,.segs [.hole (.L 64)] (.slot 5) true,.ptr 5 4 64,.slot 16 (.L 16),.slot 17 .I],[.segs [.hole (.L 64)] (.slot 2) true,.ptr 2 1 64,.segs [.hole (.L 64)] (.slot 5) true,.ptr 5 2 64],0,fun k=>u11 (q41 F k),fun k=>u11 (q67 F (q41 F k))⟩
theorem zee(F:Nat):(quh F).ok pp Tryz.f184 F:=
 okL q00 (qip F) [(2,(qiq F).ann F)] (aL (by kernel_rfl) (qug F) aN) (fun _=>rfl) (fun _ _=>rfl) fun k d=>by kernel_rfl
def qg8(F:Nat):ToldF:=⟨184,1,[.slot 0 (.agg [.bool,.bool,.L 3,.L 3,.L 2,.L 16])],[.ty (.L 64)],u1 (qhm F)⟩
theorem qxq(F:Nat):(qg8 F).ok pp:=
 okF q00 (qip F) (fn:=Tryz.f184) [(2,(qiq F).ann F),(0,(quh F).ann F)] (by kernel_rfl) (aL (by kernel_rfl) (qug F) (aL (by kernel_rfl) (zee F) aN)) fun d=>by kernel_rfl
def zab(F:Nat):List ToldF:=[qbj F,qg8 F]
theorem zac(F:Nat):q02 pp (zab F):=⟨qlw F,qxq F,trivial⟩
def qnp(F:Nat):ToldF:=⟨124,1,[.row .u8 1 (.slot 0) false],[.ty (.L 64),.ty .I],u1 (qjx F)⟩
theorem zef(F:Nat):(qnp F).ok pp:=
 okF q00 (zac F) (fn:=Tryz.f124) [] (by kernel_rfl) aN fun d=>by kernel_rfl
def zeg(F:Nat):List ToldF:=[qoo F,q5u F,qsp F]
theorem qui(F:Nat):q02 pp (zeg F):=⟨zca F,qbt F,zhs F,trivial⟩
def quj(F:Nat):TL:=⟨52,[.slot 1 .I,.slot 2 .I,.slot 3 (.int .u64),.row .u8 1 (.slot 11) true,.slot 24 .I,.slot 25 .I],[.row .u8 1 (.slot 11) true],0,fun k=>u6 (q7d F k),fun k=>u6 (qig F (q7d F k))⟩
theorem zeh(F:Nat):(quj F).ok pp Tryz.f141 F:=
 okL q00 (qui F) [] aN (fun _=>rfl) (fun _ _=>rfl) fun k d=>by kernel_rfl
def q5i(F:Nat):ToldF:=⟨141,4,[.row .u8 1 (.slot 0) false,.slot 1 .I,.slot 2 .I,.slot 3 (.int .u64)],[.row .u8 1,.ty .I],u4 (q2t F)⟩
theorem qas(F:Nat):(q5i F).ok pp:=
 okF q00 (qui F) (fn:=Tryz.f141) [(0,(quj F).ann F)] (by kernel_rfl) (aL (by kernel_rfl) (zeh F) aN) fun d=>by kernel_rfl
def z1h(F:Nat):List ToldF:=[qbu F]
theorem qjc(F:Nat):q02 pp (z1h F):=⟨qni F,trivial⟩
def qjd(F:Nat):TL:=⟨30,[.row .u8 1 (.cell (.slot 2) 0) false,.segs [.sl 1 1 .whole,.hole (.bool),.hole (.bool),.hole (.L 3),.hole (.L 3),.hole (.L 2),.hole (.L 16),.hole (.bool)] (.slot 2) true,.ptr 2 2 28,.slot 5 .I,.row .i64 1 (.slot 10) false,.slot 11 .I,.slot 12 .I],[.slot 5 .I],0,fun k=>u12 (q2e F k),fun k=>u12 (q7b F (q2e F k))⟩
theorem z1i(F:Nat):(qjd F).ok pp Tryz.f224 F:=
 okL q00 (qjc F) [] aN (fun _=>rfl) (fun _ _=>rfl) fun k d=>by kernel_rfl
def q48(F:Nat):ToldF:=⟨224,2,[.row .u8 1 (.part (.slot 0) 0) false,.cells 0 [.sl 1 1 .whole,.hole (.bool),.hole (.bool),.hole (.L 3),.hole (.L 3),.hole (.L 2),.hole (.L 16),.hole (.bool)],.row .i64 1 (.slot 1) false],[.ty .I],u9 (q0f F)⟩
theorem q8p(F:Nat):(q48 F).ok pp:=
 okF q00 (qjc F) (fn:=Tryz.f224) [(0,(qjd F).ann F)] (by kernel_rfl) (aL (by kernel_rfl) (z1i F) aN) fun d=>by kernel_rfl
def ziu(F:Nat):List ToldF:=[qbj F,q5i F,q48 F]
theorem ziv(F:Nat):q02 pp (ziu F):=⟨qlw F,qas F,q8p F,trivial⟩
def quk(F:Nat):ToldF:=⟨185,2,[.row .u8 1 (.slot 0) false,.slot 1 (.bool)],[.agg [.row .u8 1 false,.hole (.bool),.hole (.bool),.hole (.L 3),.hole (.L 3),.hole (.L 2),.hole (.L 16),.hole (.bool)]],u2 (qlh F)⟩
theorem zns(F:Nat):(quk F).ok pp:=
 okF q00 (ziv F) (fn:=Tryz.f185) [] (by kernel_rfl) aN fun d=>by kernel_rfl
def qxr(F:Nat):List ToldF:=[qbk F]
theorem qxs(F:Nat):q02 pp (qxr F):=⟨qlx F,trivial⟩
def qfi(F:Nat):ToldF:=⟨186,1,[.row .u8 1 (.part (.slot 0) 0) false,.cells 0 [.sl 1 1 .whole,.hole (.bool),.hole (.bool),.hole (.L 3),.hole (.L 3),.hole (.L 2),.hole (.L 16),.hole (.bool)]],[.ty .I],u8 (q7m F)⟩
theorem z1j(F:Nat):(qfi F).ok pp:=
 okF q00 (qxs F) (fn:=Tryz.f186) [] (by kernel_rfl) aN fun d=>by kernel_rfl
def qsw(F:Nat):List ToldF:=[qbk F,qio F,qg8 F]
theorem qeu(F:Nat):q02 pp (qsw F):=⟨qlx F,z2g F,qxq F,trivial⟩
def qev(F:Nat):TL:=⟨42,[.row .u8 1 (.cell (.slot 1) 0) false,.segs [.sl 1 1 .whole,.hole (.bool),.hole (.bool),.hole (.L 3),.hole (.L 3),.hole (.L 2),.hole (.L 16),.hole (.bool)] (.slot 1) true,.ptr 1 2 28,.segs [.hole (.L 64)] (.slot 2) true,.ptr 2 3 64,.segs [.hole (.L 64)] (.slot 3) true,.ptr 3 4 64,.segs [.hole (.L 8)] (.slot 4) true,.ptr 4 5 8,.slot 19 (.L 16),.slot 20 .I],[.segs [.hole (.L 64)] (.slot 2) true,.ptr 2 1 64,.segs [.hole (.L 64)] (.slot 3) true,.ptr 3 2 64],0,fun k=>u13 (q1d F k),fun k=>u13 (q4v F (q1d F k))⟩
theorem qsx(F:Nat):(qev F).ok pp Tryz.f187 F:=
 okL q00 (qeu F) [] aN (fun _=>rfl) (fun _ _=>rfl) fun k d=>by kernel_rfl
def qdm(F:Nat):ToldF:=⟨187,1,[.row .u8 1 (.part (.slot 0) 0) false,.cells 0 [.sl 1 1 .whole,.hole (.bool),.hole (.bool),.hole (.L 3),.hole (.L 3),.hole (.L 2),.hole (.L 16),.hole (.bool)]],[.ty (.L 64)],u8 (q8c F)⟩
theorem qw2(F:Nat):(qdm F).ok pp:=
 okF q00 (qeu F) (fn:=Tryz.f187) [(0,(qev F).ann F)] (by kernel_rfl) (aL (by kernel_rfl) (qsx F) aN) fun d=>by kernel_rfl
def z1k(F:Nat):List ToldF:=[qbu F]
theorem z1l(F:Nat):q02 pp (z1k F):=⟨qni F,trivial⟩
def q49(F:Nat):ToldF:=⟨200,3,[.row .u8 1 (.part (.slot 0) 0) false,.cells 0 [.sl 1 1 .whole,.hole (.bool),.hole (.bool),.hole (.L 3),.hole (.L 3),.hole (.L 2),.hole (.L 16),.hole (.bool)],.slot 1 .I,.slot 2 .I],[.ty .I],u10 (q0c F)⟩
theorem q8q(F:Nat):(q49 F).ok pp:=
 okF q00 (z1l F) (fn:=Tryz.f200) [] (by kernel_rfl) aN fun d=>by kernel_rfl
def ziw(F:Nat):List ToldF:=[q47 F]
theorem qxt(F:Nat):q02 pp (ziw F):=⟨q8n F,trivial⟩
def qxu(F:Nat):TL:=⟨23,[.segs [.hole (.L 3)] (.slot 3) true,.ptr 3 1 3,.segs [.hole (.L 4)] (.slot 4) true,.ptr 4 2 4,.segs [.hole (.L 4)] (.slot 5) true,.ptr 5 3 4,.slot 9 (.L 3),.slot 10 .I],[.segs [.hole (.L 4)] (.slot 4) true,.ptr 4 1 4,.segs [.hole (.L 4)] (.slot 5) true,.ptr 5 2 4],0,fun k=>u5 (q3q F k),fun k=>u5 (q7n F (q3q F k))⟩
theorem zix(F:Nat):(qxu F).ok pp Tryz.f241 F:=
 okL q00 (qxt F) [] aN (fun _=>rfl) (fun _ _=>rfl) fun k d=>by kernel_rfl
def qir(F:Nat):ToldF:=⟨241,2,[.slot 0 (.L 3),.slot 1 (.L 3)],[.ty (.L 4)],u2 (qli F)⟩
theorem z2h(F:Nat):(qir F).ok pp:=
 okF q00 (qxt F) (fn:=Tryz.f241) [(0,(qxu F).ann F)] (by kernel_rfl) (aL (by kernel_rfl) (zix F) aN) fun d=>by kernel_rfl
def zei(F:Nat):List ToldF:=[qir F]
theorem zej(F:Nat):q02 pp (zei F):=⟨z2h F,trivial⟩
def qg9(F:Nat):ToldF:=⟨225,1,[.slot 0 (.L 3)],[.ty (.L 4)],u1 (q6h F)⟩
theorem qxv(F:Nat):(qg9 F).ok pp:=
 okF q00 (zej F) (fn:=Tryz.f225) [] (by kernel_rfl) aN fun d=>by kernel_rfl
def qbp(F:Nat):ToldF:=⟨226,1,[.slot 0 .I],[.ty .I],u1 (q7o F)⟩
theorem qnq(F:Nat):(qbp F).ok pp:=
 okF q00 (qx1 F) (fn:=Tryz.f226) [] (by kernel_rfl) aN fun d=>by kernel_rfl
def zek(F:Nat):List ToldF:=[q6a F]
theorem qul(F:Nat):q02 pp (zek F):=⟨qbv F,trivial⟩
def qum(F:Nat):TL:=⟨19,[.slot 1 .I,.segs [.hole (.L 4)] (.slot 2) true,.ptr 2 1 4,.segs [.hole (.L 4)] (.slot 4) true,.ptr 4 2 4,.slot 6 .I],[.segs [.hole (.L 4)] (.slot 2) true,.ptr 2 1 4,.segs [.hole (.L 4)] (.slot 4) true,.ptr 4 2 4],0,fun k=>u4 (q2q F k),fun k=>u4 (q68 F (q2q F k))⟩
theorem zel(F:Nat):(qum F).ok pp Tryz.f228 F:=
 okL q00 (qul F) [] aN (fun _=>rfl) (fun _ _=>rfl) fun k d=>by kernel_rfl
def qga(F:Nat):ToldF:=⟨228,2,[.slot 0 (.L 4),.slot 1 .I],[.ty (.L 4)],u2 (q0s F)⟩
theorem qxw(F:Nat):(qga F).ok pp:=
 okF q00 (qul F) (fn:=Tryz.f228) [(0,(qum F).ann F)] (by kernel_rfl) (aL (by kernel_rfl) (zel F) aN) fun d=>by kernel_rfl
def qhz(F:Nat):TL:=⟨22,[.segs [.hole (.L 16)] (.slot 3) true,.ptr 3 1 16,.segs [.hole (.L 64)] (.slot 4) true,.ptr 4 2 64,.segs [.hole (.L 64)] (.slot 5) true,.ptr 5 3 64,.slot 10 (.L 16),.slot 11 .I],[.segs [.hole (.L 64)] (.slot 4) true,.ptr 4 1 64,.segs [.hole (.L 64)] (.slot 5) true,.ptr 5 2 64],0,fun k=>u5 (q24 F k),fun k=>u5 (q6i F (q24 F k))⟩
theorem qxy(F:Nat):(qhz F).ok pp Tryz.f227 F:=
 okL q00 (qx1 F) [] aN (fun _=>rfl) (fun _ _=>rfl) fun k d=>by kernel_rfl
def qa0(F:Nat):ToldF:=⟨227,2,[.row .u8 1 (.part (.slot 0) 0) false,.cells 0 [.sl 1 1 .whole,.hole (.bool),.hole (.bool),.hole (.L 3),.hole (.L 3),.hole (.L 2),.hole (.L 16),.hole (.bool)],.slot 1 (.L 16)],[.ty (.L 64)],u9 (q5e F)⟩
theorem qje(F:Nat):(qa0 F).ok pp:=
 okF q00 (qx1 F) (fn:=Tryz.f227) [(0,(qhz F).ann F)] (by kernel_rfl) (aL (by kernel_rfl) (qxy F) aN) fun d=>by kernel_rfl
def z1m(F:Nat):List ToldF:=[q48 F,q49 F,qg9 F,qbp F,qga F,qa0 F]
theorem z1n(F:Nat):q02 pp (z1m F):=⟨q8p F,q8q F,qxv F,qnq F,qxw F,qje F,trivial⟩
def qi0(F:Nat):ToldF:=⟨188,1,[.row .u8 1 (.part (.slot 0) 0) false,.cells 0 [.sl 1 1 .whole,.hole (.bool),.hole (.bool),.hole (.L 3),.hole (.L 3),.hole (.L 2),.hole (.L 16),.hole (.bool)]],[.ty (.L 64)],u8 (qch F)⟩
theorem z4y(F:Nat):(qi0 F).ok pp:=
 okF q00 (z1n F) (fn:=Tryz.f188) [] (by kernel_rfl) aN fun d=>by kernel_rfl
def z1o(F:Nat):List ToldF:=[q48 F,q49 F,qg9 F,qbp F,qga F,qa0 F]
theorem z1p(F:Nat):q02 pp (z1o F):=⟨q8p F,q8q F,qxv F,qnq F,qxw F,qje F,trivial⟩
def qi1(F:Nat):ToldF:=⟨189,1,[.row .u8 1 (.part (.slot 0) 0) false,.cells 0 [.sl 1 1 .whole,.hole (.bool),.hole (.bool),.hole (.L 3),.hole (.L 3),.hole (.L 2),.hole (.L 16),.hole (.bool)]],[.ty (.L 64)],u8 (qci F)⟩
theorem z4z(F:Nat):(qi1 F).ok pp:=
 okF q00 (z1p F) (fn:=Tryz.f189) [] (by kernel_rfl) aN fun d=>by kernel_rfl
def zem(F:Nat):List ToldF:=[qir F]
theorem zen(F:Nat):q02 pp (zem F):=⟨z2h F,trivial⟩
def qqh(F:Nat):ToldF:=⟨230,1,[.slot 0 (.L 3)],[.ty (.L 4)],u1 (qdb F)⟩
theorem ziy(F:Nat):(qqh F).ok pp:=
 okF q00 (zen F) (fn:=Tryz.f230) [] (by kernel_rfl) aN fun d=>by kernel_rfl
def zeo(F:Nat):List ToldF:=[q6a F]
theorem qis(F:Nat):q02 pp (zeo F):=⟨qbv F,trivial⟩
def qit(F:Nat):TL:=⟨57,[.segs [.hole (.L 4)] (.slot 3) true,.ptr 3 1 4,.segs [.hole (.L 4)] (.slot 4) true,.ptr 4 2 4,.segs [.hole (.L 4)] (.slot 5) true,.ptr 5 3 4,.segs [.hole (.L 64)] (.slot 6) true,.ptr 6 4 64,.segs [.hole (.L 64)] (.slot 7) true,.ptr 7 5 64,.slot 8 .I,.slot 11 .I,.slot 17 .I],[.segs [.hole (.L 4)] (.slot 3) true,.ptr 3 1 4,.segs [.hole (.L 4)] (.slot 4) true,.ptr 4 2 4,.segs [.hole (.L 4)] (.slot 5) true,.ptr 5 3 4,.segs [.hole (.L 64)] (.slot 6) true,.ptr 6 4 64,.segs [.hole (.L 64)] (.slot 7) true,.ptr 7 5 64,.slot 11 .I],2,fun k=>u8 (q5p F k),fun k=>u8 (qcj F (q5p F k))⟩
theorem qun(F:Nat):(qit F).ok pp Tryz.f229 F:=
 okL q00 (qis F) [] aN (fun _=>rfl) (fun _ _=>rfl) fun k d=>by kernel_rfl
def qup(F:Nat):TL:=⟨57,[.segs [.hole (.L 4)] (.slot 3) true,.ptr 3 1 4,.segs [.hole (.L 4)] (.slot 4) true,.ptr 4 2 4,.segs [.hole (.L 4)] (.slot 5) true,.ptr 5 3 4,.segs [.hole (.L 64)] (.slot 6) true,.ptr 6 4 64,.segs [.hole (.L 64)] (.slot 7) true,.ptr 7 5 64,.slot 11 .I],[.segs [.hole (.L 64)] (.slot 6) true,.ptr 6 1 64,.segs [.hole (.L 64)] (.slot 7) true,.ptr 7 2 64],0,fun k=>u6 (q5q F k),fun k=>u6 (qck F (q5q F k))⟩
theorem zep(F:Nat):(qup F).ok pp Tryz.f229 F:=
 okL q00 (qis F) [(2,(qit F).ann F)] (aL (by kernel_rfl) (qun F) aN) (fun _=>rfl) (fun _ _=>rfl) fun k d=>by kernel_rfl
def qqi(F:Nat):ToldF:=⟨229,3,[.slot 0 (.L 4),.slot 1 (.L 4),.slot 2 (.L 4)],[.ty (.L 64)],u3 (qnb F)⟩
theorem ziz(F:Nat):(qqi F).ok pp:=
 okF q00 (qis F) (fn:=Tryz.f229) [(2,(qit F).ann F),(0,(qup F).ann F)] (by kernel_rfl) (aL (by kernel_rfl) (qun F) (aL (by kernel_rfl) (zep F) aN)) fun d=>by kernel_rfl
def qsy(F:Nat):List ToldF:=[q48 F,q49 F,qqh F,qqi F]
theorem qsz(F:Nat):q02 pp (qsy F):=⟨q8p F,q8q F,ziy F,ziz F,trivial⟩
def qdn(F:Nat):ToldF:=⟨190,1,[.row .u8 1 (.part (.slot 0) 0) false,.cells 0 [.sl 1 1 .whole,.hole (.bool),.hole (.bool),.hole (.L 3),.hole (.L 3),.hole (.L 2),.hole (.L 16),.hole (.bool)]],[.ty (.L 64)],u8 (q8d F)⟩
theorem qw3(F:Nat):(qdn F).ok pp:=
 okF q00 (qsz F) (fn:=Tryz.f190) [] (by kernel_rfl) aN fun d=>by kernel_rfl
def zad(F:Nat):List ToldF:=[quk F,qfi F,qdm F,qi0 F,qi1 F,qdn F]
theorem qqj(F:Nat):q02 pp (zad F):=⟨zns F,z1j F,qw2 F,z4y F,z4z F,qw3 F,trivial⟩
def qqk(F:Nat):TL:=⟨57,[.segs [.hole (.L 64)] (.slot 4) true,.ptr 4 1 64,.row .u8 1 (.cell (.slot 6) 0) false,.segs [.sl 2 1 .whole,.hole (.bool),.hole (.bool),.hole (.L 3),.hole (.L 3),.hole (.L 2),.hole (.L 16),.hole (.bool)] (.slot 6) true,.ptr 6 3 28,.slot 7 .I,.segs [.hole (.L 64)] (.slot 9) true,.ptr 9 4 64,.slot 36 (.L 16),.slot 37 .I],[.segs [.hole (.L 64)] (.slot 4) true,.ptr 4 1 64,.segs [.hole (.L 64)] (.slot 9) true,.ptr 9 2 64],0,fun k=>u13 (q1x F k),fun k=>u13 (qba F (q1x F k))⟩
theorem zae(F:Nat):(qqk F).ok pp Tryz.f125 F:=
 okL q00 (qqj F) [] aN (fun _=>rfl) (fun _ _=>rfl) fun k d=>by kernel_rfl
def qnr(F:Nat):ToldF:=⟨125,2,[.row .u8 1 (.slot 0) false,.slot 1 (.bool)],[.ty (.L 64),.ty .I],u2 (qbb F)⟩
theorem zeq(F:Nat):(qnr F).ok pp:=
 okF q00 (qqj F) (fn:=Tryz.f125) [(0,(qqk F).ann F)] (by kernel_rfl) (aL (by kernel_rfl) (zae F) aN) fun d=>by kernel_rfl
def zaf(F:Nat):List ToldF:=[qpy F,qq2 F,qq3 F,qil F,qlr F,qhx F,qq8 F,qlv F,qnp F,qnr F]
theorem zag(F:Nat):q02 pp (zaf F):=⟨zi5 F,zi9 F,zia F,z2a F,z6p F,z4n F,zij F,za8 F,zef F,zeq F,trivial⟩
def qns(F:Nat):ToldF:=⟨64,5,[.slot 0 .I,.slot 1 (.agg [.I,.I,.bool]),.row .u8 1 (.slot 2) false,.row .u8 1 (.slot 3) false,.row .u8 1 (.slot 4) false],[.ty (.L 64),.ty .I],u5 (q0b F)⟩
theorem zer(F:Nat):(qns F).ok pp:=
 okF q00 (zag F) (fn:=Tryz.f64) [] (by kernel_rfl) aN fun d=>by kernel_rfl
def zah(F:Nat):List ToldF:=[qbs F,qns F]
theorem zai(F:Nat):q02 pp (zah F):=⟨qnd F,zer F,trivial⟩
def qew(F:Nat):ToldF:=⟨28,2,[.slot 0 .I,.row .u8 1 (.slot 1) false],[.ty (.L 64),.ty .I],u2 (q8g F)⟩
theorem quq(F:Nat):(qew F).ok pp:=
 okF q00 (zai F) (fn:=Tryz.f28) [] (by kernel_rfl) aN fun d=>by kernel_rfl
def zj0(F:Nat):List ToldF:=[qg6 F]
theorem qly(F:Nat):q02 pp (zj0 F):=⟨qx5 F,trivial⟩
def qlz(F:Nat):TL:=⟨38,[.slot 2 .I,.segs [.hole (.L 64)] (.slot 3) true,.ptr 3 1 64,.segs [.hole (.L 64)] (.slot 4) true,.ptr 4 2 64,.slot 7 .I,.slot 8 .I,.slot 10 .I,.slot 13 .I],[.slot 2 .I,.segs [.hole (.L 64)] (.slot 3) true,.ptr 3 1 64,.segs [.hole (.L 64)] (.slot 4) true,.ptr 4 2 64,.slot 7 .I,.slot 10 .I],2,fun k=>u7 (q9g F k),fun k=>u7 (qe7 F (q9g F k))⟩
theorem qxz(F:Nat):(qlz F).ok pp Tryz.f65 F:=
 okL q00 (qly F) [] aN (fun _=>rfl) (fun _ _=>rfl) fun k d=>by kernel_rfl
def qy0(F:Nat):TL:=⟨38,[.slot 2 .I,.segs [.hole (.L 64)] (.slot 3) true,.ptr 3 1 64,.segs [.hole (.L 64)] (.slot 4) true,.ptr 4 2 64,.slot 7 .I,.slot 10 .I],[.slot 7 .I],0,fun k=>u5 (q9h F k),fun k=>u5 (qe8 F (q9h F k))⟩
theorem zj1(F:Nat):(qy0 F).ok pp Tryz.f65 F:=
 okL q00 (qly F) [(2,(qlz F).ann F)] (aL (by kernel_rfl) (qxz F) aN) (fun _=>rfl) (fun _ _=>rfl) fun k d=>by kernel_rfl
def qur(F:Nat):ToldF:=⟨65,3,[.slot 0 (.L 64),.slot 1 (.L 64),.slot 2 .I],[.ty .I],u3 (qsc F)⟩
theorem znt(F:Nat):(qur F).ok pp:=
 okF q00 (qly F) (fn:=Tryz.f65) [(2,(qlz F).ann F),(0,(qy0 F).ann F)] (by kernel_rfl) (aL (by kernel_rfl) (qxz F) (aL (by kernel_rfl) (zj1 F) aN)) fun d=>by kernel_rfl
def zes(F:Nat):List ToldF:=[qbs F,qg5 F,qew F,qur F]
theorem zet(F:Nat):q02 pp (zes F):=⟨qnd F,qx4 F,quq F,znt F,trivial⟩
def qgb(F:Nat):ToldF:=⟨29,3,[.slot 0 .I,.row .u8 1 (.slot 1) false,.slot 2 (.L 64)],[.ty .I,.ty .I],u3 (qdc F)⟩
theorem qy1(F:Nat):(qgb F).ok pp:=
 okF q00 (zet F) (fn:=Tryz.f29) [] (by kernel_rfl) aN fun d=>by kernel_rfl
def zj2(F:Nat):List ToldF:=[qgb F]
theorem zj3(F:Nat):q02 pp (zj2 F):=⟨qy1 F,trivial⟩
def qiu(F:Nat):ToldF:=⟨74,4,[.slot 0 .I,.slot 1 (.L 64),.row .u8 1 (.slot 2) false,.row .u8 1 (.slot 3) false],[.row .u8 1 false],u4 (qll F)⟩
theorem z2i(F:Nat):(qiu F).ok pp:=
 okF q00 (zj3 F) (fn:=Tryz.f74) [] (by kernel_rfl) aN fun d=>by kernel_rfl
def zyd(F:Nat):List ToldF:=[qtv F,qiu F]
theorem zye(F:Nat):q02 pp (zyd F):=⟨znj F,z2i F,trivial⟩
def z6y(F:Nat):ToldF:=⟨71,1,[.slot 0 (.L 64)],[.row .u8 1 false],u1 (zsd F)⟩
theorem j1w(F:Nat):(z6y F).ok pp:=
 okF q00 (zye F) (fn:=Tryz.f71) [] (by kernel_rfl) aN fun d=>by kernel_rfl
def z6z(F:Nat):List ToldF:=[q47 F,q6a F]
theorem z70(F:Nat):q02 pp (z6z F):=⟨q8n F,qbv F,trivial⟩
def qm0(F:Nat):ToldF:=⟨136,1,[.slot 0 .I],[.ty .I],u1 (qok F)⟩
theorem zaj(F:Nat):(qm0 F).ok pp:=
 okF q00 (z70 F) (fn:=Tryz.f136) [] (by kernel_rfl) aN fun d=>by kernel_rfl
def qt0(F:Nat):List ToldF:=[q7t F,qm0 F]
theorem q8r(F:Nat):q02 pp (qt0 F):=⟨qem F,zaj F,trivial⟩
def qex(F:Nat):TL:=⟨39,[.slot 1 .I,.slot 2 .I,.fn 3 136 [],.row .i64 1 (.slot 9) true,.const 10 .nils,.slot 14 (.L 64),.slot 15 .I],[.slot 2 .I,.fn 3 136 [],.row .i64 1 (.slot 9) true,.const 10 .nils],0,fun k=>u5 (q29 F k),fun k=>u5 (q4x F (q29 F k))⟩
theorem qt1(F:Nat):(qex F).ok pp Tryz.f128 F:=
 okL q00 (q8r F) [] aN (fun _=>rfl) (fun _ _=>rfl) fun k d=>by kernel_rfl
def qey(F:Nat):TL:=⟨39,[.fn 3 136 [],.row .i64 1 (.slot 9) true,.row .i64 1 (.slot 10) true,.slot 25 .I,.slot 26 .I],[.row .i64 1 (.slot 9) true,.row .i64 1 (.slot 10) true],2,fun k=>u4 (q1f F k),fun k=>u4 (q20 F (q1f F k))⟩
theorem qt2(F:Nat):(qey F).ok pp Tryz.f128 F:=
 okL q00 (q8r F) [] aN (fun _=>rfl) (fun _ _=>rfl) fun k d=>by kernel_rfl
def qdo(F:Nat):ToldF:=⟨128,4,[.slot 0 (.L 64),.slot 1 .I,.slot 2 .I,.fn 3 136 []],[.ty .I],u3 (q8i F)⟩
theorem qw4(F:Nat):(qdo F).ok pp:=
 okF q00 (q8r F) (fn:=Tryz.f128) [(0,(qex F).ann F),(2,(qey F).ann F)] (by kernel_rfl) (aL (by kernel_rfl) (qt1 F) (aL (by kernel_rfl) (qt2 F) aN)) fun d=>by kernel_rfl
def z71(F:Nat):List ToldF:=[q5i F]
theorem z72(F:Nat):q02 pp (z71 F):=⟨qas F,trivial⟩
def qm1(F:Nat):ToldF:=⟨195,5,[.slot 0 .I,.slot 1 .I,.slot 2 .I,.row .u8 1 (.cell (.slot 3) 0) true (some 0),.segs [.sl 1 1 .own] (.slot 3) true (some 1),.ptr 3 2 1,.segs [.hole (.bool)] (.slot 4) true (some 2),.ptr 4 3 1],[.psegs 1 [.row .u8 1 true],.psegs 2 [.hole (.bool)]],u5 (q0h F)⟩
theorem zak(F:Nat):(qm1 F).ok pp:=
 okF q00 (z72 F) (fn:=Tryz.f195) [] (by kernel_rfl) aN fun d=>by kernel_rfl
def qql(F:Nat):ToldF:=⟨196,1,[.slot 0 (.bool)],[.ty .I],u1 (qd9 F)⟩
theorem zj4(F:Nat):(qql F).ok pp:=
 okF q00 (qx1 F) (fn:=Tryz.f196) [] (by kernel_rfl) aN fun d=>by kernel_rfl
def zj5(F:Nat):List ToldF:=[qet F,qm1 F,qql F]
theorem qm2(F:Nat):q02 pp (zj5 F):=⟨qub F,zak F,zj4 F,trivial⟩
def qy2(F:Nat):TL:=⟨129,[.segs [.hole (.bool),.hole (.bool),.hole (.L 3),.hole (.L 3),.hole (.L 2),.hole (.L 16)] (.slot 1) true,.ptr 1 1 26,.row .u8 1 (.cell (.slot 4) 0) true,.segs [.sl 2 1 .own] (.slot 4) true,.ptr 4 3 1,.segs [.hole (.bool)] (.slot 5) true,.ptr 5 4 1,.fn 6 195 [.ptr 3 1,.ptr 4 1],.slot 13 .I],[.segs [.hole (.bool),.hole (.bool),.hole (.L 3),.hole (.L 3),.hole (.L 2),.hole (.L 16)] (.slot 1) true,.ptr 1 1 26,.row .u8 1 (.cell (.slot 4) 0) true,.segs [.sl 2 1 .own] (.slot 4) true,.ptr 4 3 1,.segs [.hole (.bool)] (.slot 5) true,.ptr 5 4 1,.fn 6 195 [.ptr 3 1,.ptr 4 1]],0,fun k=>u9 (q2l F k),fun k=>u9 (qdx F (q2l F k))⟩
theorem zj6(F:Nat):(qy2 F).ok pp Tryz.f138 F:=
 okL q00 (qm2 F) [] aN (fun _=>rfl) (fun _ _=>rfl) fun k d=>by kernel_rfl
def qy3(F:Nat):TL:=⟨129,[.row .u8 1 (.cell (.slot 4) 0) true,.segs [.sl 1 1 .own] (.slot 4) true,.ptr 4 2 1,.segs [.hole (.bool)] (.slot 5) true,.ptr 5 3 1,.fn 6 195 [.ptr 2 1,.ptr 3 1],.slot 96 (.L 16),.slot 97 .I],[.row .u8 1 (.cell (.slot 4) 0) true,.segs [.sl 1 1 .own] (.slot 4) true,.ptr 4 2 1,.segs [.hole (.bool)] (.slot 5) true,.ptr 5 3 1],2,fun k=>u4 (q3j F k),fun k=>u4 (qdy F (q3j F k))⟩
theorem zj7(F:Nat):(qy3 F).ok pp Tryz.f138 F:=
 okL q00 (qm2 F) [] aN (fun _=>rfl) (fun _ _=>rfl) fun k d=>by kernel_rfl
def qus(F:Nat):ToldF:=⟨138,1,[.slot 0 (.agg [.bool,.bool,.L 3,.L 3,.L 2,.L 16])],[.row .u8 1,.ty .I],u1 (qlf F)⟩
theorem znu(F:Nat):(qus F).ok pp:=
 okF q00 (qm2 F) (fn:=Tryz.f138) [(0,(qy2 F).ann F),(2,(qy3 F).ann F)] (by kernel_rfl) (aL (by kernel_rfl) (zj6 F) (aL (by kernel_rfl) (zj7 F) aN)) fun d=>by kernel_rfl
def zj8(F:Nat):List ToldF:=[qdo F,qus F]
theorem qy4(F:Nat):q02 pp (zj8 F):=⟨qw4 F,znu F,trivial⟩
def qy5(F:Nat):TL:=⟨24,[.segs [.hole (.L 64)] (.slot 1) true,.ptr 1 1 64,.segs [.const (.bool (some true) true),.const (.bool (some false) false),.hole (.L 3),.hole (.L 3),.hole (.L 2),.hole (.L 16)] (.slot 3) true,.ptr 3 2 26,.slot 8 .I],[.segs [.const (.bool (some true) true),.const (.bool (some false) false),.hole (.L 3),.hole (.L 3),.hole (.L 2),.hole (.L 16)] (.slot 3) true,.ptr 3 1 26],0,fun k=>u6 (q6z F k),fun k=>u6 (qec F (q6z F k))⟩
theorem zj9(F:Nat):(qy5 F).ok pp Tryz.f72 F:=
 okL q00 (qy4 F) [] aN (fun _=>rfl) (fun _ _=>rfl) fun k d=>by kernel_rfl
def qut(F:Nat):ToldF:=⟨72,1,[.slot 0 (.L 64)],[.row .u8 1],u1 (qse F)⟩
theorem znv(F:Nat):(qut F).ok pp:=
 okF q00 (qy4 F) (fn:=Tryz.f72) [(0,(qy5 F).ann F)] (by kernel_rfl) (aL (by kernel_rfl) (zj9 F) aN) fun d=>by kernel_rfl
def zal(F:Nat):List ToldF:=[q5i F]
theorem zam(F:Nat):q02 pp (zal F):=⟨qas F,trivial⟩
def qnt(F:Nat):ToldF:=⟨199,4,[.slot 0 .I,.slot 1 .I,.slot 2 .I,.row .u8 1 (.cell (.slot 3) 0) true (some 0),.segs [.sl 1 1 .own] (.slot 3) true (some 1),.ptr 3 2 1],[.psegs 1 [.row .u8 1 true]],u4 (q3n F)⟩
theorem zew(F:Nat):(qnt F).ok pp:=
 okF q00 (zam F) (fn:=Tryz.f199) [] (by kernel_rfl) aN fun d=>by kernel_rfl
def zan(F:Nat):List ToldF:=[q5i F]
theorem qqm(F:Nat):q02 pp (zan F):=⟨qas F,trivial⟩
def qqn(F:Nat):TL:=⟨30,[.slot 0 .I,.row .i64 1 (.slot 1) false,.row .u8 1 (.cell (.slot 2) 0) true,.segs [.sl 2 1 .own] (.slot 2) true (some 2),.ptr 2 3 1,.sl 7 1 1 .whole,.slot 8 .I,.slot 9 .I],[.row .u8 1 (.cell (.slot 2) 0) true,.segs [.sl 1 1 .own] (.slot 2) true (some 2),.ptr 2 2 1],0,fun k=>u5 (q2z F k),fun k=>u5 (qb9 F (q2z F k))⟩
theorem zao(F:Nat):(qqn F).ok pp Tryz.f198 F:=
 okL q00 (qqm F) [] aN (fun _=>rfl) (fun _ _=>rfl) fun k d=>by kernel_rfl
def qnu(F:Nat):ToldF:=⟨198,3,[.slot 0 .I,.row .i64 1 (.slot 1) false,.row .u8 1 (.cell (.slot 2) 0) true (some 1),.segs [.sl 2 1 .own] (.slot 2) true (some 2),.ptr 2 3 1],[.psegs 2 [.row .u8 1 true]],u3 (q3o F)⟩
theorem zex(F:Nat):(qnu F).ok pp:=
 okF q00 (qqm F) (fn:=Tryz.f198) [(0,(qqn F).ann F)] (by kernel_rfl) (aL (by kernel_rfl) (zao F) aN) fun d=>by kernel_rfl
def znw(F:Nat):List ToldF:=[qbj F,q49 F,qnt F,qnu F]
theorem qoq(F:Nat):q02 pp (znw F):=⟨qlw F,q8q F,zew F,zex F,trivial⟩
def z2j(F:Nat):TX:=⟨127,[.segs [.hole (.L 3)] (.slot 3) true,.ptr 3 1 3,.segs [.hole (.L 3)] (.slot 4) true,.ptr 4 2 3,.segs [.hole (.L 3)] (.slot 5) true,.ptr 5 3 3,.slot 21 (.L 9),.slot 22 .I],[.const 6 .nils,.const 7 (.int .i64 (some 1) 1)],[.segs [.hole (.L 3)] (.slot 3) true,.ptr 3 1 3,.segs [.hole (.L 3)] (.slot 4) true,.ptr 4 2 3,.segs [.hole (.L 3)] (.slot 5) true,.ptr 5 3 3],.ret,0,fun k=>u5 (q3p F k),fun k=>u5 (qgx F (q3p F k))⟩
theorem znx(F:Nat):(z2j F).ok pp Tryz.f139 F:=
 okX q00 (qoq F) [] aN (fun _=>rfl) (fun _ _=>rfl) (eR rfl) fun k d=>by kernel_rfl
def z2k(F:Nat):TL:=⟨127,[.row .u8 1 (.cell (.slot 10) 0) true,.segs [.sl 1 1 .own] (.slot 10) true,.ptr 10 2 1,.fn 11 198 [.ptr 2 1],.fn 12 199 [.ptr 2 1],.segs [.hole (.bool),.hole (.bool),.hole (.L 3),.hole (.L 3),.hole (.L 2),.hole (.L 16)] (.slot 13) true,.ptr 13 3 26,.slot 89 .I],[.row .u8 1 (.cell (.slot 10) 0) true,.segs [.sl 1 1 .own] (.slot 10) true,.ptr 10 2 1,.fn 11 198 [.ptr 2 1],.fn 12 199 [.ptr 2 1]],2,fun k=>u8 (q4u F k),fun k=>u8 (qgy F (q4u F k))⟩
theorem zny(F:Nat):(z2k F).ok pp Tryz.f139 F:=
 okL q00 (qoq F) [] aN (fun _=>rfl) (fun _ _=>rfl) fun k d=>by kernel_rfl
def qy6(F:Nat):ToldF:=⟨139,3,[.slot 0 (.L 3),.slot 1 (.L 3),.slot 2 (.L 3)],[.row .u8 1,.ty .I],u3 (qpo F)⟩
theorem zt6(F:Nat):(qy6 F).ok pp:=
 okF q00 (qoq F) (fn:=Tryz.f139) [(0,(z2j F).ann F),(2,(z2k F).ann F)] (by kernel_rfl) (aX (by kernel_rfl) (znx F) (aL (by kernel_rfl) (zny F) aN)) fun d=>by kernel_rfl
def zja(F:Nat):List ToldF:=[qh5 F,qy6 F]
theorem zjb(F:Nat):q02 pp (zja F):=⟨qx9 F,zt6 F,trivial⟩
def quu(F:Nat):ToldF:=⟨73,1,[.slot 0 (.L 64)],[.row .u8 1],u1 (qg1 F)⟩
theorem znz(F:Nat):(quu F).ok pp:=
 okF q00 (zjb F) (fn:=Tryz.f73) [] (by kernel_rfl) aN fun d=>by kernel_rfl
def zyf(F:Nat):List ToldF:=[z4l F,q5i F]
theorem qy7(F:Nat):q02 pp (zyf F):=⟨zy9 F,qas F,trivial⟩
def zce(F:Nat):TL:=⟨65,[.row .u8 1 (.slot 10) true,.row .i64 3 (.slot 11) true,.slot 27 (.L 16),.slot 28 .I],[.row .u8 1 (.slot 10) true,.row .i64 3 (.slot 11) true],0,fun k=>u4 (qfx F k),fun k=>u4 (qwu F (qfx F k))⟩
theorem zyg(F:Nat):(zce F).ok pp Tryz.f75 F:=
 okL q00 (qy7 F) [] aN (fun _=>rfl) (fun _ _=>rfl) fun k d=>by kernel_rfl
def zcf(F:Nat):TL:=⟨65,[.row .u8 1 (.slot 10) true,.const 14 (.bool (some true) true),.row .i64 3 (.slot 40) true,.slot 41 .I,.slot 42 .I],[.row .u8 1 (.slot 10) true,.slot 14 (.bool)],2,fun k=>u4 (qfy F k),fun k=>u4 (qwv F (qfy F k))⟩
theorem zyh(F:Nat):(zcf F).ok pp Tryz.f75 F:=
 okL q00 (qy7 F) [] aN (fun _=>rfl) (fun _ _=>rfl) fun k d=>by kernel_rfl
def qt3(F:Nat):ToldF:=⟨75,4,[.slot 0 .I,.slot 1 .I,.slot 2 .I,.slot 3 (.L 16)],[.row .u8 1,.ty .I],u4 (z6a F)⟩
theorem zjc(F:Nat):(qt3 F).ok pp:=
 okF q00 (qy7 F) (fn:=Tryz.f75) [(0,(zce F).ann F),(2,(zcf F).ann F)] (by kernel_rfl) (aL (by kernel_rfl) (zyg F) (aL (by kernel_rfl) (zyh F) aN)) fun d=>by kernel_rfl
def zap(F:Nat):List ToldF:=[qop F]
theorem zaq(F:Nat):q02 pp (zap F):=⟨zcd F,trivial⟩
def qnv(F:Nat):ToldF:=⟨143,1,[.slot 0 .I],[.ty .I],u1 (qsf F)⟩
theorem zey(F:Nat):(qnv F).ok pp:=
 okF q00 (zaq F) (fn:=Tryz.f143) [] (by kernel_rfl) aN fun d=>by kernel_rfl
def qw5(F:Nat):List ToldF:=[q7t F,qnv F]
theorem qa1(F:Nat):q02 pp (qw5 F):=⟨qem F,zey F,trivial⟩
def qfj(F:Nat):TL:=⟨39,[.slot 1 .I,.slot 2 .I,.fn 3 143 [],.row .i64 1 (.slot 9) true,.const 10 .nils,.slot 14 (.L 64),.slot 15 .I],[.slot 2 .I,.fn 3 143 [],.row .i64 1 (.slot 9) true,.const 10 .nils],0,fun k=>u5 (q2j F k),fun k=>u5 (q5y F (q2j F k))⟩
theorem qw6(F:Nat):(qfj F).ok pp Tryz.f128 F:=
 okL q00 (qa1 F) [] aN (fun _=>rfl) (fun _ _=>rfl) fun k d=>by kernel_rfl
def qfk(F:Nat):TL:=⟨39,[.fn 3 143 [],.row .i64 1 (.slot 9) true,.row .i64 1 (.slot 10) true,.slot 25 .I,.slot 26 .I],[.row .i64 1 (.slot 9) true,.row .i64 1 (.slot 10) true],2,fun k=>u4 (q1q F k),fun k=>u4 (q2a F (q1q F k))⟩
theorem qw7(F:Nat):(qfk F).ok pp Tryz.f128 F:=
 okL q00 (qa1 F) [] aN (fun _=>rfl) (fun _ _=>rfl) fun k d=>by kernel_rfl
def qez(F:Nat):ToldF:=⟨128,4,[.slot 0 (.L 64),.slot 1 .I,.slot 2 .I,.fn 3 143 []],[.ty .I],u3 (qa5 F)⟩
theorem qy8(F:Nat):(qez F).ok pp:=
 okF q00 (qa1 F) (fn:=Tryz.f128) [(0,(qfj F).ann F),(2,(qfk F).ann F)] (by kernel_rfl) (aL (by kernel_rfl) (qw6 F) (aL (by kernel_rfl) (qw7 F) aN)) fun d=>by kernel_rfl
def zo0(F:Nat):List ToldF:=[q5h F,qt3 F,qez F]
theorem zo1(F:Nat):q02 pp (zo0 F):=⟨qar F,zjc F,qy8 F,trivial⟩
def qy9(F:Nat):ToldF:=⟨77,2,[.slot 0 (.L 64),.slot 1 .I],[.row .u8 1],u2 (qky F)⟩
theorem zt7(F:Nat):(qy9 F).ok pp:=
 okF q00 (zo1 F) (fn:=Tryz.f77) [] (by kernel_rfl) aN fun d=>by kernel_rfl
def zo2(F:Nat):List ToldF:=[qh5 F,q5h F,qhv F,z6c F,qln F,z28 F,qiu F,z6y F,qut F,quu F,qt3 F,qy9 F]
theorem zo3(F:Nat):q02 pp (zo2 F):=⟨qx9 F,qar F,z4k F,j1u F,z6d F,zy4 F,z2i F,j1w F,znv F,znz F,zjc F,zt7 F,trivial⟩
def qya(F:Nat):ToldF:=⟨38,2,[.slot 0 .I,.slot 1 (.L 64)],[.row .u8 1 false],u2 (q0q F)⟩
theorem zt8(F:Nat):(qya F).ok pp:=
 okF q00 (zo3 F) (fn:=Tryz.f38) [] (by kernel_rfl) aN fun d=>by kernel_rfl
def zo4(F:Nat):List ToldF:=[qbs F,qx3 F,qg5 F,qya F]
theorem zo5(F:Nat):q02 pp (zo4 F):=⟨qnd F,zsg F,qx4 F,zt8 F,trivial⟩
def qat(F:Nat):ToldF:=⟨20,2,[.slot 0 .I,.slot 1 (.L 64)],[.row .u8 1 false,.ty .I],u2 (q3d F)⟩
theorem qkf(F:Nat):(qat F).ok pp:=
 okF q00 (zo5 F) (fn:=Tryz.f20) [] (by kernel_rfl) aN fun d=>by kernel_rfl
def zjd(F:Nat):List ToldF:=[qew F,qat F]
theorem zje(F:Nat):q02 pp (zjd F):=⟨quq F,qkf F,trivial⟩
def qiv(F:Nat):ToldF:=⟨23,2,[.slot 0 .I,.slot 1 (.L 64)],[.ty (.L 4),.ty .I],u2 (qan F)⟩
theorem z2l(F:Nat):(qiv F).ok pp:=
 okF q00 (zje F) (fn:=Tryz.f23) [] (by kernel_rfl) aN fun d=>by kernel_rfl
def zo6(F:Nat):List ToldF:=[qgb F,qat F]
theorem z2m(F:Nat):q02 pp (zo6 F):=⟨qy1 F,qkf F,trivial⟩
def z2n(F:Nat):TL:=⟨35,[.slot 0 .I,.segs [.hole (.L 4)] (.slot 3) true,.ptr 3 1 4,.segs [.hole (.L 64)] (.slot 5) true,.ptr 5 2 64,.slot 11 .I],[.slot 0 .I,.segs [.hole (.L 64)] (.slot 5) true,.ptr 5 1 64],0,fun k=>u4 (q4y F k),fun k=>u4 (qh0 F (q4y F k))⟩
theorem zo7(F:Nat):(z2n F).ok pp Tryz.f27 F:=
 okL q00 (z2m F) [] aN (fun _=>rfl) (fun _ _=>rfl) fun k d=>by kernel_rfl
def qm3(F:Nat):ToldF:=⟨27,2,[.slot 0 .I,.slot 1 (.L 4)],[.ty (.bool)],u2 (q9l F)⟩
theorem z73(F:Nat):(qm3 F).ok pp:=
 okF q00 (z2m F) (fn:=Tryz.f27) [(0,(z2n F).ann F)] (by kernel_rfl) (aL (by kernel_rfl) (zo7 F) aN) fun d=>by kernel_rfl
def zjf(F:Nat):List ToldF:=[qih F,qat F,qiv F,qm3 F]
theorem zjg(F:Nat):q02 pp (zjf F):=⟨z1z F,qkf F,z2l F,z73 F,trivial⟩
def quv(F:Nat):ToldF:=⟨19,0,[],[.ty (.bool)],u0 (qsg F)⟩
theorem zo8(F:Nat):(quv F).ok pp:=
 okF q00 (zjg F) (fn:=Tryz.f19) [] (by kernel_rfl) aN fun d=>by kernel_rfl
def qf0(F:Nat):ToldF:=⟨10,1,[.slot 0 .I],[.ty (.agg [.I,.I,.bool]),.ty .I],u1 (qka F)⟩
theorem qt4(F:Nat):(qf0 F).ok pp:=
 okF q00 (qx1 F) (fn:=Tryz.f10) [] (by kernel_rfl) aN fun d=>by kernel_rfl
def qf2(F:Nat):TX:=⟨27,[.segs [.hole (.L 64)] (.slot 1) true,.ptr 1 1 64,.slot 3 .I,.slot 4 .I],[.const 2 (.bool (some false) false)],[.segs [.hole (.L 64)] (.slot 1) true,.ptr 1 1 64,.slot 3 .I],.ret,2,fun k=>u3 (q1b F k),fun k=>u3 (q4m F (q1b F k))⟩
theorem qnw(F:Nat):(qf2 F).ok pp Tryz.f39 F:=
 okX q00 (qx1 F) [] aN (fun _=>rfl) (fun _ _=>rfl) (eR rfl) fun k d=>by kernel_rfl
def qnx(F:Nat):TX:=⟨27,[.segs [.hole (.L 64)] (.slot 1) true,.ptr 1 1 64,.slot 3 .I],[.const 2 (.bool (some false) false)],[],.ret,0,fun k=>u2 (q1c F k),fun k=>u2 (q4n F (q1c F k))⟩
theorem z75(F:Nat):(qnx F).ok pp Tryz.f39 F:=
 okX q00 (qx1 F) [(2,(qf2 F).ann F)] (aX (by kernel_rfl) (qnw F) aN) (fun _=>rfl) (fun _ _=>rfl) (eR rfl) fun k d=>by kernel_rfl
def qm4(F:Nat):ToldF:=⟨39,1,[.slot 0 (.L 64)],[.ty (.bool)],u1 (q59 F)⟩
theorem zar(F:Nat):(qm4 F).ok pp:=
 okF q00 (qx1 F) (fn:=Tryz.f39) [(2,(qf2 F).ann F),(0,(qnx F).ann F)] (by kernel_rfl) (aX (by kernel_rfl) (qnw F) (aX (by kernel_rfl) (z75 F) aN)) fun d=>by kernel_rfl
def zjh(F:Nat):List ToldF:=[qf0 F]
theorem qm5(F:Nat):q02 pp (zjh F):=⟨qt4 F,trivial⟩
def qm6(F:Nat):TL:=⟨44,[.segs [.hole (.L 64)] (.slot 3) true,.ptr 3 1 64,.segs [.hole (.L 64)] (.slot 4) true,.ptr 4 2 64,.segs [.J,.J,.hole (.bool)] (.slot 5) true,.ptr 5 3 3,.slot 7 .I,.slot 8 .I,.slot 18 (.bool)],[.segs [.hole (.L 64)] (.slot 3) true,.ptr 3 1 64,.segs [.hole (.L 64)] (.slot 4) true,.ptr 4 2 64,.segs [.J,.J,.hole (.bool)] (.slot 5) true,.ptr 5 3 3,.slot 7 .I,.slot 18 (.bool)],2,fun k=>u8 (q9m F k),fun k=>u8 (qed F (q9m F k))⟩
theorem qyb(F:Nat):(qm6 F).ok pp Tryz.f40 F:=
 okL q00 (qm5 F) [] aN (fun _=>rfl) (fun _ _=>rfl) fun k d=>by kernel_rfl
def qyc(F:Nat):TL:=⟨44,[.segs [.hole (.L 64)] (.slot 3) true,.ptr 3 1 64,.segs [.hole (.L 64)] (.slot 4) true,.ptr 4 2 64,.segs [.J,.J,.hole (.bool)] (.slot 5) true,.ptr 5 3 3,.slot 7 .I],[.segs [.hole (.L 64)] (.slot 3) true,.ptr 3 1 64,.segs [.hole (.L 64)] (.slot 4) true,.ptr 4 2 64],0,fun k=>u6 (q9n F k),fun k=>u6 (qee F (q9n F k))⟩
theorem zji(F:Nat):(qyc F).ok pp Tryz.f40 F:=
 okL q00 (qm5 F) [(2,(qm6 F).ann F)] (aL (by kernel_rfl) (qyb F) aN) (fun _=>rfl) (fun _ _=>rfl) fun k d=>by kernel_rfl
def qiw(F:Nat):ToldF:=⟨40,2,[.slot 0 .I,.slot 1 (.L 64)],[.ty (.L 64)],u2 (qg2 F)⟩
theorem z2o(F:Nat):(qiw F).ok pp:=
 okF q00 (qm5 F) (fn:=Tryz.f40) [(2,(qm6 F).ann F),(0,(qyc F).ann F)] (by kernel_rfl) (aL (by kernel_rfl) (qyb F) (aL (by kernel_rfl) (zji F) aN)) fun d=>by kernel_rfl
def qye(F:Nat):TL:=⟨13,[.slot 0 .I,.slot 3 .I,.slot 4 .I],[.slot 3 .I],0,fun k=>u3 (qgt F k),fun k=>u3 (qwp F (qgt F k))⟩
theorem zjk(F:Nat):(qye F).ok pp Tryz.f112 F:=
 okL q00 (qx1 F) [] aN (fun _=>rfl) (fun _ _=>rfl) fun k d=>by kernel_rfl
def qix(F:Nat):ToldF:=⟨112,1,[.slot 0 .I],[.ty .I],u1 (qfp F)⟩
theorem z2p(F:Nat):(qix F).ok pp:=
 okF q00 (qx1 F) (fn:=Tryz.f112) [(0,(qye F).ann F)] (by kernel_rfl) (aL (by kernel_rfl) (zjk F) aN) fun d=>by kernel_rfl
def qh9(F:Nat):ToldF:=⟨111,2,[.slot 0 .I,.slot 1 .I],[.ty .I],u2 (qlc F)⟩
theorem qyf(F:Nat):(qh9 F).ok pp:=
 okF q00 (qx1 F) (fn:=Tryz.f111) [] (by kernel_rfl) aN fun d=>by kernel_rfl
def zo9(F:Nat):List ToldF:=[qix F,qh9 F]
theorem z2q(F:Nat):q02 pp (zo9 F):=⟨z2p F,qyf F,trivial⟩
def z2r(F:Nat):TL:=⟨35,[.slot 0 .I,.slot 1 .I,.slot 5 .I,.slot 6 .I],[.slot 5 .I],0,fun k=>u4 (qjr F k),fun k=>u4 (z1w F (qjr F k))⟩
theorem zoa(F:Nat):(z2r F).ok pp Tryz.f81 F:=
 okL q00 (z2q F) [] aN (fun _=>rfl) (fun _ _=>rfl) fun k d=>by kernel_rfl
def q4a(F:Nat):ToldF:=⟨81,2,[.slot 0 .I,.slot 1 .I],[.ty .I],u2 (q0e F)⟩
theorem q8s(F:Nat):(q4a F).ok pp:=
 okF q00 (z2q F) (fn:=Tryz.f81) [(0,(z2r F).ann F)] (by kernel_rfl) (aL (by kernel_rfl) (zoa F) aN) fun d=>by kernel_rfl
def zob(F:Nat):List ToldF:=[q4a F]
theorem qor(F:Nat):q02 pp (zob F):=⟨q8s F,trivial⟩
def z2s(F:Nat):TL:=⟨26,[.slot 0 .I,.const 3 .nils,.slot 4 .I,.slot 5 .I],[.slot 0 .I,.const 3 .nils,.slot 4 .I],0,fun k=>u3 (q8j F k),fun k=>u3 (q9o F (q8j F k))⟩
theorem zoc(F:Nat):(z2s F).ok pp Tryz.f45 F:=
 okL q00 (qor F) [] aN (fun _=>rfl) (fun _ _=>rfl) fun k d=>by kernel_rfl
def z2t(F:Nat):TL:=⟨26,[.slot 0 .I,.row .i64 1 (.slot 3) true,.slot 4 .I,.slot 6 .I],[.row .i64 1 (.slot 3) true],2,fun k=>u4 (q8k F k),fun k=>u4 (q9p F (q8k F k))⟩
theorem zod(F:Nat):(z2t F).ok pp Tryz.f45 F:=
 okL q00 (qor F) [] aN (fun _=>rfl) (fun _ _=>rfl) fun k d=>by kernel_rfl
def qau(F:Nat):ToldF:=⟨45,1,[.slot 0 .I],[.row .i64 1],u1 (q3e F)⟩
theorem qkg(F:Nat):(qau F).ok pp:=
 okF q00 (qor F) (fn:=Tryz.f45) [(0,(z2s F).ann F),(2,(z2t F).ann F)] (by kernel_rfl) (aL (by kernel_rfl) (zoc F) (aL (by kernel_rfl) (zod F) aN)) fun d=>by kernel_rfl
def z2v(F:Nat):TL:=⟨20,[.slot 1 .I,.segs [.hole (.L 64)] (.slot 2) true,.ptr 2 1 64,.row .i64 1 (.slot 5) true,.slot 6 .I],[.row .i64 1 (.slot 5) true],0,fun k=>u4 (qbe F k),fun k=>u4 (qh1 F (qbe F k))⟩
theorem zof(F:Nat):(z2v F).ok pp Tryz.f46 F:=
 okL q00 (qx1 F) [] aN (fun _=>rfl) (fun _ _=>rfl) fun k d=>by kernel_rfl
def q4b(F:Nat):ToldF:=⟨46,2,[.slot 0 (.L 64),.slot 1 .I],[.row .i64 1],u2 (q21 F)⟩
theorem q8t(F:Nat):(q4b F).ok pp:=
 okF q00 (qx1 F) (fn:=Tryz.f46) [(0,(z2v F).ann F)] (by kernel_rfl) (aL (by kernel_rfl) (zof F) aN) fun d=>by kernel_rfl
def qos(F:Nat):ToldF:=⟨113,1,[.slot 0 .I],[.ty .I],u1 (qle F)⟩
theorem zcg(F:Nat):(qos F).ok pp:=
 okF q00 (qx1 F) (fn:=Tryz.f113) [] (by kernel_rfl) aN fun d=>by kernel_rfl
def ztd(F:Nat):List ToldF:=[qos F]
theorem z76(F:Nat):q02 pp (ztd F):=⟨zcg F,trivial⟩
def z77(F:Nat):TL:=⟨23,[.slot 0 .I,.row .i64 1 (.slot 1) false,.slot 5 .I,.slot 6 .I],[.slot 5 .I],0,fun k=>u4 (qao F k),fun k=>u4 (qbf F (qao F k))⟩
theorem zte(F:Nat):(z77 F).ok pp Tryz.f80 F:=
 okL q00 (z76 F) [] aN (fun _=>rfl) (fun _ _=>rfl) fun k d=>by kernel_rfl
def z2w(F:Nat):ToldF:=⟨80,2,[.slot 0 .I,.row .i64 1 (.slot 1) false],[.ty .I],u2 (qwy F)⟩
theorem zyk(F:Nat):(z2w F).ok pp:=
 okF q00 (z76 F) (fn:=Tryz.f80) [(0,(z77 F).ann F)] (by kernel_rfl) (aL (by kernel_rfl) (zte F) aN) fun d=>by kernel_rfl
def zog(F:Nat):List ToldF:=[z2w F]
theorem z2x(F:Nat):q02 pp (zog F):=⟨zyk F,trivial⟩
def z2y(F:Nat):TL:=⟨28,[.row .i64 1 (.slot 0) false,.row .i64 1 (.slot 1) false,.slot 5 .I,.slot 6 .I],[.slot 5 .I],0,fun k=>u4 (q8l F k),fun k=>u4 (q9q F (q8l F k))⟩
theorem zoh(F:Nat):(z2y F).ok pp Tryz.f44 F:=
 okL q00 (z2x F) [] aN (fun _=>rfl) (fun _ _=>rfl) fun k d=>by kernel_rfl
def q4c(F:Nat):ToldF:=⟨44,2,[.row .i64 1 (.slot 0) false,.row .i64 1 (.slot 1) false],[.ty .I],u2 (q1j F)⟩
theorem q8u(F:Nat):(q4c F).ok pp:=
 okF q00 (z2x F) (fn:=Tryz.f44) [(0,(z2y F).ann F)] (by kernel_rfl) (aL (by kernel_rfl) (zoh F) aN) fun d=>by kernel_rfl
def qyg(F:Nat):ToldF:=⟨204,3,[.row .u8 1 (.slot 0) false,.slot 1 .I,.slot 2 .I],[.ty (.bool)],u3 (z0k F)⟩
theorem ztf(F:Nat):(qyg F).ok pp:=
 okF q00 (qx1 F) (fn:=Tryz.f204) [] (by kernel_rfl) aN fun d=>by kernel_rfl
def z79(F:Nat):TL:=⟨30,[.slot 7 .I,.slot 8 .I,.slot 9 .I],[.slot 8 .I],0,fun k=>u3 (qab F k),fun k=>u3 (qs0 F (qab F k))⟩
theorem zth(F:Nat):(z79 F).ok pp Tryz.f147 F:=
 okL q00 (qx1 F) [] aN (fun _=>rfl) (fun _ _=>rfl) fun k d=>by kernel_rfl
def qot(F:Nat):ToldF:=⟨147,3,[.row .u8 1 (.slot 0) false,.slot 1 .I,.slot 2 (.bool)],[.ty .I],u3 (qdv F)⟩
theorem zch(F:Nat):(qot F).ok pp:=
 okF q00 (qx1 F) (fn:=Tryz.f147) [(0,(z79 F).ann F)] (by kernel_rfl) (aL (by kernel_rfl) (zth F) aN) fun d=>by kernel_rfl
def zti(F:Nat):List ToldF:=[qyg F,qot F]
theorem z7a(F:Nat):q02 pp (zti F):=⟨ztf F,zch F,trivial⟩
def z7b(F:Nat):TL:=⟨52,[.row .u8 1 (.slot 0) false,.slot 1 .I,.slot 2 .I,.slot 3 (.bool),.slot 10 (.int .u64),.slot 11 .I],[.slot 10 (.int .u64)],0,fun k=>u6 (qac F k),fun k=>u6 (qs1 F (qac F k))⟩
theorem ztj(F:Nat):(z7b F).ok pp Tryz.f145 F:=
 okL q00 (z7a F) [] aN (fun _=>rfl) (fun _ _=>rfl) fun k d=>by kernel_rfl
def qha(F:Nat):ToldF:=⟨145,4,[.row .u8 1 (.slot 0) false,.slot 1 .I,.slot 2 .I,.slot 3 (.bool)],[.ty (.int .u64),.ty .I],u4 (qpg F)⟩
theorem qyh(F:Nat):(qha F).ok pp:=
 okF q00 (z7a F) (fn:=Tryz.f145) [(0,(z7b F).ann F)] (by kernel_rfl) (aL (by kernel_rfl) (ztj F) aN) fun d=>by kernel_rfl
def qyj(F:Nat):TL:=⟨13,[.slot 0 .I,.slot 3 (.int .u64),.slot 4 .I],[.slot 3 (.int .u64)],0,fun k=>u3 (q94 F k),fun k=>u3 (qla F (q94 F k))⟩
theorem zjm(F:Nat):(qyj F).ok pp Tryz.f146 F:=
 okL q00 (qx1 F) [] aN (fun _=>rfl) (fun _ _=>rfl) fun k d=>by kernel_rfl
def quw(F:Nat):ToldF:=⟨146,1,[.slot 0 .I],[.ty (.int .u64)],u1 (qad F)⟩
theorem zok(F:Nat):(quw F).ok pp:=
 okF q00 (qx1 F) (fn:=Tryz.f146) [(0,(qyj F).ann F)] (by kernel_rfl) (aL (by kernel_rfl) (zjm F) aN) fun d=>by kernel_rfl
def ztk(F:Nat):List ToldF:=[qot F,qha F,quw F]
theorem z7c(F:Nat):q02 pp (ztk F):=⟨zch F,qyh F,zok F,trivial⟩
def z7d(F:Nat):TL:=⟨91,[.slot 1 .I,.slot 2 .I,.slot 3 (.bool),.slot 4 (.int .u64),.row .u8 1 (.slot 14) true,.slot 15 .I],[.row .u8 1 (.slot 14) true],0,fun k=>u6 (qae F k),fun k=>u6 (qs2 F (qae F k))⟩
theorem ztl(F:Nat):(z7d F).ok pp Tryz.f79 F:=
 okL q00 (z7c F) [] aN (fun _=>rfl) (fun _ _=>rfl) fun k d=>by kernel_rfl
def q3u(F:Nat):ToldF:=⟨79,5,[.row .u8 1 (.slot 0) false,.slot 1 .I,.slot 2 .I,.slot 3 (.bool),.slot 4 (.int .u64)],[.row .u8 1,.ty .I],u5 (q2b F)⟩
theorem q86(F:Nat):(q3u F).ok pp:=
 okF q00 (z7c F) (fn:=Tryz.f79) [(0,(z7d F).ann F)] (by kernel_rfl) (aL (by kernel_rfl) (ztl F) aN) fun d=>by kernel_rfl
def zol(F:Nat):List ToldF:=[q3u F]
theorem z2z(F:Nat):q02 pp (zol F):=⟨q86 F,trivial⟩
def z30(F:Nat):TX:=⟨66,[.segs [.hole (.L 16)] (.slot 5) true,.ptr 5 1 16,.row .u8 1 (.slot 8) true,.slot 9 .I],[.const 6 .nils,.const 7 (.int .i64 (some 1) 1)],[.row .u8 1 (.slot 8) true],.ret,0,fun k=>u3 (q3i F k),fun k=>u3 (q98 F (q3i F k))⟩
theorem zom(F:Nat):(z30 F).ok pp Tryz.f78 F:=
 okX q00 (z2z F) [] aN (fun _=>rfl) (fun _ _=>rfl) (eR rfl) fun k d=>by kernel_rfl
def qyk(F:Nat):ToldF:=⟨78,3,[.slot 0 .I,.slot 1 .I,.slot 2 (.L 16)],[.row .u8 1,.ty .I],u3 (q99 F)⟩
theorem ztm(F:Nat):(qyk F).ok pp:=
 okF q00 (z2z F) (fn:=Tryz.f78) [(0,(z30 F).ann F)] (by kernel_rfl) (aX (by kernel_rfl) (zom F) aN) fun d=>by kernel_rfl
def ztn(F:Nat):List ToldF:=[qau F,q4b F,q4c F,qyk F]
theorem zto(F:Nat):q02 pp (ztn F):=⟨qkg F,q8t F,q8u F,ztm F,trivial⟩
def z31(F:Nat):ToldF:=⟨41,1,[.slot 0 (.L 64)],[.row .u8 1],u1 (qpq F)⟩
theorem zyl(F:Nat):(z31 F).ok pp:=
 okF q00 (zto F) (fn:=Tryz.f41) [] (by kernel_rfl) aN fun d=>by kernel_rfl
def z7f(F:Nat):TL:=⟨14,[.slot 0 .I,.segs [.hole (.L 16)] (.slot 2) true,.ptr 2 1 16,.segs [.hole (.L 16)] (.slot 3) true,.ptr 3 2 16,.slot 4 .I],[.segs [.hole (.L 16)] (.slot 2) true,.ptr 2 1 16,.segs [.hole (.L 16)] (.slot 3) true,.ptr 3 2 16],0,fun k=>u4 (qap F k),fun k=>u4 (qkc F (qap F k))⟩
theorem ztq(F:Nat):(z7f F).ok pp Tryz.f43 F:=
 okL q00 (qx1 F) [] aN (fun _=>rfl) (fun _ _=>rfl) fun k d=>by kernel_rfl
def qou(F:Nat):ToldF:=⟨43,1,[.slot 0 .I],[.ty (.L 16)],u1 (qwz F)⟩
theorem zci(F:Nat):(qou F).ok pp:=
 okF q00 (qx1 F) (fn:=Tryz.f43) [(0,(z7f F).ann F)] (by kernel_rfl) (aL (by kernel_rfl) (ztq F) aN) fun d=>by kernel_rfl
def z50(F:Nat):List ToldF:=[q3u F]
theorem qm7(F:Nat):q02 pp (z50 F):=⟨q86 F,trivial⟩
def qm8(F:Nat):TX:=⟨33,[.segs [.hole (.L 16)] (.slot 1) true,.ptr 1 1 16,.row .u8 1 (.slot 4) true,.slot 5 .I],[.const 2 .nils,.const 3 (.int .i64 (some 1) 1)],[.row .u8 1 (.slot 4) true],.ret,0,fun k=>u3 (q17 F k),fun k=>u3 (q3b F (q17 F k))⟩
theorem z51(F:Nat):(qm8 F).ok pp Tryz.f42 F:=
 okX q00 (qm7 F) [] aN (fun _=>rfl) (fun _ _=>rfl) (eR rfl) fun k d=>by kernel_rfl
def qjf(F:Nat):ToldF:=⟨42,1,[.slot 0 (.L 16)],[.row .u8 1,.ty .I],u1 (q7g F)⟩
theorem z7g(F:Nat):(qjf F).ok pp:=
 okF q00 (qm7 F) (fn:=Tryz.f42) [(0,(qm8 F).ann F)] (by kernel_rfl) (aX (by kernel_rfl) (z51 F) aN) fun d=>by kernel_rfl
def z33(F:Nat):TL:=⟨23,[.slot 0 .I,.slot 1 .I,.slot 2 .I,.row .i64 1 (.slot 7) true,.slot 8 .I],[.row .i64 1 (.slot 7) true],0,fun k=>u5 (q8m F k),fun k=>u5 (q9r F (q8m F k))⟩
theorem zoo(F:Nat):(z33 F).ok pp Tryz.f52 F:=
 okL q00 (qx1 F) [] aN (fun _=>rfl) (fun _ _=>rfl) fun k d=>by kernel_rfl
def qav(F:Nat):ToldF:=⟨52,3,[.slot 0 .I,.slot 1 .I,.slot 2 .I],[.row .i64 1],u3 (q9s F)⟩
theorem qkh(F:Nat):(qav F).ok pp:=
 okF q00 (qx1 F) (fn:=Tryz.f52) [(0,(z33 F).ann F)] (by kernel_rfl) (aL (by kernel_rfl) (zoo F) aN) fun d=>by kernel_rfl
def zop(F:Nat):List ToldF:=[q3u F]
theorem z34(F:Nat):q02 pp (zop F):=⟨q86 F,trivial⟩
def z35(F:Nat):TX:=⟨56,[.segs [.hole (.L 16)] (.slot 5) true,.ptr 5 1 16,.row .u8 1 (.slot 8) true,.slot 9 .I],[.const 6 .nils,.const 7 (.int .i64 (some 1) 1)],[.row .u8 1 (.slot 8) true],.ret,0,fun k=>u3 (q3h F k),fun k=>u3 (q95 F (q3h F k))⟩
theorem zoq(F:Nat):(z35 F).ok pp Tryz.f82 F:=
 okX q00 (z34 F) [] aN (fun _=>rfl) (fun _ _=>rfl) (eR rfl) fun k d=>by kernel_rfl
def qyl(F:Nat):ToldF:=⟨82,3,[.slot 0 .I,.slot 1 .I,.slot 2 (.L 16)],[.row .u8 1,.ty .I],u3 (q96 F)⟩
theorem ztr(F:Nat):(qyl F).ok pp:=
 okF q00 (z34 F) (fn:=Tryz.f82) [(0,(z35 F).ann F)] (by kernel_rfl) (aX (by kernel_rfl) (zoq F) aN) fun d=>by kernel_rfl
def zor(F:Nat):List ToldF:=[q4b F,q4c F,qav F,qyl F]
theorem zos(F:Nat):q02 pp (zor F):=⟨q8t F,q8u F,qkh F,ztr F,trivial⟩
def qym(F:Nat):ToldF:=⟨47,2,[.slot 0 (.L 64),.slot 1 .I],[.row .u8 1],u2 (qg3 F)⟩
theorem zts(F:Nat):(qym F).ok pp:=
 okF q00 (zos F) (fn:=Tryz.f47) [] (by kernel_rfl) aN fun d=>by kernel_rfl
def ztt(F:Nat):List ToldF:=[q3u F]
theorem qf3(F:Nat):q02 pp (ztt F):=⟨q86 F,trivial⟩
def qt5(F:Nat):TX:=⟨113,[.segs [.hole (.L 8)] (.slot 3) true,.ptr 3 1 8,.segs [.hole (.L 2)] (.slot 4) true,.ptr 4 2 2,.segs [.hole (.L 16)] (.slot 5) true,.ptr 5 3 16,.row .u8 1 (.slot 8) true,.slot 9 .I,.slot 10 .I,.slot 11 .I],[.const 6 .nils,.const 7 (.int .i64 (some 1) 1)],[.segs [.hole (.L 8)] (.slot 3) true,.ptr 3 1 8,.segs [.hole (.L 2)] (.slot 4) true,.ptr 4 2 2,.segs [.hole (.L 16)] (.slot 5) true,.ptr 5 3 16,.row .u8 1 (.slot 8) true,.slot 9 .I,.slot 10 .I],.ret,2,fun k=>u7 (q80 F k),fun k=>u7 (qk2 F (q80 F k))⟩
theorem z7h(F:Nat):(qt5 F).ok pp Tryz.f83 F:=
 okX q00 (qf3 F) [] aN (fun _=>rfl) (fun _ _=>rfl) (eR rfl) fun k d=>by kernel_rfl
def z7i(F:Nat):TX:=⟨113,[.segs [.hole (.L 8)] (.slot 3) true,.ptr 3 1 8,.segs [.hole (.L 2)] (.slot 4) true,.ptr 4 2 2,.segs [.hole (.L 16)] (.slot 5) true,.ptr 5 3 16,.row .u8 1 (.slot 8) true,.slot 9 .I,.slot 10 .I],[.const 6 .nils,.const 7 (.int .i64 (some 1) 1)],[.segs [.hole (.L 2)] (.slot 4) true,.ptr 4 1 2,.segs [.hole (.L 16)] (.slot 5) true,.ptr 5 2 16,.row .u8 1 (.slot 8) true,.slot 9 .I],.ret,0,fun k=>u6 (q81 F k),fun k=>u6 (qk3 F (q81 F k))⟩
theorem ztu(F:Nat):(z7i F).ok pp Tryz.f83 F:=
 okX q00 (qf3 F) [(2,(qt5 F).ann F)] (aX (by kernel_rfl) (z7h F) aN) (fun _=>rfl) (fun _ _=>rfl) (eR rfl) fun k d=>by kernel_rfl
def z7j(F:Nat):TX:=⟨113,[.segs [.hole (.L 2)] (.slot 4) true,.ptr 4 1 2,.segs [.hole (.L 16)] (.slot 5) true,.ptr 5 2 16,.row .u8 1 (.slot 8) true,.slot 9 .I,.slot 12 .I],[.const 6 .nils,.const 7 (.int .i64 (some 1) 1)],[.segs [.hole (.L 16)] (.slot 5) true,.ptr 5 1 16,.row .u8 1 (.slot 8) true,.slot 9 .I],.ret,4,fun k=>u5 (q82 F k),fun k=>u5 (qk4 F (q82 F k))⟩
theorem ztv(F:Nat):(z7j F).ok pp Tryz.f83 F:=
 okX q00 (qf3 F) [] aN (fun _=>rfl) (fun _ _=>rfl) (eR rfl) fun k d=>by kernel_rfl
def z7k(F:Nat):TX:=⟨113,[.segs [.hole (.L 16)] (.slot 5) true,.ptr 5 1 16,.row .u8 1 (.slot 8) true,.slot 9 .I,.slot 13 .I],[.const 6 .nils,.const 7 (.int .i64 (some 1) 1)],[.row .u8 1 (.slot 8) true],.ret,6,fun k=>u4 (q83 F k),fun k=>u4 (qk5 F (q83 F k))⟩
theorem ztw(F:Nat):(z7k F).ok pp Tryz.f83 F:=
 okX q00 (qf3 F) [] aN (fun _=>rfl) (fun _ _=>rfl) (eR rfl) fun k d=>by kernel_rfl
def z36(F:Nat):ToldF:=⟨83,3,[.slot 0 (.L 8),.slot 1 (.L 2),.slot 2 (.L 16)],[.row .u8 1,.ty .I],u3 (qws F)⟩
theorem zym(F:Nat):(z36 F).ok pp:=
 okF q00 (qf3 F) (fn:=Tryz.f83) [(2,(qt5 F).ann F),(0,(z7i F).ann F),(4,(z7j F).ann F),(6,(z7k F).ann F)] (by kernel_rfl) (aX (by kernel_rfl) (z7h F) (aX (by kernel_rfl) (ztu F) (aX (by kernel_rfl) (ztv F) (aX (by kernel_rfl) (ztw F) aN)))) fun d=>by kernel_rfl
def zjn(F:Nat):List ToldF:=[qha F]
theorem zjo(F:Nat):q02 pp (zjn F):=⟨qyh F,trivial⟩
def q6b(F:Nat):ToldF:=⟨92,3,[.row .u8 1 (.slot 0) false,.slot 1 .I,.slot 2 .I],[.ty .I],u3 (q2m F)⟩
theorem qby(F:Nat):(q6b F).ok pp:=
 okF q00 (zjo F) (fn:=Tryz.f92) [] (by kernel_rfl) aN fun d=>by kernel_rfl
def zjp(F:Nat):List ToldF:=[q6b F]
theorem qyn(F:Nat):q02 pp (zjp F):=⟨qby F,trivial⟩
def qyo(F:Nat):TL:=⟨33,[.row .u8 1 (.slot 0) false,.segs [.hole (.L 16)] (.slot 4) true,.ptr 4 2 16,.segs [.hole (.L 16)] (.slot 6) true,.ptr 6 3 16,.slot 7 .I],[.row .u8 1 (.slot 0) false,.segs [.hole (.L 16)] (.slot 4) true,.ptr 4 2 16,.segs [.hole (.L 16)] (.slot 6) true,.ptr 6 3 16],0,fun k=>u4 (q50 F k),fun k=>u4 (q7e F (q50 F k))⟩
theorem zjq(F:Nat):(qyo F).ok pp Tryz.f88 F:=
 okL q00 (qyn F) [] aN (fun _=>rfl) (fun _ _=>rfl) fun k d=>by kernel_rfl
def qux(F:Nat):ToldF:=⟨88,1,[.row .u8 1 (.slot 0) false],[.ty .I,.ty .I,.ty (.L 16),.ty .I],u1 (qs4 F)⟩
theorem zot(F:Nat):(qux F).ok pp:=
 okF q00 (qyn F) (fn:=Tryz.f88) [(0,(qyo F).ann F)] (by kernel_rfl) (aL (by kernel_rfl) (zjq F) aN) fun d=>by kernel_rfl
def ztx(F:Nat):List ToldF:=[qh9 F]
theorem zty(F:Nat):q02 pp (ztx F):=⟨qyf F,trivial⟩
def qbz(F:Nat):ToldF:=⟨157,5,[.slot 0 .I,.slot 1 .I,.slot 2 .I,.slot 3 .I,.slot 4 .I],[.ty .I],u5 (qhg F)⟩
theorem qny(F:Nat):(qbz F).ok pp:=
 okF q00 (zty F) (fn:=Tryz.f157) [] (by kernel_rfl) aN fun d=>by kernel_rfl
def zou(F:Nat):List ToldF:=[qbz F]
theorem qov(F:Nat):q02 pp (zou F):=⟨qny F,trivial⟩
def z37(F:Nat):TL:=⟨39,[.slot 0 .I,.slot 1 .I,.segs [.hole (.L 8)] (.slot 4) true,.ptr 4 1 8,.segs [.hole (.L 8)] (.slot 5) true,.ptr 5 2 8,.slot 6 .I],[.segs [.hole (.L 8)] (.slot 4) true,.ptr 4 1 8,.segs [.hole (.L 8)] (.slot 5) true,.ptr 5 2 8],0,fun k=>u5 (qax F k),fun k=>u5 (qoh F (qax F k))⟩
theorem zov(F:Nat):(z37 F).ok pp Tryz.f89 F:=
 okL q00 (qov F) [] aN (fun _=>rfl) (fun _ _=>rfl) fun k d=>by kernel_rfl
def z38(F:Nat):TL:=⟨39,[.slot 0 .I,.slot 1 .I,.segs [.hole (.L 8)] (.slot 4) true,.ptr 4 1 8,.segs [.hole (.L 8)] (.slot 5) true,.ptr 5 2 8,.slot 7 .I],[.segs [.hole (.L 8)] (.slot 4) true,.ptr 4 1 8,.segs [.hole (.L 8)] (.slot 5) true,.ptr 5 2 8],2,fun k=>u5 (qay F k),fun k=>u5 (qoi F (qay F k))⟩
theorem zow(F:Nat):(z38 F).ok pp Tryz.f89 F:=
 okL q00 (qov F) [] aN (fun _=>rfl) (fun _ _=>rfl) fun k d=>by kernel_rfl
def qyp(F:Nat):ToldF:=⟨89,2,[.slot 0 .I,.slot 1 .I],[.ty (.L 8)],u2 (z0m F)⟩
theorem ztz(F:Nat):(qyp F).ok pp:=
 okF q00 (qov F) (fn:=Tryz.f89) [(0,(z37 F).ann F),(2,(z38 F).ann F)] (by kernel_rfl) (aL (by kernel_rfl) (zov F) (aL (by kernel_rfl) (zow F) aN)) fun d=>by kernel_rfl
def zez(F:Nat):List ToldF:=[qux F,qyp F]
theorem quy(F:Nat):q02 pp (zez F):=⟨zot F,ztz F,trivial⟩
def quz(F:Nat):TL:=⟨36,[.segs [.hole (.L 16)] (.slot 2) true,.ptr 2 1 16,.segs [.hole (.L 16)] (.slot 6) true,.ptr 6 2 16,.segs [.hole (.L 8)] (.slot 8) true,.ptr 8 3 8,.slot 9 .I],[.segs [.hole (.L 16)] (.slot 2) true,.ptr 2 1 16,.segs [.hole (.L 16)] (.slot 6) true,.ptr 6 2 16],0,fun k=>u4 (q3w F k),fun k=>u4 (q63 F (q3w F k))⟩
theorem zf0(F:Nat):(quz F).ok pp Tryz.f54 F:=
 okL q00 (quy F) [] aN (fun _=>rfl) (fun _ _=>rfl) fun k d=>by kernel_rfl
def qqo(F:Nat):ToldF:=⟨54,1,[.row .u8 1 (.slot 0) false],[.ty (.L 16),.ty .I],u1 (qhh F)⟩
theorem zjr(F:Nat):(qqo F).ok pp:=
 okF q00 (quy F) (fn:=Tryz.f54) [(0,(quz F).ann F)] (by kernel_rfl) (aL (by kernel_rfl) (zf0 F) aN) fun d=>by kernel_rfl
def zjs(F:Nat):List ToldF:=[q6b F]
theorem qyq(F:Nat):q02 pp (zjs F):=⟨qby F,trivial⟩
def qyr(F:Nat):TL:=⟨29,[.row .u8 1 (.slot 0) false,.segs [.hole (.L 16)] (.slot 4) true,.ptr 4 2 16,.segs [.hole (.L 16)] (.slot 6) true,.ptr 6 3 16,.slot 7 .I],[.row .u8 1 (.slot 0) false,.segs [.hole (.L 16)] (.slot 4) true,.ptr 4 2 16,.segs [.hole (.L 16)] (.slot 6) true,.ptr 6 3 16],0,fun k=>u4 (q52 F k),fun k=>u4 (q7i F (q52 F k))⟩
theorem zjt(F:Nat):(qyr F).ok pp Tryz.f90 F:=
 okL q00 (qyq F) [] aN (fun _=>rfl) (fun _ _=>rfl) fun k d=>by kernel_rfl
def qv0(F:Nat):ToldF:=⟨90,1,[.row .u8 1 (.slot 0) false],[.ty .I,.ty .I,.ty (.L 16),.ty .I],u1 (qs6 F)⟩
theorem zox(F:Nat):(qv0 F).ok pp:=
 okF q00 (qyq F) (fn:=Tryz.f90) [(0,(qyr F).ann F)] (by kernel_rfl) (aL (by kernel_rfl) (zjt F) aN) fun d=>by kernel_rfl
def zf1(F:Nat):List ToldF:=[q4a F]
theorem zf2(F:Nat):q02 pp (zf1 F):=⟨q8s F,trivial⟩
def qqp(F:Nat):ToldF:=⟨158,1,[.slot 0 .I],[.ty (.L 4)],u1 (qhk F)⟩
theorem zju(F:Nat):(qqp F).ok pp:=
 okF q00 (zf2 F) (fn:=Tryz.f158) [] (by kernel_rfl) aN fun d=>by kernel_rfl
def zu0(F:Nat):List ToldF:=[qbz F]
theorem z7l(F:Nat):q02 pp (zu0 F):=⟨qny F,trivial⟩
def z7m(F:Nat):TL:=⟨28,[.slot 2 .I,.slot 3 .I,.segs [.hole (.L 4)] (.slot 4) true,.ptr 4 1 4,.segs [.hole (.L 4)] (.slot 5) true,.ptr 5 2 4,.segs [.hole (.L 4)] (.slot 8) true,.ptr 8 3 4,.segs [.hole (.L 4)] (.slot 9) true,.ptr 9 4 4,.slot 10 .I],[.segs [.hole (.L 4)] (.slot 8) true,.ptr 8 1 4,.segs [.hole (.L 4)] (.slot 9) true,.ptr 9 2 4],0,fun k=>u7 (q7y F k),fun k=>u7 (qjv F (q7y F k))⟩
theorem zu1(F:Nat):(z7m F).ok pp Tryz.f159 F:=
 okL q00 (z7l F) [] aN (fun _=>rfl) (fun _ _=>rfl) fun k d=>by kernel_rfl
def z39(F:Nat):ToldF:=⟨159,4,[.slot 0 (.L 4),.slot 1 (.L 4),.slot 2 .I,.slot 3 .I],[.ty (.L 4)],u4 (qhl F)⟩
theorem zyn(F:Nat):(z39 F).ok pp:=
 okF q00 (z7l F) (fn:=Tryz.f159) [(0,(z7m F).ann F)] (by kernel_rfl) (aL (by kernel_rfl) (zu1 F) aN) fun d=>by kernel_rfl
def zas(F:Nat):List ToldF:=[qqp F,z39 F]
theorem zat(F:Nat):q02 pp (zas F):=⟨zju F,zyn F,trivial⟩
def qnz(F:Nat):ToldF:=⟨91,3,[.slot 0 .I,.slot 1 .I,.slot 2 (.bool)],[.ty (.L 16)],u3 (qjw F)⟩
theorem zf3(F:Nat):(qnz F).ok pp:=
 okF q00 (zat F) (fn:=Tryz.f91) [] (by kernel_rfl) aN fun d=>by kernel_rfl
def zf4(F:Nat):List ToldF:=[qv0 F,qnz F]
theorem qv1(F:Nat):q02 pp (zf4 F):=⟨zox F,zf3 F,trivial⟩
def qv2(F:Nat):TL:=⟨41,[.segs [.hole (.L 64)] (.slot 4) true,.ptr 4 1 64,.segs [.hole (.L 64)] (.slot 6) true,.ptr 6 2 64,.segs [.hole (.L 16)] (.slot 9) true,.ptr 9 3 16,.segs [.hole (.L 16)] (.slot 11) true,.ptr 11 4 16,.slot 12 .I],[.segs [.hole (.L 64)] (.slot 4) true,.ptr 4 1 64,.segs [.hole (.L 64)] (.slot 6) true,.ptr 6 2 64],0,fun k=>u5 (q3y F k),fun k=>u5 (q65 F (q3y F k))⟩
theorem zf5(F:Nat):(qv2 F).ok pp Tryz.f55 F:=
 okL q00 (qv1 F) [] aN (fun _=>rfl) (fun _ _=>rfl) fun k d=>by kernel_rfl
def qqq(F:Nat):ToldF:=⟨55,2,[.row .u8 1 (.slot 0) false,.slot 1 (.bool)],[.ty (.L 64),.ty .I],u2 (q53 F)⟩
theorem zjv(F:Nat):(qqq F).ok pp:=
 okF q00 (qv1 F) (fn:=Tryz.f55) [(0,(qv2 F).ann F)] (by kernel_rfl) (aL (by kernel_rfl) (zf5 F) aN) fun d=>by kernel_rfl
def zjw(F:Nat):List ToldF:=[q4a F,q6b F]
theorem qys(F:Nat):q02 pp (zjw F):=⟨q8s F,qby F,trivial⟩
def qyt(F:Nat):TL:=⟨23,[.row .u8 1 (.slot 0) false,.segs [.hole (.L 16)] (.slot 2) true,.ptr 2 2 16,.segs [.hole (.L 16)] (.slot 4) true,.ptr 4 3 16,.slot 5 .I],[.segs [.hole (.L 16)] (.slot 2) true,.ptr 2 1 16,.segs [.hole (.L 16)] (.slot 4) true,.ptr 4 2 16],0,fun k=>u4 (q51 F k),fun k=>u4 (q7f F (q51 F k))⟩
theorem zjx(F:Nat):(qyt F).ok pp Tryz.f56 F:=
 okL q00 (qys F) [] aN (fun _=>rfl) (fun _ _=>rfl) fun k d=>by kernel_rfl
def qv3(F:Nat):ToldF:=⟨56,1,[.row .u8 1 (.slot 0) false],[.ty (.L 16),.ty .I],u1 (qld F)⟩
theorem zoy(F:Nat):(qv3 F).ok pp:=
 okF q00 (qys F) (fn:=Tryz.f56) [(0,(qyt F).ann F)] (by kernel_rfl) (aL (by kernel_rfl) (zjx F) aN) fun d=>by kernel_rfl
def z3b(F:Nat):TL:=⟨20,[.slot 2 .I,.segs [.hole (.L 64)] (.slot 3) true,.ptr 3 1 64,.segs [.hole (.L 16)] (.slot 4) true,.ptr 4 2 16,.segs [.hole (.L 64)] (.slot 6) true,.ptr 6 3 64,.slot 7 .I],[.segs [.hole (.L 64)] (.slot 3) true,.ptr 3 1 64,.segs [.hole (.L 64)] (.slot 6) true,.ptr 6 2 64],0,fun k=>u5 (qbg F k),fun k=>u5 (qh2 F (qbg F k))⟩
theorem zp0(F:Nat):(z3b F).ok pp Tryz.f57 F:=
 okL q00 (qx1 F) [] aN (fun _=>rfl) (fun _ _=>rfl) fun k d=>by kernel_rfl
def qyu(F:Nat):ToldF:=⟨57,3,[.slot 0 (.L 64),.slot 1 (.L 16),.slot 2 .I],[.ty (.L 64)],u3 (q11 F)⟩
theorem zu2(F:Nat):(qyu F).ok pp:=
 okF q00 (qx1 F) (fn:=Tryz.f57) [(0,(z3b F).ann F)] (by kernel_rfl) (aL (by kernel_rfl) (zp0 F) aN) fun d=>by kernel_rfl
def qyw(F:Nat):TL:=⟨15,[.slot 0 .I,.segs [.hole (.L 64)] (.slot 2) true,.ptr 2 1 64,.segs [.hole (.L 64)] (.slot 3) true,.ptr 3 2 64,.slot 4 .I],[.segs [.hole (.L 64)] (.slot 2) true,.ptr 2 1 64,.segs [.hole (.L 64)] (.slot 3) true,.ptr 3 2 64],0,fun k=>u4 (qh3 F k),fun k=>u4 (qx0 F (qh3 F k))⟩
theorem zjz(F:Nat):(qyw F).ok pp Tryz.f58 F:=
 okL q00 (qx1 F) [] aN (fun _=>rfl) (fun _ _=>rfl) fun k d=>by kernel_rfl
def qv4(F:Nat):ToldF:=⟨58,1,[.slot 0 .I],[.ty (.L 64)],u1 (q5s F)⟩
theorem zp1(F:Nat):(qv4 F).ok pp:=
 okF q00 (qx1 F) (fn:=Tryz.f58) [(0,(qyw F).ann F)] (by kernel_rfl) (aL (by kernel_rfl) (zjz F) aN) fun d=>by kernel_rfl
def zp2(F:Nat):List ToldF:=[q6b F]
theorem z3c(F:Nat):q02 pp (zp2 F):=⟨qby F,trivial⟩
def z3d(F:Nat):TX:=⟨16,[.row .u8 1 (.slot 0) false,.slot 3 .I],[.slot 2 .I],[],.ret,0,fun k=>u2 (q6g F k),fun k=>u2 (qgw F (q6g F k))⟩
theorem zp3(F:Nat):(z3d F).ok pp Tryz.f93 F:=
 okX q00 (z3c F) [] aN (fun _=>rfl) (fun _ _=>rfl) (eR rfl) fun k d=>by kernel_rfl
def qyx(F:Nat):ToldF:=⟨93,1,[.row .u8 1 (.slot 0) false],[.ty .I],u1 (z0o F)⟩
theorem zu3(F:Nat):(qyx F).ok pp:=
 okF q00 (z3c F) (fn:=Tryz.f93) [(0,(z3d F).ann F)] (by kernel_rfl) (aX (by kernel_rfl) (zp3 F) aN) fun d=>by kernel_rfl
def qv5(F:Nat):ToldF:=⟨94,0,[],[.row .i64 10],u0 (z4i F)⟩
theorem zp4(F:Nat):(qv5 F).ok pp:=
 okF q00 (qx1 F) (fn:=Tryz.f94) [] (by kernel_rfl) aN fun d=>by kernel_rfl
def z1q(F:Nat):List ToldF:=[q6b F]
theorem z1r(F:Nat):q02 pp (z1q F):=⟨qby F,trivial⟩
def qi2(F:Nat):ToldF:=⟨95,2,[.row .u8 1 (.cell (.slot 0) 0) false,.segs [.sl 1 1 .whole,.J] (.slot 0) true (some 1),.ptr 0 2 2,.slot 1 .I],[.ty .I,.psegs 1 [.row .u8 1 false,.J]],u3 (q0o F)⟩
theorem z52(F:Nat):(qi2 F).ok pp:=
 okF q00 (z1r F) (fn:=Tryz.f95) [] (by kernel_rfl) aN fun d=>by kernel_rfl
def qo0(F:Nat):ToldF:=⟨160,1,[.slot 0 .I],[.row .i64 1],u1 (qaz F)⟩
theorem zf6(F:Nat):(qo0 F).ok pp:=
 okF q00 (qx1 F) (fn:=Tryz.f160) [] (by kernel_rfl) aN fun d=>by kernel_rfl
def zf7(F:Nat):List ToldF:=[qo0 F]
theorem zf8(F:Nat):q02 pp (zf7 F):=⟨zf6 F,trivial⟩
def qqr(F:Nat):ToldF:=⟨96,3,[.slot 0 .I,.slot 1 .I,.slot 2 .I],[.ty .I],u3 (qhi F)⟩
theorem zk2(F:Nat):(qqr F).ok pp:=
 okF q00 (zf8 F) (fn:=Tryz.f96) [] (by kernel_rfl) aN fun d=>by kernel_rfl
def z3e(F:Nat):ToldF:=⟨161,0,[],[.row .i64 1],u0 (zhm F)⟩
theorem zyo(F:Nat):(z3e F).ok pp:=
 okF q00 (qx1 F) (fn:=Tryz.f161) [] (by kernel_rfl) aN fun d=>by kernel_rfl
def qv6(F:Nat):ToldF:=⟨162,0,[],[.row .i64 1],u0 (z4h F)⟩
theorem zp5(F:Nat):(qv6 F).ok pp:=
 okF q00 (qx1 F) (fn:=Tryz.f162) [] (by kernel_rfl) aN fun d=>by kernel_rfl
def zp6(F:Nat):List ToldF:=[z3e F,qv6 F]
theorem z3f(F:Nat):q02 pp (zp6 F):=⟨zyo F,zp5 F,trivial⟩
def z3g(F:Nat):TL:=⟨53,[.slot 2 .I,.slot 7 .I,.slot 8 .I,.slot 9 .I],[.slot 7 .I,.slot 8 .I],0,fun k=>u4 (q8a F k),fun k=>u4 (z1x F (q8a F k))⟩
theorem zp7(F:Nat):(z3g F).ok pp Tryz.f97 F:=
 okL q00 (z3f F) [] aN (fun _=>rfl) (fun _ _=>rfl) fun k d=>by kernel_rfl
def qyy(F:Nat):ToldF:=⟨97,3,[.slot 0 .I,.slot 1 .I,.slot 2 .I],[.ty .I],u3 (qpi F)⟩
theorem zu6(F:Nat):(qyy F).ok pp:=
 okF q00 (z3f F) (fn:=Tryz.f97) [(0,(z3g F).ann F)] (by kernel_rfl) (aL (by kernel_rfl) (zp7 F) aN) fun d=>by kernel_rfl
def qo1(F:Nat):ToldF:=⟨163,1,[.slot 0 .I],[.row .i64 1],u1 (qjs F)⟩
theorem zf9(F:Nat):(qo1 F).ok pp:=
 okF q00 (qx1 F) (fn:=Tryz.f163) [] (by kernel_rfl) aN fun d=>by kernel_rfl
def zu7(F:Nat):List ToldF:=[qbz F,qo1 F]
theorem zu8(F:Nat):q02 pp (zu7 F):=⟨qny F,zf9 F,trivial⟩
def z3h(F:Nat):ToldF:=⟨98,4,[.slot 0 .I,.slot 1 .I,.slot 2 .I,.slot 3 .I],[.ty .I],u4 (q8x F)⟩
theorem zyp(F:Nat):(z3h F).ok pp:=
 okF q00 (zu8 F) (fn:=Tryz.f98) [] (by kernel_rfl) aN fun d=>by kernel_rfl
def zfa(F:Nat):List ToldF:=[q4a F,qyx F,qv5 F,qi2 F,qqr F,qyy F,z3h F]
theorem q0t(F:Nat):q02 pp (zfa F):=⟨q8s F,zu3 F,zp4 F,z52 F,zk2 F,zu6 F,zyp F,trivial⟩
def qiy(F:Nat):TL:=⟨368,[.segs [.hole (.L 64)] (.slot 2) true,.ptr 2 1 64,.segs [.hole (.L 64)] (.slot 4) true,.ptr 4 2 64,.segs [.J,.J,.J,.J,.J,.J,.J,.J,.J,.J] (.slot 6) true,.ptr 6 3 10,.row .u8 1 (.cell (.slot 7) 0) false,.segs [.sl 4 1 .whole,.J] (.slot 7) true,.ptr 7 5 2,.slot 8 .I,.slot 9 .I,.slot 10 .I,.row .i64 4 (.slot 11) true,.slot 12 .I,.slot 13 .I,.slot 14 .I],[.segs [.hole (.L 64)] (.slot 2) true,.ptr 2 1 64,.segs [.hole (.L 64)] (.slot 4) true,.ptr 4 2 64,.segs [.J,.J,.J,.J,.J,.J,.J,.J,.J,.J] (.slot 6) true,.ptr 6 3 10,.row .u8 1 (.cell (.slot 7) 0) false,.segs [.sl 4 1 .whole,.J] (.slot 7) true,.ptr 7 5 2,.slot 8 .I,.slot 9 .I,.slot 10 .I,.row .i64 4 (.slot 11) true,.slot 12 .I],2,fun k=>u21 (q43 F k),fun k=>u21 (qcc F (q43 F k))⟩
theorem qv7(F:Nat):(qiy F).ok pp Tryz.f59 F:=
 okL q00 (q0t F) [] aN (fun _=>rfl) (fun _ _=>rfl) fun k d=>by kernel_rfl
def qv8(F:Nat):TL:=⟨368,[.segs [.hole (.L 64)] (.slot 2) true,.ptr 2 1 64,.segs [.hole (.L 64)] (.slot 4) true,.ptr 4 2 64,.segs [.J,.J,.J,.J,.J,.J,.J,.J,.J,.J] (.slot 6) true,.ptr 6 3 10,.row .u8 1 (.cell (.slot 7) 0) false,.segs [.sl 4 1 .whole,.J] (.slot 7) true,.ptr 7 5 2,.slot 8 .I,.slot 9 .I,.slot 10 .I,.row .i64 4 (.slot 11) true,.slot 12 .I],[.segs [.hole (.L 64)] (.slot 2) true,.ptr 2 1 64,.segs [.hole (.L 64)] (.slot 4) true,.ptr 4 2 64,.segs [.J,.J,.J,.J,.J,.J,.J,.J,.J,.J] (.slot 6) true,.ptr 6 3 10,.row .u8 1 (.cell (.slot 7) 0) false,.segs [.sl 4 1 .whole,.J] (.slot 7) true,.ptr 7 5 2,.slot 8 .I,.slot 9 .I,.slot 10 .I,.row .i64 4 (.slot 11) true],0,fun k=>u19 (q2p F k),fun k=>u19 (qcd F (q2p F k))⟩
theorem zfb(F:Nat):(qv8 F).ok pp Tryz.f59 F:=
 okL q00 (q0t F) [(2,(qiy F).ann F)] (aL (by kernel_rfl) (qv7 F) aN) (fun _=>rfl) (fun _ _=>rfl) fun k d=>by kernel_rfl
def qiz(F:Nat):TL:=⟨368,[.segs [.hole (.L 64)] (.slot 2) true,.ptr 2 1 64,.segs [.hole (.L 64)] (.slot 4) true,.ptr 4 2 64,.segs [.J,.J,.J,.J,.J,.J,.J,.J,.J,.J] (.slot 6) true,.ptr 6 3 10,.row .u8 1 (.cell (.slot 7) 0) false,.segs [.sl 4 1 .whole,.J] (.slot 7) true,.ptr 7 5 2,.slot 8 .I,.slot 9 .I,.slot 10 .I,.row .i64 4 (.slot 11) true,.const 15 (.int .i64 (some 1) 1),.slot 16 .I,.slot 17 .I,.slot 18 .I],[.segs [.hole (.L 64)] (.slot 2) true,.ptr 2 1 64,.segs [.hole (.L 64)] (.slot 4) true,.ptr 4 2 64,.segs [.J,.J,.J,.J,.J,.J,.J,.J,.J,.J] (.slot 6) true,.ptr 6 3 10,.row .u8 1 (.cell (.slot 7) 0) false,.segs [.sl 4 1 .whole,.J] (.slot 7) true,.ptr 7 5 2,.slot 8 .I,.slot 9 .I,.slot 10 .I,.row .i64 4 (.slot 11) true,.const 15 (.int .i64 (some 1) 1),.slot 16 .I],6,fun k=>u21 (q44 F k),fun k=>u21 (qce F (q44 F k))⟩
theorem qv9(F:Nat):(qiz F).ok pp Tryz.f59 F:=
 okL q00 (q0t F) [] aN (fun _=>rfl) (fun _ _=>rfl) fun k d=>by kernel_rfl
def qva(F:Nat):TL:=⟨368,[.segs [.hole (.L 64)] (.slot 2) true,.ptr 2 1 64,.segs [.hole (.L 64)] (.slot 4) true,.ptr 4 2 64,.segs [.J,.J,.J,.J,.J,.J,.J,.J,.J,.J] (.slot 6) true,.ptr 6 3 10,.row .u8 1 (.cell (.slot 7) 0) false,.segs [.sl 4 1 .whole,.J] (.slot 7) true,.ptr 7 5 2,.slot 8 .I,.slot 9 .I,.slot 10 .I,.row .i64 4 (.slot 11) true,.const 15 (.int .i64 (some 1) 1),.slot 16 .I],[.segs [.hole (.L 64)] (.slot 2) true,.ptr 2 1 64,.segs [.hole (.L 64)] (.slot 4) true,.ptr 4 2 64,.segs [.J,.J,.J,.J,.J,.J,.J,.J,.J,.J] (.slot 6) true,.ptr 6 3 10,.row .u8 1 (.cell (.slot 7) 0) false,.segs [.sl 4 1 .whole,.J] (.slot 7) true,.ptr 7 5 2,.slot 8 .I,.slot 9 .I,.slot 10 .I,.row .i64 4 (.slot 11) true,.const 15 (.int .i64 (some 1) 1)],4,fun k=>u19 (q5o F k),fun k=>u19 (qcf F (q5o F k))⟩
theorem zfc(F:Nat):(qva F).ok pp Tryz.f59 F:=
 okL q00 (q0t F) [(6,(qiz F).ann F)] (aL (by kernel_rfl) (qv9 F) aN) (fun _=>rfl) (fun _ _=>rfl) fun k d=>by kernel_rfl
def qgc(F:Nat):TL:=⟨368,[.segs [.hole (.L 64)] (.slot 2) true,.ptr 2 1 64,.segs [.hole (.L 64)] (.slot 4) true,.ptr 4 2 64,.segs [.J,.J,.J,.J,.J,.J,.J,.J,.J,.J] (.slot 6) true,.ptr 6 3 10,.row .u8 1 (.cell (.slot 7) 0) false,.segs [.sl 4 1 .whole,.J] (.slot 7) true,.ptr 7 5 2,.slot 8 .I,.slot 9 .I,.slot 10 .I,.row .i64 4 (.slot 11) true,.const 15 (.int .i64 (some 1) 1),.slot 19 .I,.slot 20 .I,.slot 21 .I],[.segs [.hole (.L 64)] (.slot 2) true,.ptr 2 1 64,.segs [.hole (.L 64)] (.slot 4) true,.ptr 4 2 64,.segs [.J,.J,.J,.J,.J,.J,.J,.J,.J,.J] (.slot 6) true,.ptr 6 3 10,.row .u8 1 (.cell (.slot 7) 0) false,.segs [.sl 4 1 .whole,.J] (.slot 7) true,.ptr 7 5 2,.slot 8 .I,.slot 9 .I,.slot 10 .I,.row .i64 4 (.slot 11) true,.const 15 (.int .i64 (some 1) 1),.slot 19 .I],10,fun k=>u21 (q2x F k),fun k=>u21 (qb2 F (q2x F k))⟩
theorem qqs(F:Nat):(qgc F).ok pp Tryz.f59 F:=
 okL q00 (q0t F) [] aN (fun _=>rfl) (fun _ _=>rfl) fun k d=>by kernel_rfl
def qvb(F:Nat):TL:=⟨368,[.segs [.hole (.L 64)] (.slot 2) true,.ptr 2 1 64,.segs [.hole (.L 64)] (.slot 4) true,.ptr 4 2 64,.segs [.J,.J,.J,.J,.J,.J,.J,.J,.J,.J] (.slot 6) true,.ptr 6 3 10,.row .u8 1 (.cell (.slot 7) 0) false,.segs [.sl 4 1 .whole,.J] (.slot 7) true,.ptr 7 5 2,.slot 8 .I,.slot 9 .I,.slot 10 .I,.row .i64 4 (.slot 11) true,.const 15 (.int .i64 (some 1) 1),.slot 19 .I],[.segs [.hole (.L 64)] (.slot 2) true,.ptr 2 1 64,.segs [.hole (.L 64)] (.slot 4) true,.ptr 4 2 64,.segs [.J,.J,.J,.J,.J,.J,.J,.J,.J,.J] (.slot 6) true,.ptr 6 3 10,.row .u8 1 (.cell (.slot 7) 0) false,.segs [.sl 4 1 .whole,.J] (.slot 7) true,.ptr 7 5 2,.slot 8 .I,.slot 9 .I,.slot 10 .I,.row .i64 4 (.slot 11) true,.const 15 (.int .i64 (some 1) 1)],8,fun k=>u19 (q45 F k),fun k=>u19 (qcg F (q45 F k))⟩
theorem zfd(F:Nat):(qvb F).ok pp Tryz.f59 F:=
 okL q00 (q0t F) [(10,(qgc F).ann F)] (aL (by kernel_rfl) (qqs F) aN) (fun _=>rfl) (fun _ _=>rfl) fun k d=>by kernel_rfl
def qgd(F:Nat):TL:=⟨368,[.segs [.hole (.L 64)] (.slot 2) true,.ptr 2 1 64,.segs [.hole (.L 64)] (.slot 4) true,.ptr 4 2 64,.segs [.J,.J,.J,.J,.J,.J,.J,.J,.J,.J] (.slot 6) true,.ptr 6 3 10,.row .u8 1 (.cell (.slot 7) 0) false,.segs [.sl 4 1 .whole,.J] (.slot 7) true,.ptr 7 5 2,.slot 8 .I,.slot 9 .I,.slot 10 .I,.row .i64 4 (.slot 11) true,.slot 15 .I,.slot 22 .I,.slot 23 .I],[.segs [.hole (.L 64)] (.slot 2) true,.ptr 2 1 64,.segs [.hole (.L 64)] (.slot 4) true,.ptr 4 2 64,.segs [.J,.J,.J,.J,.J,.J,.J,.J,.J,.J] (.slot 6) true,.ptr 6 3 10,.row .u8 1 (.cell (.slot 7) 0) false,.segs [.sl 4 1 .whole,.J] (.slot 7) true,.ptr 7 5 2,.slot 8 .I,.slot 9 .I,.slot 10 .I,.row .i64 4 (.slot 11) true,.slot 15 .I,.slot 22 .I],14,fun k=>u21 (q2y F k),fun k=>u21 (qb3 F (q2y F k))⟩
theorem qqt(F:Nat):(qgd F).ok pp Tryz.f59 F:=
 okL q00 (q0t F) [] aN (fun _=>rfl) (fun _ _=>rfl) fun k d=>by kernel_rfl
def qqu(F:Nat):TL:=⟨368,[.segs [.hole (.L 64)] (.slot 2) true,.ptr 2 1 64,.segs [.hole (.L 64)] (.slot 4) true,.ptr 4 2 64,.segs [.J,.J,.J,.J,.J,.J,.J,.J,.J,.J] (.slot 6) true,.ptr 6 3 10,.row .u8 1 (.cell (.slot 7) 0) false,.segs [.sl 4 1 .whole,.J] (.slot 7) true,.ptr 7 5 2,.slot 8 .I,.slot 9 .I,.slot 10 .I,.row .i64 4 (.slot 11) true,.slot 15 .I,.slot 22 .I],[.segs [.hole (.L 64)] (.slot 2) true,.ptr 2 1 64,.segs [.hole (.L 64)] (.slot 4) true,.ptr 4 2 64,.segs [.J,.J,.J,.J,.J,.J,.J,.J,.J,.J] (.slot 6) true,.ptr 6 3 10,.row .u8 1 (.cell (.slot 7) 0) false,.segs [.sl 4 1 .whole,.J] (.slot 7) true,.ptr 7 5 2,.slot 8 .I,.slot 9 .I,.slot 10 .I,.row .i64 4 (.slot 11) true],12,fun k=>u20 (q1t F k),fun k=>u20 (qb4 F (q1t F k))⟩
theorem zay(F:Nat):(qqu F).ok pp Tryz.f59 F:=
 okL q00 (q0t F) [(14,(qgd F).ann F)] (aL (by kernel_rfl) (qqt F) aN) (fun _=>rfl) (fun _ _=>rfl) fun k d=>by kernel_rfl
def qge(F:Nat):TL:=⟨368,[.segs [.hole (.L 64)] (.slot 2) true,.ptr 2 1 64,.segs [.hole (.L 64)] (.slot 4) true,.ptr 4 2 64,.segs [.J,.J,.J,.J,.J,.J,.J,.J,.J,.J] (.slot 6) true,.ptr 6 3 10,.row .u8 1 (.cell (.slot 7) 0) false,.segs [.sl 4 1 .whole,.J] (.slot 7) true,.ptr 7 5 2,.slot 8 .I,.slot 9 .I,.slot 10 .I,.row .i64 4 (.slot 11) true,.segs [.hole (.L 16)] (.slot 24) true,.ptr 24 7 16,.segs [.hole (.L 16)] (.slot 25) true,.ptr 25 8 16,.slot 26 .I,.slot 27 .I,.slot 28 .I],[.segs [.hole (.L 64)] (.slot 2) true,.ptr 2 1 64,.segs [.hole (.L 64)] (.slot 4) true,.ptr 4 2 64,.segs [.J,.J,.J,.J,.J,.J,.J,.J,.J,.J] (.slot 6) true,.ptr 6 3 10,.row .u8 1 (.cell (.slot 7) 0) false,.segs [.sl 4 1 .whole,.J] (.slot 7) true,.ptr 7 5 2,.slot 8 .I,.slot 9 .I,.slot 10 .I,.row .i64 4 (.slot 11) true,.segs [.hole (.L 16)] (.slot 24) true,.ptr 24 7 16,.segs [.hole (.L 16)] (.slot 25) true,.ptr 25 8 16,.slot 26 .I,.slot 27 .I],18,fun k=>u23 (q1u F k),fun k=>u23 (qb5 F (q1u F k))⟩
theorem qqv(F:Nat):(qge F).ok pp Tryz.f59 F:=
 okL q00 (q0t F) [] aN (fun _=>rfl) (fun _ _=>rfl) fun k d=>by kernel_rfl
def qqw(F:Nat):TL:=⟨368,[.segs [.hole (.L 64)] (.slot 2) true,.ptr 2 1 64,.segs [.hole (.L 64)] (.slot 4) true,.ptr 4 2 64,.segs [.J,.J,.J,.J,.J,.J,.J,.J,.J,.J] (.slot 6) true,.ptr 6 3 10,.row .u8 1 (.cell (.slot 7) 0) false,.segs [.sl 4 1 .whole,.J] (.slot 7) true,.ptr 7 5 2,.slot 8 .I,.slot 9 .I,.slot 10 .I,.row .i64 4 (.slot 11) true,.segs [.hole (.L 16)] (.slot 24) true,.ptr 24 7 16,.segs [.hole (.L 16)] (.slot 25) true,.ptr 25 8 16,.slot 26 .I],[.segs [.hole (.L 64)] (.slot 2) true,.ptr 2 1 64,.segs [.hole (.L 64)] (.slot 4) true,.ptr 4 2 64,.segs [.J,.J,.J,.J,.J,.J,.J,.J,.J,.J] (.slot 6) true,.ptr 6 3 10,.row .u8 1 (.cell (.slot 7) 0) false,.segs [.sl 4 1 .whole,.J] (.slot 7) true,.ptr 7 5 2,.slot 8 .I,.slot 9 .I,.slot 10 .I,.row .i64 4 (.slot 11) true,.segs [.hole (.L 16)] (.slot 24) true,.ptr 24 7 16,.segs [.hole (.L 16)] (.slot 25) true,.ptr 25 8 16],16,fun k=>u21 (q1v F k),fun k=>u21 (qb6 F (q1v F k))⟩
theorem zaz(F:Nat):(qqw F).ok pp Tryz.f59 F:=
 okL q00 (q0t F) [(18,(qge F).ann F)] (aL (by kernel_rfl) (qqv F) aN) (fun _=>rfl) (fun _ _=>rfl) fun k d=>by kernel_rfl
def qqx(F:Nat):TL:=⟨368,[.segs [.hole (.L 64)] (.slot 2) true,.ptr 2 1 64,.segs [.hole (.L 64)] (.slot 4) true,.ptr 4 2 64,.segs [.J,.J,.J,.J,.J,.J,.J,.J,.J,.J] (.slot 6) true,.ptr 6 3 10,.row .u8 1 (.cell (.slot 7) 0) false,.segs [.sl 4 1 .whole,.J] (.slot 7) true,.ptr 7 5 2,.slot 8 .I,.slot 9 .I,.slot 10 .I,.row .i64 4 (.slot 11) true,.segs [.hole (.L 16)] (.slot 24) true,.ptr 24 7 16,.segs [.hole (.L 16)] (.slot 25) true,.ptr 25 8 16,.slot 29 .I],[.segs [.hole (.L 64)] (.slot 2) true,.ptr 2 1 64,.segs [.hole (.L 64)] (.slot 4) true,.ptr 4 2 64,.segs [.J,.J,.J,.J,.J,.J,.J,.J,.J,.J] (.slot 6) true,.ptr 6 3 10,.slot 8 .I,.slot 9 .I,.slot 10 .I,.row .i64 4 (.slot 11) true,.segs [.hole (.L 16)] (.slot 24) true,.ptr 24 5 16,.segs [.hole (.L 16)] (.slot 25) true,.ptr 25 6 16],20,fun k=>u21 (q0w F k),fun k=>u21 (q7l F (q0w F k))⟩
theorem zb0(F:Nat):(qqx F).ok pp Tryz.f59 F:=
 okL q00 (q0t F) [] aN (fun _=>rfl) (fun _ _=>rfl) fun k d=>by kernel_rfl
def qgf(F:Nat):TL:=⟨368,[.segs [.hole (.L 64)] (.slot 2) true,.ptr 2 1 64,.segs [.hole (.L 64)] (.slot 4) true,.ptr 4 2 64,.segs [.J,.J,.J,.J,.J,.J,.J,.J,.J,.J] (.slot 6) true,.ptr 6 3 10,.slot 8 .I,.slot 9 .I,.slot 10 .I,.row .i64 4 (.slot 11) true,.segs [.hole (.L 16)] (.slot 24) true,.ptr 24 5 16,.segs [.hole (.L 16)] (.slot 25) true,.ptr 25 6 16,.slot 31 .I,.segs [.hole (.L 4)] (.slot 33) true,.ptr 33 7 4,.segs [.hole (.L 4)] (.slot 34) true,.ptr 34 8 4,.slot 35 .I,.slot 36 .I,.slot 37 .I,.slot 38 .I,.slot 39 .I],[.segs [.hole (.L 64)] (.slot 2) true,.ptr 2 1 64,.segs [.hole (.L 64)] (.slot 4) true,.ptr 4 2 64,.segs [.J,.J,.J,.J,.J,.J,.J,.J,.J,.J] (.slot 6) true,.ptr 6 3 10,.slot 8 .I,.slot 9 .I,.slot 10 .I,.row .i64 4 (.slot 11) true,.segs [.hole (.L 16)] (.slot 24) true,.ptr 24 5 16,.segs [.hole (.L 16)] (.slot 25) true,.ptr 25 6 16,.slot 31 .I,.segs [.hole (.L 4)] (.slot 33) true,.ptr 33 7 4,.segs [.hole (.L 4)] (.slot 34) true,.ptr 34 8 4,.slot 37 .I,.slot 38 .I],24,fun k=>u26 (q0x F k),fun k=>u26 (qb7 F (q0x F k))⟩
theorem qqy(F:Nat):(qgf F).ok pp Tryz.f59 F:=
 okL q00 (q0t F) [] aN (fun _=>rfl) (fun _ _=>rfl) fun k d=>by kernel_rfl
def qqz(F:Nat):TL:=⟨368,[.segs [.hole (.L 64)] (.slot 2) true,.ptr 2 1 64,.segs [.hole (.L 64)] (.slot 4) true,.ptr 4 2 64,.segs [.J,.J,.J,.J,.J,.J,.J,.J,.J,.J] (.slot 6) true,.ptr 6 3 10,.slot 8 .I,.slot 9 .I,.slot 10 .I,.row .i64 4 (.slot 11) true,.segs [.hole (.L 16)] (.slot 24) true,.ptr 24 5 16,.segs [.hole (.L 16)] (.slot 25) true,.ptr 25 6 16,.slot 31 .I],[.segs [.hole (.L 64)] (.slot 2) true,.ptr 2 1 64,.segs [.hole (.L 64)] (.slot 4) true,.ptr 4 2 64],22,fun k=>u19 (q1w F k),fun k=>u19 (qb8 F (q1w F k))⟩
theorem zb1(F:Nat):(qqz F).ok pp Tryz.f59 F:=
 okL q00 (q0t F) [(24,(qgf F).ann F)] (aL (by kernel_rfl) (qqy F) aN) (fun _=>rfl) (fun _ _=>rfl) fun k d=>by kernel_rfl
def qr0(F:Nat):ToldF:=⟨59,1,[.row .u8 1 (.slot 0) false],[.ty (.L 64),.ty .I],u1 (qhp F)⟩
theorem zk5(F:Nat):(qr0 F).ok pp:=
 okF q00 (q0t F) (fn:=Tryz.f59) [(2,(qiy F).ann F),(0,(qv8 F).ann F),(6,(qiz F).ann F),(4,(qva F).ann F),(10,(qgc F).ann F),(8,(qvb F).ann F),(14,(qgd F).ann F),(12,(qqu F).ann F),(18,(qge F).ann F),(16,(qqw F).ann F),(20,(qqx F).ann F),(24,(qgf F).ann F),(22,(qqz F).ann F)] (by kernel_rfl) (aL (by kernel_rfl) (qv7 F) (aL (by kernel_rfl) (zfb F) (aL (by kernel_rfl) (qv9 F) (aL (by kernel_rfl) (zfc F) (aL (by kernel_rfl) (qqs F) (aL (by kernel_rfl) (zfd F) (aL (by kernel_rfl) (qqt F) (aL (by kernel_rfl) (zay F) (aL (by kernel_rfl) (qqv F) (aL (by kernel_rfl) (zaz F) (aL (by kernel_rfl) (zb0 F) (aL (by kernel_rfl) (qqy F) (aL (by kernel_rfl) (zb1 F) aN))))))))))))) fun d=>by kernel_rfl
def zu9(F:Nat):List ToldF:=[qha F]
theorem zua(F:Nat):q02 pp (zu9 F):=⟨qyh F,trivial⟩
def q73(F:Nat):ToldF:=⟨103,3,[.row .u8 1 (.slot 0) false,.slot 1 .I,.slot 2 .I],[.ty .I],u3 (q23 F)⟩
theorem qdp(F:Nat):(q73 F).ok pp:=
 okF q00 (zua F) (fn:=Tryz.f103) [] (by kernel_rfl) aN fun d=>by kernel_rfl
def zk6(F:Nat):List ToldF:=[q73 F]
theorem qyz(F:Nat):q02 pp (zk6 F):=⟨qdp F,trivial⟩
def qz0(F:Nat):TL:=⟨30,[.row .u8 1 (.slot 0) false,.segs [.hole (.L 16)] (.slot 2) true,.ptr 2 2 16,.segs [.hole (.L 16)] (.slot 3) true,.ptr 3 3 16,.slot 4 .I],[.segs [.hole (.L 16)] (.slot 2) true,.ptr 2 1 16,.segs [.hole (.L 16)] (.slot 3) true,.ptr 3 2 16],0,fun k=>u4 (q54 F k),fun k=>u4 (q7j F (q54 F k))⟩
theorem zk7(F:Nat):(qz0 F).ok pp Tryz.f164 F:=
 okL q00 (qyz F) [] aN (fun _=>rfl) (fun _ _=>rfl) fun k d=>by kernel_rfl
def qvc(F:Nat):ToldF:=⟨164,1,[.row .u8 1 (.slot 0) false],[.ty (.L 16)],u1 (qs7 F)⟩
theorem zp8(F:Nat):(qvc F).ok pp:=
 okF q00 (qyz F) (fn:=Tryz.f164) [(0,(qz0 F).ann F)] (by kernel_rfl) (aL (by kernel_rfl) (zk7 F) aN) fun d=>by kernel_rfl
def zk8(F:Nat):List ToldF:=[q73 F,qvc F]
theorem qz1(F:Nat):q02 pp (zk8 F):=⟨qdp F,zp8 F,trivial⟩
def qz2(F:Nat):TL:=⟨78,[.row .u8 1 (.slot 0) false,.segs [.const (.bool (some false) false),.const (.bool (some false) false),.hole (.L 3),.hole (.L 3),.hole (.L 2),.hole (.L 16)] (.slot 2) true,.ptr 2 2 26,.segs [.hole (.bool),.hole (.bool),.hole (.L 3),.hole (.L 3),.hole (.L 2),.hole (.L 16)] (.slot 4) true,.ptr 4 3 26,.slot 5 .I],[.row .u8 1 (.slot 0) false,.segs [.const (.bool (some false) false),.const (.bool (some false) false),.hole (.L 3),.hole (.L 3),.hole (.L 2),.hole (.L 16)] (.slot 2) true,.ptr 2 2 26,.segs [.hole (.bool),.hole (.bool),.hole (.L 3),.hole (.L 3),.hole (.L 2),.hole (.L 16)] (.slot 4) true,.ptr 4 3 26],0,fun k=>u12 (q3k F k),fun k=>u12 (qdz F (q3k F k))⟩
theorem zk9(F:Nat):(qz2 F).ok pp Tryz.f99 F:=
 okL q00 (qz1 F) [] aN (fun _=>rfl) (fun _ _=>rfl) fun k d=>by kernel_rfl
def qcq(F:Nat):ToldF:=⟨99,1,[.row .u8 1 (.slot 0) false],[.ty (.agg [.bool,.bool,.L 3,.L 3,.L 2,.L 16]),.ty .I],u1 (q6u F)⟩
theorem qow(F:Nat):(qcq F).ok pp:=
 okF q00 (qz1 F) (fn:=Tryz.f99) [(0,(qz2 F).ann F)] (by kernel_rfl) (aL (by kernel_rfl) (zk9 F) aN) fun d=>by kernel_rfl
def qki(F:Nat):ToldF:=⟨153,3,[.slot 0 .I,.slot 1 .I,.slot 2 .I],[.ty (.bool)],u3 (q78 F)⟩
theorem z53(F:Nat):(qki F).ok pp:=
 okF q00 (qx1 F) (fn:=Tryz.f153) [] (by kernel_rfl) aN fun d=>by kernel_rfl
def qc0(F:Nat):ToldF:=⟨150,2,[.slot 0 .I,.slot 1 .I],[.ty .I],u2 (qhn F)⟩
theorem qo2(F:Nat):(qc0 F).ok pp:=
 okF q00 (qx1 F) (fn:=Tryz.f150) [] (by kernel_rfl) aN fun d=>by kernel_rfl
def zka(F:Nat):List ToldF:=[q4a F,qki F,qc0 F]
theorem qz3(F:Nat):q02 pp (zka F):=⟨q8s F,z53 F,qo2 F,trivial⟩
def qz4(F:Nat):TL:=⟨62,[.segs [.hole (.bool),.hole (.bool),.hole (.L 3),.hole (.L 3),.hole (.L 2),.hole (.L 16)] (.slot 1) true,.ptr 1 1 26,.segs [.hole (.L 8)] (.slot 2) true,.ptr 2 2 8,.segs [.hole (.L 8)] (.slot 4) true,.ptr 4 3 8,.slot 5 .I,.slot 6 .I],[.segs [.hole (.L 8)] (.slot 2) true,.ptr 2 1 8,.segs [.hole (.L 8)] (.slot 4) true,.ptr 4 2 8,.slot 5 .I],0,fun k=>u10 (q1a F k),fun k=>u10 (qe0 F (q1a F k))⟩
theorem zkb(F:Nat):(qz4 F).ok pp Tryz.f105 F:=
 okL q00 (qz3 F) [] aN (fun _=>rfl) (fun _ _=>rfl) fun k d=>by kernel_rfl
def qcr(F:Nat):ToldF:=⟨105,1,[.slot 0 (.agg [.bool,.bool,.L 3,.L 3,.L 2,.L 16])],[.ty (.L 8),.ty .I],u1 (qag F)⟩
theorem qox(F:Nat):(qcr F).ok pp:=
 okF q00 (qz3 F) (fn:=Tryz.f105) [(0,(qz4 F).ann F)] (by kernel_rfl) (aL (by kernel_rfl) (zkb F) aN) fun d=>by kernel_rfl
def zp9(F:Nat):List ToldF:=[qc0 F]
theorem zpa(F:Nat):q02 pp (zp9 F):=⟨qo2 F,trivial⟩
def qm9(F:Nat):ToldF:=⟨107,2,[.slot 0 (.bool),.slot 1 .I],[.ty .I],u2 (qpm F)⟩
theorem z7n(F:Nat):(qm9 F).ok pp:=
 okF q00 (zpa F) (fn:=Tryz.f107) [] (by kernel_rfl) aN fun d=>by kernel_rfl
def zkc(F:Nat):List ToldF:=[qc0 F]
theorem zkd(F:Nat):q02 pp (zkc F):=⟨qo2 F,trivial⟩
def qvd(F:Nat):ToldF:=⟨166,1,[.slot 0 .I],[.ty (.L 4)],u1 (qs8 F)⟩
theorem zpb(F:Nat):(qvd F).ok pp:=
 okF q00 (zkd F) (fn:=Tryz.f166) [] (by kernel_rfl) aN fun d=>by kernel_rfl
def q91(F:Nat):ToldF:=⟨84,2,[.slot 0 .I,.slot 1 .I],[.ty .I],u2 (q5k F)⟩
theorem qhb(F:Nat):(q91 F).ok pp:=
 okF q00 (qx1 F) (fn:=Tryz.f84) [] (by kernel_rfl) aN fun d=>by kernel_rfl
def zud(F:Nat):List ToldF:=[q91 F]
theorem z7o(F:Nat):q02 pp (zud F):=⟨qhb F,trivial⟩
def z7p(F:Nat):TL:=⟨19,[.slot 1 .I,.segs [.hole (.L 4)] (.slot 2) true,.ptr 2 1 4,.segs [.hole (.L 4)] (.slot 4) true,.ptr 4 2 4,.slot 5 .I],[.segs [.hole (.L 4)] (.slot 2) true,.ptr 2 1 4,.segs [.hole (.L 4)] (.slot 4) true,.ptr 4 2 4],0,fun k=>u4 (q6e F k),fun k=>u4 (qjy F (q6e F k))⟩
theorem zue(F:Nat):(z7p F).ok pp Tryz.f165 F:=
 okL q00 (z7o F) [] aN (fun _=>rfl) (fun _ _=>rfl) fun k d=>by kernel_rfl
def qoy(F:Nat):ToldF:=⟨165,2,[.slot 0 (.L 4),.slot 1 .I],[.ty (.L 4)],u2 (q1o F)⟩
theorem zcj(F:Nat):(qoy F).ok pp:=
 okF q00 (z7o F) (fn:=Tryz.f165) [(0,(z7p F).ann F)] (by kernel_rfl) (aL (by kernel_rfl) (zue F) aN) fun d=>by kernel_rfl
def zkg(F:Nat):List ToldF:=[qcr F,qm9 F,qvd F,qoy F]
theorem qz5(F:Nat):q02 pp (zkg F):=⟨qox F,z7n F,zpb F,zcj F,trivial⟩
def qz6(F:Nat):TL:=⟨39,[.segs [.hole (.bool),.hole (.bool),.hole (.L 3),.hole (.L 3),.hole (.L 2),.hole (.L 16)] (.slot 1) true,.ptr 1 1 26,.segs [.hole (.L 64)] (.slot 2) true,.ptr 2 2 64,.segs [.hole (.L 8)] (.slot 3) true,.ptr 3 3 8,.segs [.hole (.L 64)] (.slot 5) true,.ptr 5 4 64,.slot 6 .I],[.segs [.hole (.L 64)] (.slot 2) true,.ptr 2 1 64,.segs [.hole (.L 64)] (.slot 5) true,.ptr 5 2 64],0,fun k=>u10 (q55 F k),fun k=>u10 (q7k F (q55 F k))⟩
theorem zkh(F:Nat):(qz6 F).ok pp Tryz.f100 F:=
 okL q00 (qz5 F) [] aN (fun _=>rfl) (fun _ _=>rfl) fun k d=>by kernel_rfl
def qj0(F:Nat):ToldF:=⟨100,1,[.slot 0 (.agg [.bool,.bool,.L 3,.L 3,.L 2,.L 16])],[.ty (.L 64)],u1 (qcz F)⟩
theorem z3i(F:Nat):(qj0 F).ok pp:=
 okF q00 (qz5 F) (fn:=Tryz.f100) [(0,(qz6 F).ann F)] (by kernel_rfl) (aL (by kernel_rfl) (zkh F) aN) fun d=>by kernel_rfl
def zfe(F:Nat):List ToldF:=[qcq F,qj0 F]
theorem zff(F:Nat):q02 pp (zfe F):=⟨qow F,z3i F,trivial⟩
def qr1(F:Nat):ToldF:=⟨60,1,[.row .u8 1 (.slot 0) false],[.ty (.L 64),.ty .I],u1 (qho F)⟩
theorem zki(F:Nat):(qr1 F).ok pp:=
 okF q00 (zff F) (fn:=Tryz.f60) [] (by kernel_rfl) aN fun d=>by kernel_rfl
def zkj(F:Nat):List ToldF:=[q3u F,qcq F]
theorem zkk(F:Nat):q02 pp (zkj F):=⟨q86 F,qow F,trivial⟩
def qj1(F:Nat):ToldF:=⟨104,2,[.row .u8 1 (.slot 0) false,.slot 1 (.bool)],[.ty (.agg [.bool,.bool,.L 3,.L 3,.L 2,.L 16])],u2 (qft F)⟩
theorem z3j(F:Nat):(qj1 F).ok pp:=
 okF q00 (zkk F) (fn:=Tryz.f104) [] (by kernel_rfl) aN fun d=>by kernel_rfl
def zpc(F:Nat):List ToldF:=[qcr F,qj1 F]
theorem zpd(F:Nat):q02 pp (zpc F):=⟨qox F,z3j F,trivial⟩
def qz7(F:Nat):ToldF:=⟨101,2,[.row .u8 1 (.slot 0) false,.slot 1 (.bool)],[.ty .I],u2 (z0p F)⟩
theorem zuf(F:Nat):(qz7 F).ok pp:=
 okF q00 (zpd F) (fn:=Tryz.f101) [] (by kernel_rfl) aN fun d=>by kernel_rfl
def zug(F:Nat):List ToldF:=[q73 F]
theorem zuh(F:Nat):q02 pp (zug F):=⟨qdp F,trivial⟩
def qhc(F:Nat):ToldF:=⟨156,3,[.row .u8 1 (.slot 0) false,.slot 1 .I,.slot 2 .I],[.ty .I],u3 (q2f F)⟩
theorem qz8(F:Nat):(qhc F).ok pp:=
 okF q00 (zuh F) (fn:=Tryz.f156) [] (by kernel_rfl) aN fun d=>by kernel_rfl
def zpe(F:Nat):List ToldF:=[q73 F]
theorem z3k(F:Nat):q02 pp (zpe F):=⟨qdp F,trivial⟩
def z3l(F:Nat):TL:=⟨23,[.row .u8 1 (.slot 0) false,.row .i64 1 (.slot 1) false,.slot 5 .I,.slot 6 .I],[.slot 5 .I],0,fun k=>u4 (q8e F k),fun k=>u4 (qgz F (q8e F k))⟩
theorem zpf(F:Nat):(z3l F).ok pp Tryz.f167 F:=
 okL q00 (z3k F) [] aN (fun _=>rfl) (fun _ _=>rfl) fun k d=>by kernel_rfl
def qma(F:Nat):ToldF:=⟨167,2,[.row .u8 1 (.slot 0) false,.row .i64 1 (.slot 1) false],[.ty .I],u2 (q2r F)⟩
theorem z7q(F:Nat):(qma F).ok pp:=
 okF q00 (z3k F) (fn:=Tryz.f167) [(0,(z3l F).ann F)] (by kernel_rfl) (aL (by kernel_rfl) (zpf F) aN) fun d=>by kernel_rfl
def zpg(F:Nat):List ToldF:=[q4a F]
theorem zph(F:Nat):q02 pp (zpg F):=⟨q8s F,trivial⟩
def qz9(F:Nat):ToldF:=⟨169,1,[.slot 0 (.L 3)],[.ty (.L 4)],u1 (qfu F)⟩
theorem zui(F:Nat):(qz9 F).ok pp:=
 okF q00 (zph F) (fn:=Tryz.f169) [] (by kernel_rfl) aN fun d=>by kernel_rfl
def zkl(F:Nat):List ToldF:=[qbz F,q91 F]
theorem qmb(F:Nat):q02 pp (zkl F):=⟨qny F,qhb F,trivial⟩
def qmc(F:Nat):TL:=⟨58,[.segs [.hole (.L 4)] (.slot 3) true,.ptr 3 1 4,.segs [.hole (.L 4)] (.slot 4) true,.ptr 4 2 4,.segs [.hole (.L 4)] (.slot 5) true,.ptr 5 3 4,.segs [.hole (.L 64)] (.slot 6) true,.ptr 6 4 64,.segs [.hole (.L 64)] (.slot 7) true,.ptr 7 5 64,.slot 8 .I,.slot 9 .I],[.segs [.hole (.L 4)] (.slot 3) true,.ptr 3 1 4,.segs [.hole (.L 4)] (.slot 4) true,.ptr 4 2 4,.segs [.hole (.L 4)] (.slot 5) true,.ptr 5 3 4,.segs [.hole (.L 64)] (.slot 6) true,.ptr 6 4 64,.segs [.hole (.L 64)] (.slot 7) true,.ptr 7 5 64,.slot 8 .I],2,fun k=>u7 (q6w F k),fun k=>u7 (qe3 F (q6w F k))⟩
theorem qza(F:Nat):(qmc F).ok pp Tryz.f168 F:=
 okL q00 (qmb F) [] aN (fun _=>rfl) (fun _ _=>rfl) fun k d=>by kernel_rfl
def qzb(F:Nat):TL:=⟨58,[.segs [.hole (.L 4)] (.slot 3) true,.ptr 3 1 4,.segs [.hole (.L 4)] (.slot 4) true,.ptr 4 2 4,.segs [.hole (.L 4)] (.slot 5) true,.ptr 5 3 4,.segs [.hole (.L 64)] (.slot 6) true,.ptr 6 4 64,.segs [.hole (.L 64)] (.slot 7) true,.ptr 7 5 64,.slot 8 .I],[.segs [.hole (.L 64)] (.slot 6) true,.ptr 6 1 64,.segs [.hole (.L 64)] (.slot 7) true,.ptr 7 2 64],0,fun k=>u6 (q6x F k),fun k=>u6 (qe4 F (q6x F k))⟩
theorem zkm(F:Nat):(qzb F).ok pp Tryz.f168 F:=
 okL q00 (qmb F) [(2,(qmc F).ann F)] (aL (by kernel_rfl) (qza F) aN) (fun _=>rfl) (fun _ _=>rfl) fun k d=>by kernel_rfl
def qve(F:Nat):ToldF:=⟨168,3,[.slot 0 (.L 4),.slot 1 (.L 4),.slot 2 (.L 4)],[.ty (.L 64)],u3 (qsb F)⟩
theorem zpi(F:Nat):(qve F).ok pp:=
 okF q00 (qmb F) (fn:=Tryz.f168) [(2,(qmc F).ann F),(0,(qzb F).ann F)] (by kernel_rfl) (aL (by kernel_rfl) (qza F) (aL (by kernel_rfl) (zkm F) aN)) fun d=>by kernel_rfl
def zfg(F:Nat):List ToldF:=[qhc F,qma F,qz9 F,qve F]
theorem zfh(F:Nat):q02 pp (zfg F):=⟨qz8 F,z7q F,zui F,zpi F,trivial⟩
def qr2(F:Nat):ToldF:=⟨102,1,[.row .u8 1 (.slot 0) false],[.ty (.L 64)],u1 (qnc F)⟩
theorem zkn(F:Nat):(qr2 F).ok pp:=
 okF q00 (zfh F) (fn:=Tryz.f102) [] (by kernel_rfl) aN fun d=>by kernel_rfl
def zfi(F:Nat):List ToldF:=[q4a F]
theorem zfj(F:Nat):q02 pp (zfi F):=⟨q8s F,trivial⟩
def qr3(F:Nat):ToldF:=⟨170,1,[.slot 0 (.L 3)],[.ty (.L 4)],u1 (q2g F)⟩
theorem zko(F:Nat):(qr3 F).ok pp:=
 okF q00 (zfj F) (fn:=Tryz.f170) [] (by kernel_rfl) aN fun d=>by kernel_rfl
def qmd(F:Nat):ToldF:=⟨171,1,[.slot 0 .I],[.ty .I],u1 (q9d F)⟩
theorem zb2(F:Nat):(qmd F).ok pp:=
 okF q00 (qx1 F) (fn:=Tryz.f171) [] (by kernel_rfl) aN fun d=>by kernel_rfl
def qr4(F:Nat):ToldF:=⟨172,1,[.slot 0 (.L 3)],[.ty .I],u1 (qhr F)⟩
theorem zkp(F:Nat):(qr4 F).ok pp:=
 okF q00 (qx1 F) (fn:=Tryz.f172) [] (by kernel_rfl) aN fun d=>by kernel_rfl
def zpj(F:Nat):List ToldF:=[qoy F,qhc F,qma F,qr3 F,qmd F,qr4 F]
theorem zpk(F:Nat):q02 pp (zpj F):=⟨zcj F,qz8 F,z7q F,zko F,zb2 F,zkp F,trivial⟩
def qzc(F:Nat):ToldF:=⟨106,2,[.row .u8 1 (.slot 0) false,.slot 1 .I],[.ty (.L 16)],u2 (qfv F)⟩
theorem zuj(F:Nat):(qzc F).ok pp:=
 okF q00 (zpk F) (fn:=Tryz.f106) [] (by kernel_rfl) aN fun d=>by kernel_rfl
def zfm(F:Nat):List ToldF:=[q73 F,qcr F,qm9 F,qj0 F,qj1 F,qz7 F,qr2 F,qzc F]
theorem qvf(F:Nat):q02 pp (zfm F):=⟨qdp F,qox F,z7n F,z3i F,z3j F,zuf F,zkn F,zuj F,trivial⟩
def qvg(F:Nat):TL:=⟨91,[.row .u8 1 (.slot 0) false,.segs [.hole (.L 64)] (.slot 4) true,.ptr 4 2 64,.slot 6 .I,.slot 7 (.bool),.segs [.hole (.bool),.hole (.bool),.hole (.L 3),.hole (.L 3),.hole (.L 2),.hole (.L 16)] (.slot 8) true,.ptr 8 3 26,.segs [.hole (.L 64)] (.slot 9) true,.ptr 9 4 64,.segs [.hole (.L 8)] (.slot 10) true,.ptr 10 5 8,.slot 12 .I],[.segs [.hole (.L 64)] (.slot 4) true,.ptr 4 1 64,.segs [.hole (.L 64)] (.slot 9) true,.ptr 9 2 64],0,fun k=>u13 (q0m F k),fun k=>u13 (q30 F (q0m F k))⟩
theorem zfn(F:Nat):(qvg F).ok pp Tryz.f61 F:=
 okL q00 (qvf F) [] aN (fun _=>rfl) (fun _ _=>rfl) fun k d=>by kernel_rfl
def qr5(F:Nat):ToldF:=⟨61,2,[.row .u8 1 (.slot 0) false,.slot 1 (.bool)],[.ty (.L 64),.ty .I],u2 (q6j F)⟩
theorem zkq(F:Nat):(qr5 F).ok pp:=
 okF q00 (qvf F) (fn:=Tryz.f61) [(0,(qvg F).ann F)] (by kernel_rfl) (aL (by kernel_rfl) (zfn F) aN) fun d=>by kernel_rfl
def zkr(F:Nat):List ToldF:=[q73 F]
theorem qzd(F:Nat):q02 pp (zkr F):=⟨qdp F,trivial⟩
def qze(F:Nat):TL:=⟨37,[.row .u8 1 (.slot 0) false,.segs [.hole (.L 16)] (.slot 5) true,.ptr 5 2 16,.segs [.hole (.L 16)] (.slot 7) true,.ptr 7 3 16,.slot 8 .I],[.row .u8 1 (.slot 0) false,.segs [.hole (.L 16)] (.slot 5) true,.ptr 5 2 16,.segs [.hole (.L 16)] (.slot 7) true,.ptr 7 3 16],0,fun k=>u4 (q70 F k),fun k=>u4 (qef F (q70 F k))⟩
theorem zks(F:Nat):(qze F).ok pp Tryz.f108 F:=
 okL q00 (qzd F) [] aN (fun _=>rfl) (fun _ _=>rfl) fun k d=>by kernel_rfl
def qvh(F:Nat):ToldF:=⟨108,1,[.row .u8 1 (.slot 0) false],[.ty .I,.ty .I,.ty .I,.ty (.L 16),.ty .I],u1 (qsh F)⟩
theorem zpl(F:Nat):(qvh F).ok pp:=
 okF q00 (qzd F) (fn:=Tryz.f108) [(0,(qze F).ann F)] (by kernel_rfl) (aL (by kernel_rfl) (zks F) aN) fun d=>by kernel_rfl
def qvi(F:Nat):ToldF:=⟨110,1,[.slot 0 .I],[.ty (.L 8)],u1 (qsi F)⟩
theorem zpm(F:Nat):(qvi F).ok pp:=
 okF q00 (qx1 F) (fn:=Tryz.f110) [] (by kernel_rfl) aN fun d=>by kernel_rfl
def zkv(F:Nat):List ToldF:=[q91 F]
theorem zkw(F:Nat):q02 pp (zkv F):=⟨qhb F,trivial⟩
def qvj(F:Nat):ToldF:=⟨109,4,[.slot 0 .I,.slot 1 .I,.slot 2 .I,.slot 3 (.bool)],[.ty .I],u4 (qsj F)⟩
theorem zpn(F:Nat):(qvj F).ok pp:=
 okF q00 (zkw F) (fn:=Tryz.f109) [] (by kernel_rfl) aN fun d=>by kernel_rfl
def zfo(F:Nat):List ToldF:=[qvh F,qvi F,qvj F]
theorem qvk(F:Nat):q02 pp (zfo F):=⟨zpl F,zpm F,zpn F,trivial⟩
def qvl(F:Nat):TL:=⟨41,[.slot 1 (.bool),.segs [.hole (.L 16)] (.slot 4) true,.ptr 4 1 16,.slot 6 .I,.slot 7 .I,.slot 8 .I,.segs [.hole (.L 16)] (.slot 9) true,.ptr 9 2 16,.slot 11 .I],[.segs [.hole (.L 16)] (.slot 4) true,.ptr 4 1 16,.segs [.hole (.L 16)] (.slot 9) true,.ptr 9 2 16],0,fun k=>u7 (q5t F k),fun k=>u7 (qcp F (q5t F k))⟩
theorem zfp(F:Nat):(qvl F).ok pp Tryz.f62 F:=
 okL q00 (qvk F) [] aN (fun _=>rfl) (fun _ _=>rfl) fun k d=>by kernel_rfl
def qr6(F:Nat):ToldF:=⟨62,2,[.row .u8 1 (.slot 0) false,.slot 1 (.bool)],[.ty (.L 16),.ty .I],u2 (q6p F)⟩
theorem zkx(F:Nat):(qr6 F).ok pp:=
 okF q00 (qvk F) (fn:=Tryz.f62) [(0,(qvl F).ann F)] (by kernel_rfl) (aL (by kernel_rfl) (zfp F) aN) fun d=>by kernel_rfl
def zfq(F:Nat):List ToldF:=[qf0 F,qqo F,qqq F,qv3 F,qyu F,qv4 F,qr0 F,qr1 F,qr5 F,qr6 F]
theorem zfr(F:Nat):q02 pp (zfq F):=⟨qt4 F,zjr F,zjv F,zoy F,zu2 F,zp1 F,zk5 F,zki F,zkq F,zkx F,trivial⟩
def qgg(F:Nat):ToldF:=⟨24,2,[.slot 0 .I,.row .u8 1 (.slot 1) false],[.ty (.L 64),.ty .I],u2 (qde F)⟩
theorem qzf(F:Nat):(qgg F).ok pp:=
 okF q00 (zfr F) (fn:=Tryz.f24) [] (by kernel_rfl) aN fun d=>by kernel_rfl
def zky(F:Nat):List ToldF:=[qix F,qh9 F,qos F]
theorem qme(F:Nat):q02 pp (zky F):=⟨z2p F,qyf F,zcg F,trivial⟩
def qmf(F:Nat):TL:=⟨40,[.slot 2 .I,.segs [.hole (.L 64)] (.slot 3) true,.ptr 3 1 64,.segs [.hole (.L 64)] (.slot 4) true,.ptr 4 2 64,.slot 7 .I,.slot 8 .I,.slot 9 .I],[.slot 2 .I,.segs [.hole (.L 64)] (.slot 3) true,.ptr 3 1 64,.segs [.hole (.L 64)] (.slot 4) true,.ptr 4 2 64,.slot 7 .I,.slot 8 .I],2,fun k=>u6 (q9t F k),fun k=>u6 (qeg F (q9t F k))⟩
theorem qzg(F:Nat):(qmf F).ok pp Tryz.f63 F:=
 okL q00 (qme F) [] aN (fun _=>rfl) (fun _ _=>rfl) fun k d=>by kernel_rfl
def qzh(F:Nat):TL:=⟨40,[.slot 2 .I,.segs [.hole (.L 64)] (.slot 3) true,.ptr 3 1 64,.segs [.hole (.L 64)] (.slot 4) true,.ptr 4 2 64,.slot 7 .I,.slot 8 .I],[.slot 7 .I],0,fun k=>u5 (q9u F k),fun k=>u5 (qeh F (q9u F k))⟩
theorem zkz(F:Nat):(qzh F).ok pp Tryz.f63 F:=
 okL q00 (qme F) [(2,(qmf F).ann F)] (aL (by kernel_rfl) (qzg F) aN) (fun _=>rfl) (fun _ _=>rfl) fun k d=>by kernel_rfl
def qvm(F:Nat):ToldF:=⟨63,3,[.slot 0 (.L 64),.slot 1 (.L 64),.slot 2 .I],[.ty .I],u3 (z4j F)⟩
theorem zpo(F:Nat):(qvm F).ok pp:=
 okF q00 (qme F) (fn:=Tryz.f63) [(2,(qmf F).ann F),(0,(qzh F).ann F)] (by kernel_rfl) (aL (by kernel_rfl) (qzg F) (aL (by kernel_rfl) (zkz F) aN)) fun d=>by kernel_rfl
def zl0(F:Nat):List ToldF:=[qf0 F,qiw F,qgg F,qvm F]
theorem zl1(F:Nat):q02 pp (zl0 F):=⟨qt4 F,z2o F,qzf F,zpo F,trivial⟩
def qcs(F:Nat):ToldF:=⟨26,3,[.slot 0 .I,.row .u8 1 (.slot 1) false,.slot 2 (.L 64)],[.ty .I,.ty .I],u3 (qd1 F)⟩
theorem qoz(F:Nat):(qcs F).ok pp:=
 okF q00 (zl1 F) (fn:=Tryz.f26) [] (by kernel_rfl) aN fun d=>by kernel_rfl
def zl2(F:Nat):List ToldF:=[q4b F,q4c F,qav F,z36 F,qcs F]
theorem qmg(F:Nat):q02 pp (zl2 F):=⟨q8t F,q8u F,qkh F,zym F,qoz F,trivial⟩
def qmh(F:Nat):TL:=⟨56,[.segs [.hole (.L 64)] (.slot 1) true,.ptr 1 1 64,.row .u8 1 (.slot 3) true,.slot 4 .I,.slot 5 .I,.segs [.hole (.L 4)] (.slot 6) true,.ptr 6 3 4,.slot 7 .I],[.segs [.hole (.L 64)] (.slot 1) true,.ptr 1 1 64,.row .u8 1 (.slot 3) true,.slot 4 .I,.slot 5 .I,.segs [.hole (.L 4)] (.slot 6) true,.ptr 6 3 4],2,fun k=>u6 (q71 F k),fun k=>u6 (qei F (q71 F k))⟩
theorem qzi(F:Nat):(qmh F).ok pp Tryz.f48 F:=
 okL q00 (qmg F) [] aN (fun _=>rfl) (fun _ _=>rfl) fun k d=>by kernel_rfl
def qzj(F:Nat):TL:=⟨56,[.segs [.hole (.L 64)] (.slot 1) true,.ptr 1 1 64,.row .u8 1 (.slot 3) true,.slot 4 .I,.slot 5 .I],[.row .u8 1 (.slot 3) true],0,fun k=>u4 (q3t F k),fun k=>u4 (q7r F (q3t F k))⟩
theorem zl3(F:Nat):(qzj F).ok pp Tryz.f48 F:=
 okL q00 (qmg F) [(2,(qmh F).ann F)] (aL (by kernel_rfl) (qzi F) aN) (fun _=>rfl) (fun _ _=>rfl) fun k d=>by kernel_rfl
def qvn(F:Nat):ToldF:=⟨48,1,[.slot 0 (.L 64)],[.row .u8 1],u1 (qsk F)⟩
theorem zpp(F:Nat):(qvn F).ok pp:=
 okF q00 (qmg F) (fn:=Tryz.f48) [(2,(qmh F).ann F),(0,(qzj F).ann F)] (by kernel_rfl) (aL (by kernel_rfl) (qzi F) (aL (by kernel_rfl) (zl3 F) aN)) fun d=>by kernel_rfl
def zuk(F:Nat):List ToldF:=[qki F]
theorem qt6(F:Nat):q02 pp (zuk F):=⟨z53 F,trivial⟩
def z7t(F:Nat):TX:=⟨68,[.segs [.hole (.bool),.hole (.bool),.hole (.L 3),.hole (.L 3),.hole (.L 2),.hole (.L 16)] (.slot 1) true,.ptr 1 1 26,.slot 3 .I],[.const 2 (.bool (some false) false)],[.segs [.hole (.bool),.hole (.bool),.hole (.L 3),.hole (.L 3),.hole (.L 2),.hole (.L 16)] (.slot 1) true,.ptr 1 1 26],.ret,0,fun k=>u7 (q42 F k),fun k=>u7 (qjz F (q42 F k))⟩
theorem zul(F:Nat):(z7t F).ok pp Tryz.f148 F:=
 okX q00 (qt6 F) [] aN (fun _=>rfl) (fun _ _=>rfl) (eR rfl) fun k d=>by kernel_rfl
def z7u(F:Nat):TX:=⟨68,[.segs [.hole (.bool),.hole (.bool),.hole (.L 3),.hole (.L 3),.hole (.L 2),.hole (.L 16)] (.slot 1) true,.ptr 1 1 26,.slot 4 .I],[.const 2 (.bool (some false) false)],[.segs [.hole (.bool),.hole (.bool),.hole (.L 3),.hole (.L 3),.hole (.L 2),.hole (.L 16)] (.slot 1) true,.ptr 1 1 26],.ret,2,fun k=>u7 (q7z F k),fun k=>u7 (qk0 F (q7z F k))⟩
theorem zum(F:Nat):(z7u F).ok pp Tryz.f148 F:=
 okX q00 (qt6 F) [] aN (fun _=>rfl) (fun _ _=>rfl) (eR rfl) fun k d=>by kernel_rfl
def z3m(F:Nat):ToldF:=⟨148,1,[.slot 0 (.agg [.bool,.bool,.L 3,.L 3,.L 2,.L 16])],[.ty (.bool)],u1 (z67 F)⟩
theorem zys(F:Nat):(z3m F).ok pp:=
 okF q00 (qt6 F) (fn:=Tryz.f148) [(0,(z7t F).ann F),(2,(z7u F).ann F)] (by kernel_rfl) (aX (by kernel_rfl) (zul F) (aX (by kernel_rfl) (zum F) aN)) fun d=>by kernel_rfl
def zun(F:Nat):List ToldF:=[q3u F]
theorem zuo(F:Nat):q02 pp (zun F):=⟨q86 F,trivial⟩
def qp0(F:Nat):ToldF:=⟨149,4,[.row .u8 1 (.slot 0) false,.slot 1 .I,.slot 2 .I,.slot 3 .I],[.row .u8 1],u4 (q6f F)⟩
theorem zck(F:Nat):(qp0 F).ok pp:=
 okF q00 (zuo F) (fn:=Tryz.f149) [] (by kernel_rfl) aN fun d=>by kernel_rfl
def z3n(F:Nat):ToldF:=⟨151,1,[.slot 0 (.bool)],[.ty .I],u1 (z68 F)⟩
theorem zyt(F:Nat):(z3n F).ok pp:=
 okF q00 (qx1 F) (fn:=Tryz.f151) [] (by kernel_rfl) aN fun d=>by kernel_rfl
def zur(F:Nat):List ToldF:=[qp0 F]
theorem z7v(F:Nat):q02 pp (zur F):=⟨zck F,trivial⟩
def z7w(F:Nat):TL:=⟨34,[.row .u8 1 (.slot 0) false,.segs [.hole (.L 16)] (.slot 3) true,.ptr 3 2 16,.slot 5 .I],[.row .u8 1 (.slot 0) false],0,fun k=>u3 (qah F k),fun k=>u3 (qk1 F (qah F k))⟩
theorem zus(F:Nat):(z7w F).ok pp Tryz.f152 F:=
 okL q00 (z7v F) [] aN (fun _=>rfl) (fun _ _=>rfl) fun k d=>by kernel_rfl
def z3o(F:Nat):ToldF:=⟨152,2,[.row .u8 1 (.slot 0) false,.slot 1 (.L 16)],[.row .u8 1 false],u2 (z69 F)⟩
theorem zyu(F:Nat):(z3o F).ok pp:=
 okF q00 (z7v F) (fn:=Tryz.f152) [(0,(z7w F).ann F)] (by kernel_rfl) (aL (by kernel_rfl) (zus F) aN) fun d=>by kernel_rfl
def zpq(F:Nat):List ToldF:=[qc0 F,z3m F,qp0 F,z3n F,z3o F]
theorem z3p(F:Nat):q02 pp (zpq F):=⟨qo2 F,zys F,zck F,zyt F,zyu F,trivial⟩
def z3q(F:Nat):TL:=⟨75,[.segs [.hole (.bool),.hole (.bool),.hole (.L 3),.hole (.L 3),.hole (.L 2),.hole (.L 16)] (.slot 1) true,.ptr 1 1 26,.row .u8 1 (.slot 4) true,.slot 5 .I],[.segs [.hole (.bool),.hole (.bool),.hole (.L 3),.hole (.L 3),.hole (.L 2),.hole (.L 16)] (.slot 1) true,.ptr 1 1 26,.row .u8 1 (.slot 4) true],0,fun k=>u8 (q3l F k),fun k=>u8 (qgv F (q3l F k))⟩
theorem zpr(F:Nat):(z3q F).ok pp Tryz.f85 F:=
 okL q00 (z3p F) [] aN (fun _=>rfl) (fun _ _=>rfl) fun k d=>by kernel_rfl
def qzk(F:Nat):ToldF:=⟨85,1,[.slot 0 (.agg [.bool,.bool,.L 3,.L 3,.L 2,.L 16])],[.row .u8 1 false,.ty .I],u1 (qpn F)⟩
theorem zut(F:Nat):(qzk F).ok pp:=
 okF q00 (z3p F) (fn:=Tryz.f85) [(0,(z3q F).ann F)] (by kernel_rfl) (aL (by kernel_rfl) (zpr F) aN) fun d=>by kernel_rfl
def zl4(F:Nat):List ToldF:=[qau F,q4b F,q4c F,q91 F,qzk F]
theorem qmi(F:Nat):q02 pp (zl4 F):=⟨qkg F,q8t F,q8u F,qhb F,zut F,trivial⟩
def qzl(F:Nat):TL:=⟨44,[.segs [.hole (.L 64)] (.slot 1) true,.ptr 1 1 64,.row .i64 1 (.slot 3) true,.slot 4 .I],[.segs [.hole (.L 64)] (.slot 1) true,.ptr 1 1 64,.row .i64 1 (.slot 3) true],0,fun k=>u3 (q5a F k),fun k=>u3 (q7s F (q5a F k))⟩
theorem zl5(F:Nat):(qzl F).ok pp Tryz.f49 F:=
 okL q00 (qmi F) [] aN (fun _=>rfl) (fun _ _=>rfl) fun k d=>by kernel_rfl
def qzm(F:Nat):TL:=⟨44,[.segs [.hole (.L 64)] (.slot 1) true,.ptr 1 1 64,.row .i64 1 (.slot 3) true,.segs [.const (.bool (some true) true),.const (.bool (some false) false),.hole (.L 3),.hole (.L 3),.hole (.L 2),.hole (.L 16)] (.slot 5) true,.ptr 5 3 26,.slot 6 .I],[.segs [.const (.bool (some true) true),.const (.bool (some false) false),.hole (.L 3),.hole (.L 3),.hole (.L 2),.hole (.L 16)] (.slot 5) true,.ptr 5 1 26],2,fun k=>u7 (q72 F k),fun k=>u7 (qej F (q72 F k))⟩
theorem zl6(F:Nat):(qzm F).ok pp Tryz.f49 F:=
 okL q00 (qmi F) [] aN (fun _=>rfl) (fun _ _=>rfl) fun k d=>by kernel_rfl
def qvo(F:Nat):ToldF:=⟨49,1,[.slot 0 (.L 64)],[.row .u8 1 false],u1 (qsl F)⟩
theorem zps(F:Nat):(qvo F).ok pp:=
 okF q00 (qmi F) (fn:=Tryz.f49) [(0,(qzl F).ann F),(2,(qzm F).ann F)] (by kernel_rfl) (aL (by kernel_rfl) (zl5 F) (aL (by kernel_rfl) (zl6 F) aN)) fun d=>by kernel_rfl
def z3s(F:Nat):TL:=⟨18,[.slot 1 .I,.row .i64 1 (.slot 5) true,.slot 6 .I],[.row .i64 1 (.slot 5) true],0,fun k=>u3 (qk6 F k),fun k=>u3 (z1y F (qk6 F k))⟩
theorem zpu(F:Nat):(z3s F).ok pp Tryz.f155 F:=
 okL q00 (qx1 F) [] aN (fun _=>rfl) (fun _ _=>rfl) fun k d=>by kernel_rfl
def qzn(F:Nat):ToldF:=⟨155,2,[.slot 0 .I,.slot 1 .I],[.row .i64 1],u2 (q5f F)⟩
theorem zuu(F:Nat):(qzn F).ok pp:=
 okF q00 (qx1 F) (fn:=Tryz.f155) [(0,(z3s F).ann F)] (by kernel_rfl) (aL (by kernel_rfl) (zpu F) aN) fun d=>by kernel_rfl
def zuv(F:Nat):List ToldF:=[q3u F]
theorem z7x(F:Nat):q02 pp (zuv F):=⟨q86 F,trivial⟩
def z7y(F:Nat):TL:=⟨30,[.row .u8 1 (.slot 0) false,.row .i64 1 (.slot 1) false,.slot 2 .I,.slot 7 .I],[.row .u8 1 (.slot 0) false],0,fun k=>u4 (q84 F k),fun k=>u4 (qk7 F (q84 F k))⟩
theorem zuw(F:Nat):(z7y F).ok pp Tryz.f154 F:=
 okL q00 (z7x F) [] aN (fun _=>rfl) (fun _ _=>rfl) fun k d=>by kernel_rfl
def z3t(F:Nat):ToldF:=⟨154,3,[.row .u8 1 (.slot 0) false,.row .i64 1 (.slot 1) false,.slot 2 .I],[.row .u8 1 false],u3 (q46 F)⟩
theorem zyv(F:Nat):(z3t F).ok pp:=
 okF q00 (z7x F) (fn:=Tryz.f154) [(0,(z7y F).ann F)] (by kernel_rfl) (aL (by kernel_rfl) (zuw F) aN) fun d=>by kernel_rfl
def zux(F:Nat):List ToldF:=[qcq F,qki F,qhc F,qzn F,z3t F]
theorem qt7(F:Nat):q02 pp (zux F):=⟨qow F,z53 F,qz8 F,zuu F,zyv F,trivial⟩
def z7z(F:Nat):TX:=⟨139,[.segs [.hole (.L 3)] (.slot 3) true,.ptr 3 1 3,.segs [.hole (.L 3)] (.slot 4) true,.ptr 4 2 3,.segs [.hole (.L 3)] (.slot 5) true,.ptr 5 3 3,.row .i64 3 (.slot 8) true,.slot 9 .I],[.const 6 .nils,.const 7 (.int .i64 (some 1) 1)],[.segs [.hole (.L 3)] (.slot 3) true,.ptr 3 1 3,.segs [.hole (.L 3)] (.slot 4) true,.ptr 4 2 3,.segs [.hole (.L 3)] (.slot 5) true,.ptr 5 3 3],.ret,0,fun k=>u5 (q58 F k),fun k=>u5 (qk8 F (q58 F k))⟩
theorem zuy(F:Nat):(z7z F).ok pp Tryz.f86 F:=
 okX q00 (qt7 F) [] aN (fun _=>rfl) (fun _ _=>rfl) (eR rfl) fun k d=>by kernel_rfl
def z80(F:Nat):TL:=⟨139,[.row .u8 1 (.slot 10) false,.slot 11 .I],[.row .u8 1 (.slot 10) false],2,fun k=>u2 (q6k F k),fun k=>u2 (qk9 F (q6k F k))⟩
theorem zuz(F:Nat):(z80 F).ok pp Tryz.f86 F:=
 okL q00 (qt7 F) [] aN (fun _=>rfl) (fun _ _=>rfl) fun k d=>by kernel_rfl
def z3u(F:Nat):ToldF:=⟨86,3,[.slot 0 (.L 3),.slot 1 (.L 3),.slot 2 (.L 3)],[.row .u8 1 false,.ty .I],u3 (qwt F)⟩
theorem zyw(F:Nat):(z3u F).ok pp:=
 okF q00 (qt7 F) (fn:=Tryz.f86) [(0,(z7z F).ann F),(2,(z80 F).ann F)] (by kernel_rfl) (aX (by kernel_rfl) (zuy F) (aL (by kernel_rfl) (zuz F) aN)) fun d=>by kernel_rfl
def zfs(F:Nat):List ToldF:=[qau F,q4b F,q4c F,z3u F]
theorem zft(F:Nat):q02 pp (zfs F):=⟨qkg F,q8t F,q8u F,zyw F,trivial⟩
def qr7(F:Nat):ToldF:=⟨50,1,[.slot 0 (.L 64)],[.row .u8 1 false],u1 (qdf F)⟩
theorem zl7(F:Nat):(qr7 F).ok pp:=
 okF q00 (zft F) (fn:=Tryz.f50) [] (by kernel_rfl) aN fun d=>by kernel_rfl
def z81(F:Nat):ToldF:=⟨87,2,[.slot 0 .I,.slot 1 .I],[.ty (.bool)],u2 (qbh F)⟩
theorem j1x(F:Nat):(z81 F).ok pp:=
 okF q00 (qx1 F) (fn:=Tryz.f87) [] (by kernel_rfl) aN fun d=>by kernel_rfl
def zpv(F:Nat):List ToldF:=[q3u F,z81 F]
theorem z3v(F:Nat):q02 pp (zpv F):=⟨q86 F,j1x F,trivial⟩
def z3w(F:Nat):TX:=⟨60,[.segs [.hole (.L 16)] (.slot 7) true,.ptr 7 1 16,.row .u8 1 (.slot 10) true,.slot 11 .I],[.const 8 .nils,.const 9 (.int .i64 (some 1) 1)],[.row .u8 1 (.slot 10) true],.ret,0,fun k=>u3 (qbi F k),fun k=>u3 (qh4 F (qbi F k))⟩
theorem zpw(F:Nat):(z3w F).ok pp Tryz.f51 F:=
 okX q00 (z3v F) [] aN (fun _=>rfl) (fun _ _=>rfl) (eR rfl) fun k d=>by kernel_rfl
def qmj(F:Nat):ToldF:=⟨51,4,[.slot 0 .I,.slot 1 .I,.slot 2 .I,.slot 3 (.L 16)],[.row .u8 1,.ty .I],u4 (qps F)⟩
theorem z82(F:Nat):(qmj F).ok pp:=
 okF q00 (z3v F) (fn:=Tryz.f51) [(0,(z3w F).ann F)] (by kernel_rfl) (aX (by kernel_rfl) (zpw F) aN) fun d=>by kernel_rfl
def zl8(F:Nat):List ToldF:=[q4b F,q4c F,qou F,qav F,qmj F]
theorem zl9(F:Nat):q02 pp (zl8 F):=⟨q8t F,q8u F,zci F,qkh F,z82 F,trivial⟩
def qvp(F:Nat):ToldF:=⟨53,2,[.slot 0 (.L 64),.slot 1 .I],[.row .u8 1],u2 (qg4 F)⟩
theorem zpx(F:Nat):(qvp F).ok pp:=
 okF q00 (zl9 F) (fn:=Tryz.f53) [] (by kernel_rfl) aN fun d=>by kernel_rfl
def zla(F:Nat):List ToldF:=[qf0 F,qm4 F,qiw F,qau F,q4b F,q4c F,z31 F,qou F,qjf F,qav F,qym F,qcs F,qvn F,qvo F,qr7 F,qmj F,qvp F]
theorem zlb(F:Nat):q02 pp (zla F):=⟨qt4 F,zar F,z2o F,qkg F,q8t F,q8u F,zyl F,zci F,z7g F,qkh F,zts F,qoz F,zpp F,zps F,zl7 F,z82 F,zpx F,trivial⟩
def qvq(F:Nat):ToldF:=⟨21,2,[.slot 0 .I,.slot 1 (.L 64)],[.row .u8 1 false,.ty .I],u2 (q10 F)⟩
theorem zpy(F:Nat):(qvq F).ok pp:=
 okF q00 (zlb F) (fn:=Tryz.f21) [] (by kernel_rfl) aN fun d=>by kernel_rfl
def z3y(F:Nat):TX:=⟨26,[.row .u8 1 (.slot 0) false,.row .u8 1 (.slot 1) false,.slot 5 .I],[.const 4 (.bool (some false) false)],[],.ret,0,fun k=>u3 (qaw F k),fun k=>u3 (qog F (qaw F k))⟩
theorem zq0(F:Nat):(z3y F).ok pp Tryz.f22 F:=
 okX q00 (qx1 F) [] aN (fun _=>rfl) (fun _ _=>rfl) (eR rfl) fun k d=>by kernel_rfl
def qzo(F:Nat):ToldF:=⟨22,2,[.row .u8 1 (.slot 0) false,.row .u8 1 (.slot 1) false],[.ty (.bool)],u2 (z0l F)⟩
theorem zv0(F:Nat):(qzo F).ok pp:=
 okF q00 (qx1 F) (fn:=Tryz.f22) [(0,(z3y F).ann F)] (by kernel_rfl) (aX (by kernel_rfl) (zq0 F) aN) fun d=>by kernel_rfl
def z54(F:Nat):List ToldF:=[qih F,qat F,qiv F,qm3 F,quv F,qgg F,qcs F,qvq F,qzo F]
theorem z55(F:Nat):q02 pp (z54 F):=⟨z1z F,qkf F,z2l F,z73 F,zo8 F,qzf F,qoz F,zpy F,zv0 F,trivial⟩
def qjg(F:Nat):ToldF:=⟨4,2,[.slot 0 .I,.slot 1 (.L 64)],[.ty (.bool)],u2 (qlm F)⟩
theorem z83(F:Nat):(qjg F).ok pp:=
 okF q00 (z55 F) (fn:=Tryz.f4) [] (by kernel_rfl) aN fun d=>by kernel_rfl
end Go.Proofs.YtaogfbhifeobmaaGreat
namespace Go.AE.Gn
open Go Go.AE
theorem w64{x:Int}(h1: -9223372036854775808≤x)(h2:x≤9223372036854775807):y0 .i64 x=x:=z91 (has_iff.2 ⟨h1,h2⟩)
theorem wu64{x:Int}(h1:0≤x)(h2:x≤18446744073709551615):y0 .u64 x=x:=z91 (has_iff.2 ⟨h1,h2⟩)
theorem wu8{x:Int}(h1:0≤x)(h2:x≤255):y0 .u8 x=x:=z91 (has_iff.2 ⟨h1,h2⟩)
theorem beqF{a b:Int}(h:a≠b):(a==b)=false:=by simpa using h
theorem bneT{a b:Int}(h:a≠b):(a !=b)=true:=by simpa using h
def Bytes(b:LI):Prop:=∀x∈b,0≤x∧x≤255
theorem Bytes.getD{b:LI}(h:Bytes b)(i:Nat):0≤b.getD i 0∧b.getD i 0≤255:=by
 rw[ye]
 by_cases hi:i<b.length
 ·rw[yj hi]
  exact h _ (List.getElem_mem hi)
 ·rw[wa (by omega)]
  simp
theorem Bytes.set{b:LI}(h:Bytes b){i:Nat}{v:Int}(hv:0≤v∧v≤255):Bytes (b.set i v):=by
 intro x hx
 rcases List.mem_or_eq_of_mem_set hx with hx|rfl
 ·exact h x hx
 ·exact hv
theorem z0r(b:LI)(i j:Nat)(v:Int)(hi:i<b.length):(b.set i v).getD j 0=if i=j then v else b.getD j 0:=by
 simp only[ye,List.getElem?_set]
 split
 ·rename_i h
  simp[hi]
 ·rfl
theorem pow63{k:Nat}(hk:k≤63):(2:Int)^k≤9223372036854775808:=by
 have h:(2:Nat)^k≤9223372036854775808:=Nat.le_trans (Nat.pow_le_pow_right (by decide) hk) (by decide)
 have e:((2^k:Nat):Int)=(2:Int)^k:=wh 2 k
 omega
theorem q87(k:Nat):(0:Int)<2^k:=Int.pow_pos (by decide)
def qc1(f:Nat→Int):Nat→Int
 |0=>0
 |n+1=>qc1 f n+f n*2^n
def qfd(f:Nat→Int):Nat→Int
 |0=>0
 |n+1=>2*qfd f n+f n
def Bit(f:Nat→Int)(n:Nat):Prop:=∀i,i<n→f i=0∨f i=1
theorem qt8{f g:Nat→Int}:∀{n:Nat},(∀i,i<n→f i=g i)→qc1 f n=qc1 g n
 |0,_=>rfl
 |n+1,h=>by rw[qc1,qc1,qt8 fun i hi=>h i (by omega),h n (by omega)]
theorem qd2{f g:Nat→Int}:∀{n:Nat},(∀i,i<n→f i=g i)→qfd f n=qfd g n
 |0,_=>rfl
 |n+1,h=>by rw[qfd,qfd,qd2 fun i hi=>h i (by omega),h n (by omega)]
theorem z56{f:Nat→Int}:∀{n:Nat},Bit f n→0≤qc1 f n∧qc1 f n<2^n
 |0,_=>⟨Int.le_refl _,by simp[qc1]⟩
 |n+1,h=>by
  obtain⟨h1,h2⟩:=z56 (n:=n) fun i hi=>h i (by omega)
  rw[qc1,Int.pow_succ]
  rcases h n (by omega)with e|e<;>rw[e]<;>omega
theorem qt9{f:Nat→Int}:∀{n:Nat},Bit f n→0≤qfd f n∧qfd f n<2^n
 |0,_=>⟨Int.le_refl _,by simp[qfd]⟩
 |n+1,h=>by
  obtain⟨h1,h2⟩:=qt9 (n:=n) fun i hi=>h i (by omega)
  rw[qfd,Int.pow_succ]
  rcases h n (by omega)with e|e<;>rw[e]<;>omega
theorem qta(f:Nat→Int):∀n,qc1 f (n+1)=f 0+2*qc1 (fun i=>f (i+1)) n
 |0=>by simp[qc1]
 |n+1=>by
  rw[qc1,qta f n,qc1,Int.pow_succ,Int.mul_add,←Int.mul_assoc,←Int.mul_assoc,Int.mul_comm (f (n+1)) (2^n),Int.mul_comm 2 (f (n+1)),Int.mul_comm (2^n) (f (n+1))]
  have:f (n+1)*2^n*2=f (n+1)*2*2^n:=by rw[Int.mul_assoc,Int.mul_assoc,Int.mul_comm (2^n) 2]
  omega
theorem zlc(f:Nat→Int)(n:Nat):qfd (fun j=>f (n-1-j)) n=qc1 f n:=by
 induction n generalizing f with
 |zero=>rfl
 |succ n ih=>
  rw[qfd,qta,←ih (fun i=>f (i+1))]
  have:qfd (fun j=>f (n+1-1-j)) n=qfd (fun j=>f (n-1-j+1)) n:=qd2 fun i hi=>by
   congr 1
   omega
  rw[this]
  simp only[Nat.add_sub_cancel,Nat.sub_self]
  omega
theorem qr8(x:Int)(hx:0≤x):∀n:Nat,qc1 (fun i=>x/2^i%2) n=x%2^n
 |0=>by simp[qc1]
 |n+1=>by
  rw[qc1,qr8 x hx n,Int.pow_succ]
  have hp:(0:Int)<2^n:=Int.pow_pos (by decide)
  have h1:=Int.emod_add_mul_ediv x (2^n)
  have h2:=Int.emod_add_mul_ediv (x/2^n) 2
  have h3:x=x%2^n+2^n*(x/2^n%2)+(2^n*2)*(x/2^n/2):=by
   rw[Int.mul_assoc,Int.add_assoc,←Int.mul_add,h2,h1]
  have h4:=Int.emod_nonneg x (Int.ne_of_gt hp)
  have h5:=Int.emod_lt_of_pos x hp
  have h6:0≤x/2^n%2∧x/2^n%2≤1:=by omega
  have h7:0≤2^n*(x/2^n%2)∧2^n*(x/2^n%2)≤2^n:=by
   rcases(show x/2^n%2=0∨x/2^n%2=1 by omega)with e|e<;>rw[e]<;>omega
  have h8:x%(2^n*2)=x%2^n+2^n*(x/2^n%2):=by
   conv=>lhs;rw[h3]
   rw[Int.add_mul_emod_self_left]
   apply we
   ·omega
   ·rcases(show x/2^n%2=0∨x/2^n%2=1 by omega)with e|e<;>rw[e]<;>omega
  rw[h8,Int.mul_comm (x/2^n%2)]
theorem q1g{x y:Int}(h:0≤x):x.tdiv y=x/y:=Int.tdiv_eq_ediv_of_nonneg h
theorem tmod_nonneg{x y:Int}(h:0≤x):x.tmod y=x%y:=Int.tmod_eq_emod_of_nonneg h
end Go.AE.Gn
