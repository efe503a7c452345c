/- A part of the proof, put together of my texts: Y15certs. -/
import Derived.Test.YtdnccegimipapaaGreatRows
import Derived.KernelRfl
import Derived.Test.YtdnccegimipapaaGreatRowBcfitLessP5
set_option linter.unusedSimpArgs false
set_option maxRecDepth 100000
set_option linter.unusedVariables false
abbrev Go.AE.Ty.I:Go.AE.Ty:= .int .i64
abbrev Go.AE.CI.J:Go.AE.CI:= .hole (.int .i64)
abbrev Go.AE.CO.J:Go.AE.CO:= .hole (.int .i64)
abbrev Go.AE.CTy.I:Go.AE.CTy:= .int .i64
abbrev Go.AE.Ty.L(n:Nat):Go.AE.Ty:= .is .i64 n
abbrev Go.AE.CTy.L(n:Nat):Go.AE.CTy:= .is .i64 n
namespace Go.Proofs.YtdnccegimipapaaGreat
open Go Go.AE Go.AE.Gn
noncomputable abbrev pp:=Tryz.prog
theorem qn2:q0u Tryz.prog:=j4v (by kernel_rfl)
theorem oF{l:List ToldF}(hl:q01 pp l){fn:Func}{t:ToldF}{anns:List (Nat×Ann (D (tysO t.os)))}(ha:qbb pp (q85 fn) anns)(hf:Tryz.prog.funcs[t.f]? =some fn:=by kernel_rfl)(h:∀d,zhs pp (calT pp l _) (qcalT l _) (z3p anns) t.f (bldS t.n t.ins d).tmps (bldS t.n t.ins d).heap (endO t.os)=t.F d:=by intro d;kernel_rfl):t.ok pp:=okF qn2 hl anns hf ha h
theorem oL{l:List ToldF}(hl:q01 pp l){fn:Func}{t:TL}{F:Nat}{anns:List (Nat×Ann (D (tysI t.outs [])))}(ha:qbb pp (qmg (q85 fn) t.id) anns)(h0:∀d,t.L 0 d=none:=by intro _;rfl)(h1:∀k d,t.S k d=t.L (k+1) d:=by intro _ _;rfl)(hs:∀k d,q2t pp (calT pp l _) (qcalT l _) (z3p anns) (qmg (q85 fn) t.id) (bldS t.nt t.ins d) (kS t.nt t.ins t.outs t.id (t.L k))=t.S k d:=by intro k d;kernel_rfl):t.ok pp fn F:=okL qn2 hl anns ha h0 h1 hs
theorem oX{l:List ToldF}(hl:q01 pp l){fn:Func}{t:TX}{F:Nat}{anns:List (Nat×Ann (D (tysI t.outX [])⊕D (tysI t.outs [])))}(ha:qbb pp (qmg (q85 fn) t.id) anns)(he:t.e2= .ret∨∃j,t.e2= .exit j∧j≠t.id)(h0:∀d,t.L 0 d=none:=by intro _;rfl)(h1:∀k d,t.S k d=t.L (k+1) d:=by intro _ _;rfl)(hs:∀k d,q2t pp (calT pp l _) (qcalT l _) (z3p anns) (qmg (q85 fn) t.id) (bldS t.nt t.ins d) (kX t.nt t.ins t.outX t.outs t.id t.e2 (t.L k))=t.S k d:=by intro k d;kernel_rfl):t.ok pp fn F:=okX qn2 hl anns ha h0 h1 he hs
theorem aM{ρ:Type}{fn:Func}{c:Code}{t:TL}{F:Nat}{l:List (Nat×Ann ρ)}(h:t.ok pp fn F)(hl:qbb pp c l)(hb:qmf c t.id=[.loop (qmg (q85 fn) t.id)]:=by kernel_rfl):qbb pp c ((t.id,t.ann F)::l):=aL hb h hl
theorem aY{ρ:Type}{fn:Func}{c:Code}{t:TX}{F:Nat}{l:List (Nat×Ann ρ)}(h:t.ok pp fn F)(hl:qbb pp c l)(hb:qmf c t.id=[.loop (qmg (q85 fn) t.id)]:=by kernel_rfl):qbb pp c ((t.id,t.ann F)::l):=aX hb h hl
section
variable (F:Nat)
def q5d:ToldF:=⟨226,1,[.row .u8 1 (.slot 0) false],[.row .u8 1],fun d=>q5i F d.1⟩
theorem qbf:(q5d F).ok pp:=
 j9c qn2 (fn:=Tryz.f226) (f:=226) (k:= .u8) (sz:=1) (R0:=cloneR0 (q85 Tryz.f226)) (X:=cloneX (q85 Tryz.f226)) (REST:=jbr (q85 Tryz.f226)) (o3:=cloneO3 (q85 Tryz.f226)) (o4:=cloneO4 (q85 Tryz.f226)) (t:=27) (t' :=27) (e:=5) (i1:=1) (by kernel_rfl) (by kernel_rfl) (by kernel_rfl) (by kernel_rfl) (by kernel_rfl) (by kernel_rfl) (by kernel_rfl)
  (cloneS1 1 .u8) (jbu 1 .u8)
  (fun l=>by kernel_rfl) (fun l=>by kernel_rfl) (fun l=>⟨rfl,rfl⟩) (fun l=>by simp[jbu]) (fun l=>by kernel_rfl) (fun l=>by kernel_rfl)
def zuq(F:Nat):List ToldF:=[]
theorem zur:q01 pp (zuq F):=trivial
def qbg:ToldF:=⟨65,1,[.slot 0 .I],[.ty (.agg [.I,.I,.bool]),.ty .I],u1 (q9p F)⟩
theorem qn3:(qbg F).ok pp:=
 oF (zur F) (fn:=Tryz.f65) aN
def zov:TX:=⟨23,[.slot 7 (.L 64),.slot 8 .I,.slot 11 (.L 4),.slot 12 .I],[.const 2 (.bool (some false) false)],[.slot 7 (.L 64),.slot 8 .I],.ret,2,fun k=>u4 (q3h F k),fun k=>u4 (q8o F (q3h F k))⟩
theorem z1t:(zov F).ok pp Tryz.f66 F:=
 oX (zur F) aN (eR rfl)
def zow:TX:=⟨23,[.slot 7 (.L 64),.slot 8 .I],[.const 2 (.bool (some false) false)],[],.ret,0,fun k=>u2 (q3i F k),fun k=>u2 (q8p F (q3i F k))⟩
theorem zox:(zow F).ok pp Tryz.f66 F:=
 oX (zur F) (aY (z1t F) aN) (eR rfl)
def qxj:ToldF:=⟨66,1,[.slot 0 (.L 64)],[.ty (.bool)],u1 (q8q F)⟩
theorem zus:(qxj F).ok pp:=
 oF (zur F) (fn:=Tryz.f66) (aY (z1t F) (aY (zox F) aN))
def zcm:List ToldF:=[qbg F]
theorem qi4:q01 pp (zcm F):=⟨qn3 F,trivial⟩
def zcn:TL:=⟨41,[.segs [.hole (.L 64)] (.slot 3) true,.ptr 3 1 64,.segs [.hole (.L 64)] (.slot 4) true,.ptr 4 2 64,.slot 7 .I,.slot 19 .I,.slot 24 (.L 4),.slot 25 .I],[.segs [.hole (.L 64)] (.slot 3) true,.ptr 3 1 64,.segs [.hole (.L 64)] (.slot 4) true,.ptr 4 2 64,.slot 19 .I],2,fun k=>u6 (q72 F k),fun k=>u6 (qc5 F (q72 F k))⟩
theorem qtz:(zcn F).ok pp Tryz.f27 F:=
 oL (qi4 F) aN
def zco:TL:=⟨41,[.segs [.hole (.L 64)] (.slot 3) true,.ptr 3 1 64,.segs [.hole (.L 64)] (.slot 4) true,.ptr 4 2 64,.slot 19 .I],[.segs [.hole (.L 64)] (.slot 3) true,.ptr 3 1 64,.segs [.hole (.L 64)] (.slot 4) true,.ptr 4 2 64],0,fun k=>u3 (q73 F k),fun k=>u3 (qc6 F (q73 F k))⟩
theorem zcp:(zco F).ok pp Tryz.f27 F:=
 oL (qi4 F) (aM (qtz F) aN)
def qfm:ToldF:=⟨27,2,[.slot 0 .I,.slot 1 (.L 64)],[.ty (.L 64)],u2 (qhi F)⟩
theorem qxk:(qfm F).ok pp:=
 oF (qi4 F) (fn:=Tryz.f27) (aM (qtz F) (aM (zcp F) aN))
def qoe:ToldF:=⟨153,1,[.slot 0 .I],[.ty (.bool)],u1 (qwt F)⟩
theorem zbw:(qoe F).ok pp:=
 oF (zur F) (fn:=Tryz.f153) aN
def zoy:List ToldF:=[qoe F]
theorem z1u:q01 pp (zoy F):=⟨zbw F,trivial⟩
def zoz:TL:=⟨28,[.slot 0 .I,.slot 1 .I,.slot 5 .I,.slot 6 .I],[.slot 5 .I,.slot 6 .I],0,fun k=>u4 (qj6 F k),fun k=>u4 (z1h F (qj6 F k))⟩
theorem zp0:(zoz F).ok pp Tryz.f82 F:=
 oL (z1u F) aN
def q2q:ToldF:=⟨82,2,[.slot 0 .I,.slot 1 .I],[.ty .I],u2 (q0m F)⟩
theorem q6d:(q2q F).ok pp:=
 oF (z1u F) (fn:=Tryz.f82) (aM (zp0 F) aN)
def zcq:List ToldF:=[q2q F]
theorem zcr:q01 pp (zcq F):=⟨q6d F,trivial⟩
def qpq:ToldF:=⟨207,2,[.slot 0 .I,.segs [.J] (.slot 1) false,.ptr 1 1 1],[.ty .I],u2 (qxb F)⟩
theorem zis:(qpq F).ok pp:=
 oF (zcr F) (fn:=Tryz.f207) aN
def qaz:ToldF:=⟨149,1,[.slot 0 .I],[.ty .I],u1 (q4m F)⟩
theorem ql9:(qaz F).ok pp:=
 oF (zur F) (fn:=Tryz.f149) aN
def z8k:List ToldF:=[qaz F]
theorem qpr:q01 pp (z8k F):=⟨ql9 F,trivial⟩
def z8l:TL:=⟨25,[.slot 0 .I,.row .i64 1 (.cell (.slot 2) 0) false,.segs [.sl 1 1 .whole] (.slot 2) false,.ptr 2 2 1,.slot 5 .I,.row .i64 1 (.slot 8) false,.slot 9 .I,.slot 10 .I],[.slot 5 .I],0,fun k=>u6 (q4b F k),fun k=>u6 (q4y F (q4b F k))⟩
theorem z8m:(z8l F).ok pp Tryz.f255 F:=
 oL (qpr F) aN
def qn4:ToldF:=⟨255,3,[.slot 0 .I,.row .i64 1 (.cell (.slot 1) 0) false,.segs [.sl 1 1 .whole] (.slot 1) false,.ptr 1 2 1,.row .i64 1 (.cell (.slot 2) 0) false,.segs [.sl 3 1 .whole] (.slot 2) false,.ptr 2 4 1],[.ty .I],u3 (qjq F)⟩
theorem zcu:(qn4 F).ok pp:=
 oF (qpr F) (fn:=Tryz.f255) (aM (z8m F) aN)
def qs8:List ToldF:=[qn4 F]
theorem qec:q01 pp (qs8 F):=⟨zcu F,trivial⟩
def qs9:TL:=⟨27,[.row .i64 1 (.cell (.cap (.slot 1) 0) 0) false,.segs [.sl 1 1 .whole] (.cap (.slot 1) 0) false,.row .i64 1 (.cell (.cap (.slot 1) 1) 0) false,.segs [.sl 3 1 .whole] (.cap (.slot 1) 1) false,.fn 1 255 [.ptr 2 1,.ptr 4 1],.slot 5 .I,.slot 6 .I,.slot 9 .I,.slot 10 .I],[.slot 5 .I],0,fun k=>u6 (q0x F k),fun k=>u6 (q13 F (q0x F k))⟩
theorem qsa:(qs9 F).ok pp Tryz.f154 F:=
 oL (qec F) aN
def qct:ToldF:=⟨154,2,[.slot 0 .I,.row .i64 1 (.cell (.cap (.slot 1) 0) 0) false,.segs [.sl 1 1 .whole] (.cap (.slot 1) 0) false,.row .i64 1 (.cell (.cap (.slot 1) 1) 0) false,.segs [.sl 3 1 .whole] (.cap (.slot 1) 1) false,.fn 1 255 [.ptr 2 1,.ptr 4 1]],[.ty .I],u3 (qcg F)⟩
theorem qvj:(qct F).ok pp:=
 oF (qec F) (fn:=Tryz.f154) (aM (qsa F) aN)
def zp1:List ToldF:=[qct F]
theorem zp2:q01 pp (zp1 F):=⟨qvj F,trivial⟩
def q75:ToldF:=⟨237,2,[.row .i64 1 (.slot 0) false,.row .i64 1 (.slot 1) false],[.ty .I],u2 (qcr F)⟩
theorem qed:(q75 F).ok pp:=
 oF (zp2 F) (fn:=Tryz.f237) aN
def qxl:List ToldF:=[qpq F,q75 F]
theorem qa0:q01 pp (qxl F):=⟨zis F,qed F,trivial⟩
def qxm:TL:=⟨39,[.slot 1 .I,.slot 2 .I,.segs [.J] (.cap (.slot 3) 0) false,.fn 3 207 [.ptr 1 1],.row .i64 1 (.slot 9) true,.const 10 .nils,.slot 14 (.L 64),.slot 15 .I],[.slot 2 .I,.segs [.J] (.cap (.slot 3) 0) false,.fn 3 207 [.ptr 1 1],.row .i64 1 (.slot 9) true,.const 10 .nils],0,fun k=>u6 (q2r F k),fun k=>u6 (q67 F (q2r F k))⟩
theorem qxn:(qxm F).ok pp Tryz.f206 F:=
 oL (qa0 F) aN
def qxo:TL:=⟨39,[.segs [.J] (.cap (.slot 3) 0) false,.fn 3 207 [.ptr 1 1],.row .i64 1 (.slot 9) true,.row .i64 1 (.slot 10) true,.slot 25 .I,.slot 26 .I],[.row .i64 1 (.slot 9) true,.row .i64 1 (.slot 10) true],2,fun k=>u5 (q28 F k),fun k=>u5 (q2i F (q28 F k))⟩
theorem qxp:(qxo F).ok pp Tryz.f206 F:=
 oL (qa0 F) aN
def qf8:ToldF:=⟨206,4,[.slot 0 (.L 64),.slot 1 .I,.slot 2 .I,.segs [.J] (.cap (.slot 3) 0) false,.fn 3 207 [.ptr 1 1]],[.ty .I],u4 (qap F)⟩
theorem z0q:(qf8 F).ok pp:=
 oF (qa0 F) (fn:=Tryz.f206) (aM (qxn F) (aM (qxp F) aN))
def zuv:List ToldF:=[qf8 F]
theorem zuw:q01 pp (zuv F):=⟨z0q F,trivial⟩
def qgu:ToldF:=⟨139,3,[.slot 0 (.L 64),.slot 1 .I,.slot 2 .I],[.ty .I],u3 (qbe F)⟩
theorem qxq:(qgu F).ok pp:=
 oF (zuw F) (fn:=Tryz.f139) aN
def zcw:TL:=⟨13,[.slot 0 .I,.segs [.hole (.L 16)] (.slot 2) true,.ptr 2 1 16,.segs [.hole (.L 16)] (.slot 3) true,.ptr 3 2 16,.slot 5 .I],[.segs [.hole (.L 16)] (.slot 2) true,.ptr 2 1 16,.segs [.hole (.L 16)] (.slot 3) true,.ptr 3 2 16],0,fun k=>u4 (q5b F k),fun k=>u4 (qc7 F (q5b F k))⟩
theorem zcx:(zcw F).ok pp Tryz.f138 F:=
 oL (zur F) aN
def q4z:ToldF:=⟨138,1,[.slot 0 .I],[.ty (.L 16)],u1 (q68 F)⟩
theorem qa1:(q4z F).ok pp:=
 oF (zur F) (fn:=Tryz.f138) (aM (zcx F) aN)
def qog:ToldF:=⟨257,3,[.row .u8 1 (.slot 0) false,.slot 1 .I,.slot 2 .I],[.ty (.bool)],u3 (qp9 F)⟩
theorem zbx:(qog F).ok pp:=
 oF (zur F) (fn:=Tryz.f257) aN
def zp3:List ToldF:=[qog F]
theorem zp4:q01 pp (zp3 F):=⟨zbx F,trivial⟩
def qee:ToldF:=⟨252,3,[.row .u8 1 (.slot 0) false,.slot 1 .I,.slot 2 .I],[.ty .I],u3 (qkc F)⟩
theorem qsb:(qee F).ok pp:=
 oF (zp4 F) (fn:=Tryz.f252) aN
def zuz:List ToldF:=[qee F]
theorem zv0:q01 pp (zuz F):=⟨qsb F,trivial⟩
def qoh:ToldF:=⟨225,4,[.row .u8 1 (.slot 0) false,.slot 1 .I,.slot 2 .I,.slot 3 (.int .u64)],[.ty .I],u4 (qws F)⟩
theorem zby:(qoh F).ok pp:=
 oF (zv0 F) (fn:=Tryz.f225) aN
def qsc:ToldF:=⟨227,3,[.slot 0 (.int .u8),.slot 1 .I,.slot 2 (.int .u64)],[.ty (.int .u8)],u3 (z56 F)⟩
theorem zit:(qsc F).ok pp:=
 oF (zur F) (fn:=Tryz.f227) aN
def ziu:List ToldF:=[qoh F,q5d F,qsc F]
theorem qxr:q01 pp (ziu F):=⟨zby F,qbf F,zit F,trivial⟩
def ziv:TL:=⟨48,[.slot 1 .I,.slot 3 (.int .u64),.row .u8 1 (.slot 11) true,.slot 24 .I,.slot 25 .I],[.row .u8 1 (.slot 11) true],0,fun k=>u5 (q8d F k),fun k=>u5 (qkp F (q8d F k))⟩
theorem ziw:(ziv F).ok pp Tryz.f233 F:=
 oL (qxr F) aN
def q88:ToldF:=⟨233,4,[.row .u8 1 (.slot 0) false,.slot 1 .I,.slot 2 .I,.slot 3 (.int .u64)],[.row .u8 1,.ty .I],u4 (q7j F)⟩
theorem qgv:(q88 F).ok pp:=
 oF (qxr F) (fn:=Tryz.f233) (aM (ziw F) aN)
def z8n:List ToldF:=[q88 F]
theorem qps:q01 pp (z8n F):=⟨qgv F,trivial⟩
def z8o:TX:=⟨41,[.slot 0 (.int .u64),.slot 1 .I,.slot 2 .I,.slot 12 (.L 16),.slot 13 .I],[.const 8 .nils,.const 9 (.int .i64 (some 1) 1)],[.slot 0 (.int .u64)],.ret,0,fun k=>u5 (q1u F k),fun k=>u5 (q4v F (q1u F k))⟩
theorem z8p:(z8o F).ok pp Tryz.f200 F:=
 oX (qps F) aN (eR rfl)
def qef:ToldF:=⟨200,4,[.slot 0 (.int .u64),.slot 1 .I,.slot 2 .I,.slot 3 (.L 16)],[.row .u8 1,.ty .I],u4 (q4f F)⟩
theorem qu1:(qef F).ok pp:=
 oF (qps F) (fn:=Tryz.f200) (aY (z8p F) aN)
def z0r:List ToldF:=[qef F]
theorem z0s:q01 pp (z0r F):=⟨qu1 F,trivial⟩
def qa2:ToldF:=⟨129,1,[.slot 0 (.L 16)],[.row .u8 1,.ty .I],u1 (q1v F)⟩
theorem qla:(qa2 F).ok pp:=
 oF (z0s F) (fn:=Tryz.f129) aN
def zp5:List ToldF:=[q88 F]
theorem z1v:q01 pp (zp5 F):=⟨qgv F,trivial⟩
def zp6:TX:=⟨56,[.slot 8 (.int .u64),.slot 31 (.L 16),.slot 32 .I],[.const 6 .nils,.const 7 (.int .i64 (some 1) 1)],[.slot 8 (.int .u64)],.ret,0,fun k=>u3 (q2f F k),fun k=>u3 (q8i F (q2f F k))⟩
theorem zp7:(zp6 F).ok pp Tryz.f198 F:=
 oX (z1v F) aN (eR rfl)
def qlb:ToldF:=⟨198,3,[.slot 0 .I,.slot 1 .I,.slot 2 (.L 16)],[.row .u8 1,.ty .I],u3 (q44 F)⟩
theorem z5l:(qlb F).ok pp:=
 oF (z1v F) (fn:=Tryz.f198) (aY (zp7 F) aN)
def j19:List ToldF:=[qgu F,q4z F,qlb F]
theorem j1a:q01 pp (j19 F):=⟨qxq F,qa1 F,z5l F,trivial⟩
def z5m:ToldF:=⟨140,1,[.slot 0 (.L 64)],[.row .u8 1],u1 (z08 F)⟩
theorem j52:(z5m F).ok pp:=
 oF (j1a F) (fn:=Tryz.f140) aN
def qn5:ToldF:=⟨211,1,[.slot 0 .I],[.ty .I],u1 (qs4 F)⟩
theorem zcy:(qn5 F).ok pp:=
 oF (zur F) (fn:=Tryz.f211) aN
def qvk:List ToldF:=[q75 F,qn5 F]
theorem q92:q01 pp (qvk F):=⟨qed F,zcy F,trivial⟩
def qvl:TL:=⟨39,[.slot 1 .I,.slot 2 .I,.fn 3 211 [],.row .i64 1 (.slot 9) true,.const 10 .nils,.slot 14 (.L 64),.slot 15 .I],[.slot 2 .I,.fn 3 211 [],.row .i64 1 (.slot 9) true,.const 10 .nils],0,fun k=>u5 (q2j F k),fun k=>u5 (q5k F (q2j F k))⟩
theorem qvm:(qvl F).ok pp Tryz.f206 F:=
 oL (q92 F) aN
def qvn:TL:=⟨39,[.fn 3 211 [],.row .i64 1 (.slot 9) true,.row .i64 1 (.slot 10) true,.slot 25 .I,.slot 26 .I],[.row .i64 1 (.slot 9) true,.row .i64 1 (.slot 10) true],2,fun k=>u4 (q1p F k),fun k=>u4 (q2b F (q1p F k))⟩
theorem qvo:(qvn F).ok pp Tryz.f206 F:=
 oL (q92 F) aN
def qeg:ToldF:=⟨206,4,[.slot 0 (.L 64),.slot 1 .I,.slot 2 .I,.fn 3 211 []],[.ty .I],u3 (qe0 F)⟩
theorem qxs:(qeg F).ok pp:=
 oF (q92 F) (fn:=Tryz.f206) (aM (qvm F) (aM (qvo F) aN))
def zp8:List ToldF:=[qeg F]
theorem zp9:q01 pp (zp8 F):=⟨qxs F,trivial⟩
def qlc:ToldF:=⟨146,2,[.slot 0 (.L 64),.slot 1 .I],[.ty .I],u2 (qpm F)⟩
theorem z5n:(qlc F).ok pp:=
 oF (zp9 F) (fn:=Tryz.f146) aN
def zix:List ToldF:=[qef F]
theorem ziy:q01 pp (zix F):=⟨qu1 F,trivial⟩
def qi5:ToldF:=⟨134,3,[.slot 0 .I,.slot 1 .I,.slot 2 (.L 16)],[.row .u8 1,.ty .I],u3 (q26 F)⟩
theorem z1w:(qi5 F).ok pp:=
 oF (ziy F) (fn:=Tryz.f134) aN
def zv1:List ToldF:=[q4z F,qlc F,qi5 F]
theorem zv2:q01 pp (zv1 F):=⟨qa1 F,z5n F,z1w F,trivial⟩
def z1x:ToldF:=⟨141,2,[.slot 0 (.L 64),.slot 1 .I],[.row .u8 1],u2 (qkz F)⟩
theorem j1b:(z1x F).ok pp:=
 oF (zv2 F) (fn:=Tryz.f141) aN
def qld:ToldF:=⟨209,2,[.slot 0 .I,.segs [.J] (.slot 1) false,.ptr 1 1 1],[.ty .I],u2 (qoc F)⟩
theorem z8s:(qld F).ok pp:=
 oF (zur F) (fn:=Tryz.f209) aN
def qsd:List ToldF:=[q75 F,qld F]
theorem q7t:q01 pp (qsd F):=⟨qed F,z8s F,trivial⟩
def qse:TL:=⟨39,[.slot 1 .I,.slot 2 .I,.segs [.J] (.cap (.slot 3) 0) false,.fn 3 209 [.ptr 1 1],.row .i64 1 (.slot 9) true,.const 10 .nils,.slot 14 (.L 64),.slot 15 .I],[.slot 2 .I,.segs [.J] (.cap (.slot 3) 0) false,.fn 3 209 [.ptr 1 1],.row .i64 1 (.slot 9) true,.const 10 .nils],0,fun k=>u6 (q2c F k),fun k=>u6 (q4h F (q2c F k))⟩
theorem qsf:(qse F).ok pp Tryz.f206 F:=
 oL (q7t F) aN
def qsg:TL:=⟨39,[.segs [.J] (.cap (.slot 3) 0) false,.fn 3 209 [.ptr 1 1],.row .i64 1 (.slot 9) true,.row .i64 1 (.slot 10) true,.slot 25 .I,.slot 26 .I],[.row .i64 1 (.slot 9) true,.row .i64 1 (.slot 10) true],2,fun k=>u5 (q1i F k),fun k=>u5 (q22 F (q1i F k))⟩
theorem qsh:(qsg F).ok pp Tryz.f206 F:=
 oL (q7t F) aN
def qcu:ToldF:=⟨206,4,[.slot 0 (.L 64),.slot 1 .I,.slot 2 .I,.segs [.J] (.cap (.slot 3) 0) false,.fn 3 209 [.ptr 1 1]],[.ty .I],u4 (q7n F)⟩
theorem qvp:(qcu F).ok pp:=
 oF (q7t F) (fn:=Tryz.f206) (aM (qsf F) (aM (qsh F) aN))
def z5q:List ToldF:=[q88 F]
theorem z5r:q01 pp (z5q F):=⟨qgv F,trivial⟩
def qle:ToldF:=⟨236,5,[.slot 0 .I,.slot 1 .I,.row .u8 1 (.cell (.slot 2) 0) true (some 0),.segs [.sl 1 1 .own] (.slot 2) true (some 1),.ptr 2 2 1,.segs [.J] (.slot 3) true (some 2),.ptr 3 3 1,.segs [.hole (.bool)] (.slot 4) true (some 3),.ptr 4 4 1],[.psegs 1 [.row .u8 1 true],.psegs 2 [.J],.psegs 3 [.hole (.bool)]],u5 (q3g F)⟩
theorem z8t:(qle F).ok pp:=
 oF (z5r F) (fn:=Tryz.f236) aN
def ziz:List ToldF:=[q88 F,qle F]
theorem qlf:q01 pp (ziz F):=⟨qgv F,z8t F,trivial⟩
def zj0:TL:=⟨62,[.segs [.hole (.L 8)] (.slot 3) true,.ptr 3 1 8,.segs [.hole (.L 2)] (.slot 4) true,.ptr 4 2 2,.segs [.hole (.L 16)] (.slot 5) true,.ptr 5 3 16,.row .u8 1 (.cell (.slot 8) 0) true,.segs [.sl 4 1 .own] (.slot 8) true,.ptr 8 5 1,.segs [.hole (.bool)] (.slot 11) true,.ptr 11 6 1,.segs [.J] (.cap (.slot 12) 1) true,.fn 12 236 [.ptr 5 1,.ptr 7 1,.ptr 6 1],.slot 22 .I],[.segs [.hole (.L 2)] (.slot 4) true,.ptr 4 1 2,.segs [.hole (.L 16)] (.slot 5) true,.ptr 5 2 16,.row .u8 1 (.cell (.slot 8) 0) true,.segs [.sl 3 1 .own] (.slot 8) true,.ptr 8 4 1,.segs [.hole (.bool)] (.slot 11) true,.ptr 11 5 1,.segs [.J] (.cap (.slot 12) 1) true,.fn 12 236 [.ptr 4 1,.ptr 6 1,.ptr 5 1]],0,fun k=>u7 (q4p F k),fun k=>u7 (qdn F (q4p F k))⟩
theorem zj1:(zj0 F).ok pp Tryz.f205 F:=
 oL (qlf F) aN
def zj2:TL:=⟨62,[.row .u8 1 (.cell (.slot 8) 0) true,.segs [.sl 1 1 .own] (.slot 8) true,.ptr 8 2 1,.segs [.hole (.bool)] (.slot 11) true,.ptr 11 3 1,.segs [.J] (.cap (.slot 12) 1) true,.fn 12 236 [.ptr 2 1,.ptr 4 1,.ptr 3 1],.slot 46 (.L 16),.slot 47 .I],[.row .u8 1 (.cell (.slot 8) 0) true,.segs [.sl 1 1 .own] (.slot 8) true,.ptr 8 2 1,.segs [.hole (.bool)] (.slot 11) true,.ptr 11 3 1],2,fun k=>u5 (q4q F k),fun k=>u5 (qdo F (q4q F k))⟩
theorem zj3:(zj2 F).ok pp Tryz.f205 F:=
 oL (qlf F) aN
def qi6:ToldF:=⟨205,3,[.slot 0 (.L 8),.slot 1 (.L 2),.slot 2 (.L 16)],[.row .u8 1,.ty .I],u3 (q52 F)⟩
theorem z1y:(qi6 F).ok pp:=
 oF (qlf F) (fn:=Tryz.f205) (aM (zj1 F) (aM (zj3 F) aN))
def zj4:List ToldF:=[q4z F,qcu F,qi6 F]
theorem qxt:q01 pp (zj4 F):=⟨qa1 F,qvp F,z1y F,trivial⟩
def zj5:TL:=⟨30,[.segs [.hole (.L 64)] (.slot 1) false,.ptr 1 1 64,.segs [.J] (.slot 2) true,.ptr 2 2 1,.segs [.hole (.L 4)] (.slot 4) true,.ptr 4 3 4,.slot 8 .I],[.segs [.J] (.slot 2) true,.ptr 2 1 1,.segs [.hole (.L 4)] (.slot 4) true,.ptr 4 2 4],0,fun k=>u4 (q6i F k),fun k=>u4 (qe1 F (q6i F k))⟩
theorem zj6:(zj5 F).ok pp Tryz.f208 F:=
 oL (qxt F) aN
def qu2:ToldF:=⟨208,2,[.slot 0 .I,.segs [.hole (.L 64)] (.slot 1) false,.ptr 1 1 64],[.row .u8 1],u2 (ql0 F)⟩
theorem zpa:(qu2 F).ok pp:=
 oF (qxt F) (fn:=Tryz.f208) (aM (zj6 F) aN)
def zj8:TL:=⟨17,[.slot 0 (.int .u8),.segs [.hole (.is .u64 8)] (.slot 2) true,.ptr 2 1 8,.segs [.hole (.is .u64 8)] (.slot 3) true,.ptr 3 2 8,.slot 5 .I],[.segs [.hole (.is .u64 8)] (.slot 2) true,.ptr 2 1 8,.segs [.hole (.is .u64 8)] (.slot 3) true,.ptr 3 2 8],0,fun k=>u4 (qg3 F k),fun k=>u4 (qwq F (qg3 F k))⟩
theorem zj9:(zj8 F).ok pp Tryz.f273 F:=
 oL (zur F) aN
def qi7:ToldF:=⟨273,1,[.slot 0 (.int .u8)],[.ty (.is .u64 8)],u1 (qko F)⟩
theorem z1z:(qi7 F).ok pp:=
 oF (zur F) (fn:=Tryz.f273) (aM (zj9 F) aN)
def j1c:List ToldF:=[qi7 F]
theorem j1d:q01 pp (j1c F):=⟨z1z F,trivial⟩
def z5s:ToldF:=⟨274,2,[.row .u8 1 (.slot 0) false,.slot 1 .I],[.ty (.int .u64)],u2 (zgt F)⟩
theorem j53:(z5s F).ok pp:=
 oF (j1d F) (fn:=Tryz.f274) aN
def j1e:List ToldF:=[qee F,z5s F]
theorem zbz:q01 pp (j1e F):=⟨qsb F,j53 F,trivial⟩
def j1f:TX:=⟨34,[.row .u8 1 (.slot 0) false,.slot 1 .I,.slot 8 .I,.slot 9 (.int .u64),.slot 15 .I,.slot 16 .I],[.const 6 (.int .u64 (some 0) 0),.slot 7 .I],[.slot 8 .I,.slot 9 (.int .u64)],.ret,0,fun k=>u6 (qcc F k),fun k=>u6 (qmh F (qcc F k))⟩
theorem j1g:(j1f F).ok pp Tryz.f258 F:=
 oX (zbz F) aN (eR rfl)
def qsi:ToldF:=⟨258,3,[.row .u8 1 (.slot 0) false,.slot 1 .I,.slot 2 .I],[.ty (.int .u64),.ty .I],u3 (z01 F)⟩
theorem zja:(qsi F).ok pp:=
 oF (zbz F) (fn:=Tryz.f258) (aY (j1g F) aN)
def zv3:List ToldF:=[qog F,qsi F]
theorem z5t:q01 pp (zv3 F):=⟨zbx F,zja F,trivial⟩
def zv4:TL:=⟨63,[.row .u8 1 (.slot 0) false,.slot 1 .I,.slot 2 .I,.row .i64 1 (.slot 10) true,.slot 41 .I,.slot 42 .I],[.row .i64 1 (.slot 10) true],1,fun k=>u6 (qco F k),fun k=>u6 (qrr F (qco F k))⟩
theorem zv5:(zv4 F).ok pp Tryz.f240 F:=
 oL (z5t F) aN
def qgw:ToldF:=⟨240,4,[.row .u8 1 (.slot 0) false,.slot 1 .I,.slot 2 .I,.slot 3 .I],[.row .i64 1,.ty .I],u4 (qkq F)⟩
theorem qxv:(qgw F).ok pp:=
 oF (z5t F) (fn:=Tryz.f240) (aM (zv5 F) aN)
def zcz:List ToldF:=[q2q F,qgw F]
theorem qu3:q01 pp (zcz F):=⟨q6d F,qxv F,trivial⟩
def zd0:TL:=⟨29,[.segs [.hole (.L 16)] (.slot 2) true,.ptr 2 1 16,.segs [.hole (.L 16)] (.slot 4) true,.ptr 4 2 16,.row .i64 1 (.slot 5) true,.slot 17 .I],[.segs [.hole (.L 16)] (.slot 2) true,.ptr 2 1 16,.segs [.hole (.L 16)] (.slot 4) true,.ptr 4 2 16],0,fun k=>u4 (q3l F k),fun k=>u4 (q5v F (q3l F k))⟩
theorem zd1:(zd0 F).ok pp Tryz.f218 F:=
 oL (qu3 F) aN
def qpt:ToldF:=⟨218,1,[.row .u8 1 (.slot 0) false],[.ty (.L 16),.ty .I],u1 (qmk F)⟩
theorem zjb:(qpt F).ok pp:=
 oF (qu3 F) (fn:=Tryz.f218) (aM (zd1 F) aN)
def zjc:List ToldF:=[qgw F]
theorem zjd:q01 pp (zjc F):=⟨qxv F,trivial⟩
def qu4:ToldF:=⟨241,1,[.row .u8 1 (.slot 0) false],[.ty .I,.ty .I,.ty (.L 16),.ty .I],u1 (qrw F)⟩
theorem zpb:(qu4 F).ok pp:=
 oF (zjd F) (fn:=Tryz.f241) aN
def zd2:List ToldF:=[q2q F]
theorem zd3:q01 pp (zd2 F):=⟨q6d F,trivial⟩
def qpu:ToldF:=⟨231,1,[.slot 0 .I],[.ty (.L 4)],u1 (qha F)⟩
theorem zje:(qpu F).ok pp:=
 oF (zd3 F) (fn:=Tryz.f231) aN
def qgx:ToldF:=⟨201,5,[.slot 0 .I,.slot 1 .I,.slot 2 .I,.slot 3 .I,.slot 4 .I],[.ty .I],u5 (qpb F)⟩
theorem qxw:(qgx F).ok pp:=
 oF (zur F) (fn:=Tryz.f201) aN
def z8u:List ToldF:=[qgx F]
theorem qpv:q01 pp (z8u F):=⟨qxw F,trivial⟩
def z8v:TL:=⟨28,[.slot 2 .I,.slot 3 .I,.segs [.hole (.L 4)] (.slot 4) true,.ptr 4 1 4,.segs [.hole (.L 4)] (.slot 5) true,.ptr 5 2 4,.segs [.hole (.L 4)] (.slot 8) true,.ptr 8 3 4,.segs [.hole (.L 4)] (.slot 9) true,.ptr 9 4 4,.slot 12 .I],[.segs [.hole (.L 4)] (.slot 8) true,.ptr 8 1 4,.segs [.hole (.L 4)] (.slot 9) true,.ptr 9 2 4],0,fun k=>u7 (q2w F k),fun k=>u7 (qad F (q2w F k))⟩
theorem z8w:(z8v F).ok pp Tryz.f232 F:=
 oL (qpv F) aN
def qn6:ToldF:=⟨232,4,[.slot 0 (.L 4),.slot 1 (.L 4),.slot 2 .I,.slot 3 .I],[.ty (.L 4)],u4 (q61 F)⟩
theorem zd4:(qn6 F).ok pp:=
 oF (qpv F) (fn:=Tryz.f232) (aM (z8w F) aN)
def z8x:List ToldF:=[qpu F,qn6 F]
theorem z8y:q01 pp (z8x F):=⟨zje F,zd4 F,trivial⟩
def qeh:ToldF:=⟨194,3,[.slot 0 .I,.slot 1 .I,.slot 2 (.bool)],[.ty (.L 16)],u3 (qae F)⟩
theorem qu5:(qeh F).ok pp:=
 oF (z8y F) (fn:=Tryz.f194) aN
def zd5:List ToldF:=[qu4 F,qeh F]
theorem qu6:q01 pp (zd5 F):=⟨zpb F,qu5 F,trivial⟩
def zd6:TL:=⟨41,[.segs [.hole (.L 64)] (.slot 4) true,.ptr 4 1 64,.segs [.hole (.L 64)] (.slot 6) true,.ptr 6 2 64,.segs [.hole (.L 16)] (.slot 11) true,.ptr 11 3 16,.slot 29 (.L 16),.slot 30 .I],[.segs [.hole (.L 64)] (.slot 4) true,.ptr 4 1 64,.segs [.hole (.L 64)] (.slot 6) true,.ptr 6 2 64],0,fun k=>u5 (q3n F k),fun k=>u5 (q5x F (q3n F k))⟩
theorem zd7:(zd6 F).ok pp Tryz.f220 F:=
 oL (qu6 F) aN
def qpw:ToldF:=⟨220,2,[.row .u8 1 (.slot 0) false,.slot 1 (.bool)],[.ty (.L 64),.ty .I],u2 (q78 F)⟩
theorem zjf:(qpw F).ok pp:=
 oF (qu6 F) (fn:=Tryz.f220) (aM (zd7 F) aN)
def qpx:ToldF:=⟨219,2,[.slot 0 (.L 64),.slot 1 .I],[.ty (.L 64)],u2 (qcq F)⟩
theorem zjg:(qpx F).ok pp:=
 oF (zur F) (fn:=Tryz.f219) aN
def zji:TL:=⟨23,[.slot 1 .I,.segs [.hole (.L 64)] (.slot 4) true,.ptr 4 1 64,.segs [.hole (.L 64)] (.slot 8) true,.ptr 8 2 64,.slot 11 (.L 16),.slot 12 .I],[.segs [.hole (.L 64)] (.slot 4) true,.ptr 4 1 64,.segs [.hole (.L 64)] (.slot 8) true,.ptr 8 2 64],0,fun k=>u5 (q8l F k),fun k=>u5 (qdw F (q8l F k))⟩
theorem zjj:(zji F).ok pp Tryz.f217 F:=
 oL (zur F) aN
def qi8:ToldF:=⟨217,4,[.slot 0 (.L 64),.slot 1 .I,.slot 2 (.L 16),.slot 3 .I],[.ty (.L 64)],u4 (qfi F)⟩
theorem z20:(qi8 F).ok pp:=
 oF (zur F) (fn:=Tryz.f217) (aM (zjj F) aN)
def z3w:ToldF:=⟨150,1,[.slot 0 .I],[.ty .I],u1 (jce F)⟩
theorem j1h:(z3w F).ok pp:=
 oF (zur F) (fn:=Tryz.f150) aN
def zv8:List ToldF:=[qi7 F]
theorem zv9:q01 pp (zv8 F):=⟨z1z F,trivial⟩
def z21:ToldF:=⟨253,2,[.row .u8 1 (.slot 0) false,.slot 1 .I],[.ty (.int .u64)],u2 (j10 F)⟩
theorem j1i:(z21 F).ok pp:=
 oF (zv9 F) (fn:=Tryz.f253) aN
def zva:List ToldF:=[qee F,z21 F]
theorem z5u:q01 pp (zva F):=⟨qsb F,j1i F,trivial⟩
def zvb:TX:=⟨33,[.row .u8 1 (.slot 0) false,.slot 1 .I,.slot 8 .I,.slot 9 (.int .u64),.slot 15 .I,.slot 16 .I],[.const 6 (.int .u64 (some 0) 0),.slot 7 .I],[.slot 8 .I,.slot 9 (.int .u64)],.ret,0,fun k=>u6 (qmi F k),fun k=>u6 (z55 F (qmi F k))⟩
theorem zvc:(zvb F).ok pp Tryz.f229 F:=
 oX (z5u F) aN (eR rfl)
def qbh:ToldF:=⟨229,3,[.row .u8 1 (.slot 0) false,.slot 1 .I,.slot 2 .I],[.ty (.int .u64),.ty .I],u3 (qwr F)⟩
theorem qn7:(qbh F).ok pp:=
 oF (z5u F) (fn:=Tryz.f229) (aY (zvc F) aN)
def zda:List ToldF:=[qbh F]
theorem zdb:q01 pp (zda F):=⟨qn7 F,trivial⟩
def qpy:ToldF:=⟨256,3,[.slot 0 .I,.slot 1 .I,.row .u8 1 (.cell (.slot 2) 0) false,.segs [.sl 1 1 .whole] (.slot 2) false,.ptr 2 2 1],[.ty .I],u3 (qhh F)⟩
theorem zjk:(qpy F).ok pp:=
 oF (zdb F) (fn:=Tryz.f256) aN
def zvd:List ToldF:=[z3w F,qpy F]
theorem z5v:q01 pp (zvd F):=⟨j1h F,zjk F,trivial⟩
def zve:TL:=⟨32,[.segs [.hole (.L 16)] (.slot 5) true,.ptr 5 1 16,.segs [.hole (.L 16)] (.slot 7) true,.ptr 7 2 16,.row .u8 1 (.cell (.cap (.slot 8) 0) 0) false,.segs [.sl 3 1 .whole] (.cap (.slot 8) 0) true,.fn 8 256 [.ptr 4 1],.slot 15 .I],[.segs [.hole (.L 16)] (.slot 5) true,.ptr 5 1 16,.segs [.hole (.L 16)] (.slot 7) true,.ptr 7 2 16,.row .u8 1 (.cell (.cap (.slot 8) 0) 0) false,.segs [.sl 3 1 .whole] (.cap (.slot 8) 0) true,.fn 8 256 [.ptr 4 1]],0,fun k=>u4 (qmx F k),fun k=>u4 (z5i F (qmx F k))⟩
theorem zvf:(zve F).ok pp Tryz.f238 F:=
 oL (z5v F) aN
def z22:ToldF:=⟨238,1,[.row .u8 1 (.slot 0) false],[.ty .I,.ty .I,.ty .I,.ty (.L 16),.ty .I],u1 (j14 F)⟩
theorem j1j:(z22 F).ok pp:=
 oF (z5v F) (fn:=Tryz.f238) (aM (zvf F) aN)
def z23:ToldF:=⟨71,1,[.slot 0 .I],[.ty (.L 8)],u1 (j16 F)⟩
theorem j1k:(z23 F).ok pp:=
 oF (zur F) (fn:=Tryz.f71) aN
def q2g:ToldF:=⟨81,2,[.slot 0 .I,.slot 1 .I],[.ty .I],u2 (q27 F)⟩
theorem q4s:(q2g F).ok pp:=
 oF (zur F) (fn:=Tryz.f81) aN
def zvi:List ToldF:=[q2g F]
theorem zvj:q01 pp (zvi F):=⟨q4s F,trivial⟩
def qoi:ToldF:=⟨73,4,[.slot 0 .I,.slot 1 .I,.slot 2 .I,.slot 3 (.bool)],[.ty .I],u4 (zil F)⟩
theorem zc0:(qoi F).ok pp:=
 oF (zvj F) (fn:=Tryz.f73) aN
def zpc:List ToldF:=[z22 F,z23 F,qoi F]
theorem z24:q01 pp (zpc F):=⟨j1j F,j1k F,zc0 F,trivial⟩
def zpd:TL:=⟨44,[.slot 1 (.bool),.segs [.hole (.L 16)] (.slot 4) true,.ptr 4 1 16,.slot 6 .I,.slot 7 .I,.segs [.hole (.L 16)] (.slot 9) true,.ptr 9 2 16,.segs [.hole (.L 8)] (.slot 11) true,.ptr 11 3 8,.slot 28 (.L 16),.slot 29 .I],[.segs [.hole (.L 16)] (.slot 4) true,.ptr 4 1 16,.segs [.hole (.L 16)] (.slot 9) true,.ptr 9 2 16],0,fun k=>u8 (qjo F k),fun k=>u8 (z1q F (qjo F k))⟩
theorem zpe:(zpd F).ok pp Tryz.f214 F:=
 oL (z24 F) aN
def qlg:ToldF:=⟨214,2,[.row .u8 1 (.slot 0) false,.slot 1 (.bool)],[.ty (.L 16),.ty .I],u2 (z8i F)⟩
theorem z5w:(qlg F).ok pp:=
 oF (z24 F) (fn:=Tryz.f214) (aM (zpe F) aN)
def zdc:List ToldF:=[qgw F]
theorem zdd:q01 pp (zdc F):=⟨qxv F,trivial⟩
def qpz:ToldF:=⟨239,1,[.row .u8 1 (.slot 0) false],[.ty .I,.ty .I,.ty (.L 16),.ty .I],u1 (qmj F)⟩
theorem zjn:(qpz F).ok pp:=
 oF (zdd F) (fn:=Tryz.f239) aN
def zjo:List ToldF:=[qgx F]
theorem qxy:q01 pp (zjo F):=⟨qxw F,trivial⟩
def zjp:TL:=⟨31,[.slot 0 .I,.slot 1 .I,.segs [.hole (.L 8)] (.slot 4) true,.ptr 4 1 8,.segs [.hole (.L 8)] (.slot 5) true,.ptr 5 2 8,.slot 6 .I,.slot 16 .I,.slot 17 .I],[.segs [.hole (.L 8)] (.slot 4) true,.ptr 4 1 8,.segs [.hole (.L 8)] (.slot 5) true,.ptr 5 2 8],0,fun k=>u7 (q6h F k),fun k=>u7 (qks F (q6h F k))⟩
theorem zjq:(zjp F).ok pp Tryz.f131 F:=
 oL (qxy F) aN
def qi9:ToldF:=⟨131,2,[.slot 0 .I,.slot 1 .I],[.ty (.L 8)],u2 (qfe F)⟩
theorem z25:(qi9 F).ok pp:=
 oF (qxy F) (fn:=Tryz.f131) (aM (zjq F) aN)
def z8z:List ToldF:=[qpz F,qi9 F]
theorem qq0:q01 pp (z8z F):=⟨zjn F,z25 F,trivial⟩
def z90:TL:=⟨37,[.segs [.hole (.L 16)] (.slot 2) true,.ptr 2 1 16,.segs [.hole (.L 16)] (.slot 6) true,.ptr 6 2 16,.segs [.hole (.L 8)] (.slot 8) true,.ptr 8 3 8,.slot 25 (.L 16),.slot 26 .I],[.segs [.hole (.L 16)] (.slot 2) true,.ptr 2 1 16,.segs [.hole (.L 16)] (.slot 6) true,.ptr 6 2 16],0,fun k=>u5 (q2u F k),fun k=>u5 (q4w F (q2u F k))⟩
theorem z91:(z90 F).ok pp Tryz.f215 F:=
 oL (qq0 F) aN
def qn8:ToldF:=⟨215,1,[.row .u8 1 (.slot 0) false],[.ty (.L 16),.ty .I],u1 (qj5 F)⟩
theorem zde:(qn8 F).ok pp:=
 oF (qq0 F) (fn:=Tryz.f215) (aM (z91 F) aN)
def z0t:List ToldF:=[qlg F,qn8 F]
theorem z0u:q01 pp (z0t F):=⟨z5w F,zde F,trivial⟩
def qhn:ToldF:=⟨213,2,[.row .u8 1 (.slot 0) false,.segs [.J,.J,.hole (.bool)] (.slot 1) false,.ptr 1 2 3],[.ty (.L 16),.ty .I],u4 (qi3 F)⟩
theorem z3x:(qhn F).ok pp:=
 oF (z0u F) (fn:=Tryz.f213) aN
def z0v:List ToldF:=[qi8 F,qhn F]
theorem z0w:q01 pp (z0v F):=⟨z20 F,z3x F,trivial⟩
def qho:ToldF:=⟨216,4,[.slot 0 (.L 64),.slot 1 .I,.row .u8 1 (.slot 2) false,.segs [.J,.J,.hole (.bool)] (.cap (.cell (.slot 3) 0) 0) false,.segs [.fnp 213 [(2,3)]] (.slot 3) false,.ptr 3 3 1],[.ty (.L 64)],u6 (q20 F)⟩
theorem z3y:(qho F).ok pp:=
 oF (z0w F) (fn:=Tryz.f216) aN
def zdg:TL:=⟨17,[.slot 0 (.bool),.segs [.hole (.L 64)] (.slot 2) true,.ptr 2 1 64,.segs [.hole (.L 64)] (.slot 3) true,.ptr 3 2 64,.slot 5 .I],[.segs [.hole (.L 64)] (.slot 2) true,.ptr 2 1 64,.segs [.hole (.L 64)] (.slot 3) true,.ptr 3 2 64],0,fun k=>u4 (qdx F k),fun k=>u4 (qtx F (qdx F k))⟩
theorem zdh:(zdg F).ok pp Tryz.f221 F:=
 oL (zur F) aN
def qq1:ToldF:=⟨221,1,[.slot 0 (.bool)],[.ty (.L 64)],u1 (q9q F)⟩
theorem zjr:(qq1 F).ok pp:=
 oF (zur F) (fn:=Tryz.f221) (aM (zdh F) aN)
def q89:ToldF:=⟨259,1,[.slot 0 (.int .u8)],[.ty .I],u1 (q45 F)⟩
theorem qlh:(q89 F).ok pp:=
 oF (zur F) (fn:=Tryz.f259) aN
def zdi:List ToldF:=[q89 F]
theorem zdj:q01 pp (zdi F):=⟨qlh F,trivial⟩
def qq2:ToldF:=⟨242,1,[.row .u8 1 (.slot 0) false],[.ty .I],u1 (qmr F)⟩
theorem zjs:(qq2 F).ok pp:=
 oF (zdj F) (fn:=Tryz.f242) aN
def qn9:ToldF:=⟨260,0,[],[.row .i64 10],u0 (qrz F)⟩
theorem zdk:(qn9 F).ok pp:=
 oF (zur F) (fn:=Tryz.f260) aN
def z3z:List ToldF:=[qsi F]
theorem z40:q01 pp (z3z F):=⟨zja F,trivial⟩
def qb6:ToldF:=⟨261,3,[.slot 0 .I,.row .u8 1 (.cell (.slot 1) 0) false,.segs [.sl 1 1 .whole] (.slot 1) false,.ptr 1 2 1,.segs [.J] (.slot 2) true (some 2),.ptr 2 3 1],[.ty .I,.psegs 2 [.J]],u3 (q17 F)⟩
theorem qna:(qb6 F).ok pp:=
 oF (z40 F) (fn:=Tryz.f261) aN
def qei:ToldF:=⟨262,2,[.slot 0 (.agg [.I,.I,.I,.I,.I,.I,.I,.I,.I,.I]),.slot 1 .I],[.ty .I],u2 (q7l F)⟩
theorem qu8:(qei F).ok pp:=
 oF (zur F) (fn:=Tryz.f262) aN
def qey:List ToldF:=[q2q F,qb6 F,qei F]
theorem q30:q01 pp (qey F):=⟨q6d F,qna F,qu8 F,trivial⟩
def qez:TL:=⟨97,[.row .i64 4 (.cell (.slot 0) 13) true (some 0),.segs [.J,.J,.J,.J,.J,.J,.J,.J,.J,.J,.J,.J,.J,.sl 1 4 .own,.hole (.L 16),.hole (.L 16)] (.slot 0) false,.ptr 0 2 46,.row .u8 1 (.cell (.cap (.slot 1) 0) 0) false,.segs [.sl 3 1 .whole] (.cap (.slot 1) 0) false,.segs [.J] (.cap (.slot 1) 1) true (some 4),.fn 1 261 [.ptr 4 1,.ptr 5 1],.slot 4 .I,.slot 5 .I,.slot 6 .I,.slot 24 .I,.slot 25 .I,.slot 55 (.L 4),.slot 56 .I],[.row .i64 4 (.cell (.slot 0) 13) true (some 0),.segs [.J,.J,.J,.J,.J,.J,.J,.J,.J,.J,.J,.J,.J,.sl 1 4 .own,.hole (.L 16),.hole (.L 16)] (.slot 0) false,.ptr 0 2 46,.row .u8 1 (.cell (.cap (.slot 1) 0) 0) false,.segs [.sl 3 1 .whole] (.cap (.slot 1) 0) false,.segs [.J] (.cap (.slot 1) 1) true (some 4),.fn 1 261 [.ptr 4 1,.ptr 5 1],.slot 4 .I,.slot 5 .I,.slot 6 .I,.slot 24 .I,.slot 25 .I],2,fun k=>u25 (q05 F k),fun k=>u25 (q1l F (q05 F k))⟩
theorem q6o:(qez F).ok pp Tryz.f263 F:=
 oL (q30 F) aN
def qf0:TL:=⟨97,[.row .i64 4 (.cell (.slot 0) 13) true (some 0),.segs [.J,.J,.J,.J,.J,.J,.J,.J,.J,.J,.J,.J,.J,.sl 1 4 .own,.hole (.L 16),.hole (.L 16)] (.slot 0) false,.ptr 0 2 46,.row .u8 1 (.cell (.cap (.slot 1) 0) 0) false,.segs [.sl 3 1 .whole] (.cap (.slot 1) 0) false,.segs [.J] (.cap (.slot 1) 1) true (some 4),.fn 1 261 [.ptr 4 1,.ptr 5 1],.slot 4 .I,.slot 5 .I,.slot 24 .I,.slot 25 .I],[.row .i64 4 (.cell (.slot 0) 13) true (some 0),.segs [.J,.J,.J,.J,.J,.J,.J,.J,.J,.J,.J,.J,.J,.sl 1 4 .own,.hole (.L 16),.hole (.L 16)] (.slot 0) false,.ptr 0 2 46,.row .u8 1 (.cell (.cap (.slot 1) 0) 0) false,.segs [.sl 3 1 .whole] (.cap (.slot 1) 0) false,.segs [.J] (.cap (.slot 1) 1) true (some 4),.fn 1 261 [.ptr 4 1,.ptr 5 1]],0,fun k=>u22 (q09 F k),fun k=>u22 (q1m F (q09 F k))⟩
theorem qf1:(qf0 F).ok pp Tryz.f263 F:=
 oL (q30 F) (aM (q6o F) aN)
def q6e:ToldF:=⟨263,2,[.row .i64 4 (.cell (.slot 0) 13) true (some 0),.segs [.J,.J,.J,.J,.J,.J,.J,.J,.J,.J,.J,.J,.J,.sl 1 4 .own,.hole (.L 16),.hole (.L 16)] (.slot 0) false,.ptr 0 2 46,.row .u8 1 (.cell (.cap (.slot 1) 0) 0) false,.segs [.sl 3 1 .whole] (.cap (.slot 1) 0) false,.segs [.J] (.cap (.slot 1) 1) true (some 4),.fn 1 261 [.ptr 4 1,.ptr 5 1]],[.prow 0 .i64,.psegs 4 [.J]],u18 (q2k F)⟩
theorem qfn:(q6e F).ok pp:=
 oF (q30 F) (fn:=Tryz.f263) (aM (q6o F) (aM (qf1 F) aN))
def qit:ToldF:=⟨280,1,[.slot 0 (.agg [.I,.I])],[.row .u8 1],u1 (qww F)⟩
theorem z5x:(qit F).ok pp:=
 oF (zur F) (fn:=Tryz.f280) aN
def qli:ToldF:=⟨276,2,[.slot 0 .I,.slot 1 .I],[.ty (.bool)],u2 (z05 F)⟩
theorem z5y:(qli F).ok pp:=
 oF (zur F) (fn:=Tryz.f276) aN
def z5z:List ToldF:=[qit F,qli F]
theorem z60:q01 pp (z5z F):=⟨z5x F,z5y F,trivial⟩
def qlj:ToldF:=⟨275,3,[.slot 0 .I,.slot 1 .I,.slot 2 .I],[.ty .I],u3 (qg5 F)⟩
theorem z96:(qlj F).ok pp:=
 oF (z60 F) (fn:=Tryz.f275) aN
def qq3:List ToldF:=[qlj F]
theorem qcv:q01 pp (qq3 F):=⟨z96 F,trivial⟩
def qq4:TL:=⟨35,[.row .i64 4 (.cell (.slot 0) 13) false,.segs [.J,.J,.J,.J,.J,.J,.J,.J,.J,.J,.J,.J,.J,.sl 1 4 .whole,.hole (.L 16),.hole (.L 16)] (.slot 0) false,.ptr 0 2 46,.slot 1 .I,.slot 5 (.bool),.slot 6 .I],[.slot 5 (.bool)],0,fun k=>u19 (q1a F k),fun k=>u19 (q46 F (q1a F k))⟩
theorem qq5:(qq4 F).ok pp Tryz.f264 F:=
 oL (qcv F) aN
def qbi:ToldF:=⟨264,2,[.row .i64 4 (.cell (.slot 0) 13) false,.segs [.J,.J,.J,.J,.J,.J,.J,.J,.J,.J,.J,.J,.J,.sl 1 4 .whole,.hole (.L 16),.hole (.L 16)] (.slot 0) false,.ptr 0 2 46,.slot 1 .I],[.ty .I],u17 (q6s F)⟩
theorem qsj:(qbi F).ok pp:=
 oF (qcv F) (fn:=Tryz.f264) (aM (qq5 F) aN)
def zdl:List ToldF:=[qn9 F,qb6 F,qei F,q6e F,qbi F]
theorem q8a:q01 pp (zdl F):=⟨zdk F,qna F,qu8 F,qfn F,qsj F,trivial⟩
def zdm:TL:=⟨105,[.segs [.const (.int .i64 (some 0) 0),.const (.int .i64 (some 0) 0),.const (.int .i64 (some 0) 0),.const (.int .i64 (some 0) 0),.const (.int .i64 (some 0) 0),.const (.int .i64 (some 0) 0),.const (.int .i64 (some 0) 0),.const (.int .i64 (some 0) 0),.const (.int .i64 (some 0) 0),.const (.int .i64 (some 0) 0),.const (.int .i64 (some 0) 0),.const (.int .i64 (some 0) 0),.const (.int .i64 (some 0) 0),.const .nils,.hole (.L 16),.hole (.L 16)] (.slot 4) true,.ptr 4 1 46,.row .i64 4 (.cell (.slot 5) 13) true,.segs [.J,.J,.J,.J,.J,.J,.J,.J,.J,.J,.J,.J,.J,.sl 2 4 .own,.hole (.L 16),.hole (.L 16)] (.slot 5) true,.ptr 5 3 46,.row .u8 1 (.cell (.cap (.slot 7) 0) 0) false,.segs [.sl 4 1 .whole] (.cap (.slot 7) 0) true,.segs [.J] (.cap (.slot 7) 1) true,.fn 7 261 [.ptr 5 1,.ptr 6 1],.slot 8 .I,.slot 44 .I,.slot 49 .I,.slot 50 .I],[.segs [.const (.int .i64 (some 0) 0),.const (.int .i64 (some 0) 0),.const (.int .i64 (some 0) 0),.const (.int .i64 (some 0) 0),.const (.int .i64 (some 0) 0),.const (.int .i64 (some 0) 0),.const (.int .i64 (some 0) 0),.const (.int .i64 (some 0) 0),.const (.int .i64 (some 0) 0),.const (.int .i64 (some 0) 0),.const (.int .i64 (some 0) 0),.const (.int .i64 (some 0) 0),.const (.int .i64 (some 0) 0),.const .nils,.hole (.L 16),.hole (.L 16)] (.slot 4) true,.ptr 4 1 46,.row .i64 4 (.cell (.slot 5) 13) true,.segs [.J,.J,.J,.J,.J,.J,.J,.J,.J,.J,.J,.J,.J,.sl 2 4 .own,.hole (.L 16),.hole (.L 16)] (.slot 5) true,.ptr 5 3 46,.row .u8 1 (.cell (.cap (.slot 7) 0) 0) false,.segs [.sl 4 1 .whole] (.cap (.slot 7) 0) true,.segs [.J] (.cap (.slot 7) 1) true,.fn 7 261 [.ptr 5 1,.ptr 6 1],.slot 44 .I],2,fun k=>u24 (q53 F k),fun k=>u24 (qbr F (q53 F k))⟩
theorem qu9:(zdm F).ok pp Tryz.f243 F:=
 oL (q8a F) aN
def zdn:TL:=⟨105,[.segs [.const (.int .i64 (some 0) 0),.const (.int .i64 (some 0) 0),.const (.int .i64 (some 0) 0),.const (.int .i64 (some 0) 0),.const (.int .i64 (some 0) 0),.const (.int .i64 (some 0) 0),.const (.int .i64 (some 0) 0),.const (.int .i64 (some 0) 0),.const (.int .i64 (some 0) 0),.const (.int .i64 (some 0) 0),.const (.int .i64 (some 0) 0),.const (.int .i64 (some 0) 0),.const (.int .i64 (some 0) 0),.const .nils,.hole (.L 16),.hole (.L 16)] (.slot 4) true,.ptr 4 1 46,.row .i64 4 (.cell (.slot 5) 13) true,.segs [.J,.J,.J,.J,.J,.J,.J,.J,.J,.J,.J,.J,.J,.sl 2 4 .own,.hole (.L 16),.hole (.L 16)] (.slot 5) true,.ptr 5 3 46,.row .u8 1 (.cell (.cap (.slot 7) 0) 0) false,.segs [.sl 4 1 .whole] (.cap (.slot 7) 0) true,.segs [.J] (.cap (.slot 7) 1) true,.fn 7 261 [.ptr 5 1,.ptr 6 1],.slot 44 .I],[.segs [.const (.int .i64 (some 0) 0),.const (.int .i64 (some 0) 0),.const (.int .i64 (some 0) 0),.const (.int .i64 (some 0) 0),.const (.int .i64 (some 0) 0),.const (.int .i64 (some 0) 0),.const (.int .i64 (some 0) 0),.const (.int .i64 (some 0) 0),.const (.int .i64 (some 0) 0),.const (.int .i64 (some 0) 0),.const (.int .i64 (some 0) 0),.const (.int .i64 (some 0) 0),.const (.int .i64 (some 0) 0),.const .nils,.hole (.L 16),.hole (.L 16)] (.slot 4) true,.ptr 4 1 46,.row .i64 4 (.cell (.slot 5) 13) true,.segs [.J,.J,.J,.J,.J,.J,.J,.J,.J,.J,.J,.J,.J,.sl 2 4 .own,.hole (.L 16),.hole (.L 16)] (.slot 5) true,.ptr 5 3 46,.row .u8 1 (.cell (.cap (.slot 7) 0) 0) false,.segs [.sl 4 1 .whole] (.cap (.slot 7) 0) true,.segs [.J] (.cap (.slot 7) 1) true,.fn 7 261 [.ptr 5 1,.ptr 6 1]],0,fun k=>u21 (q2o F k),fun k=>u21 (qbs F (q2o F k))⟩
theorem zdo:(zdn F).ok pp Tryz.f243 F:=
 oL (q8a F) (aM (qu9 F) aN)
def zdp:TL:=⟨105,[.segs [.const (.int .i64 (some 0) 0),.const (.int .i64 (some 0) 0),.const (.int .i64 (some 0) 0),.const (.int .i64 (some 0) 0),.const (.int .i64 (some 0) 0),.const (.int .i64 (some 0) 0),.const (.int .i64 (some 0) 0),.const (.int .i64 (some 0) 0),.const (.int .i64 (some 0) 0),.const (.int .i64 (some 0) 0),.const (.int .i64 (some 0) 0),.const (.int .i64 (some 0) 0),.const (.int .i64 (some 0) 0),.const .nils,.hole (.L 16),.hole (.L 16)] (.slot 4) true,.ptr 4 1 46,.row .i64 4 (.cell (.slot 5) 13) true,.segs [.J,.J,.J,.J,.J,.J,.J,.J,.J,.J,.J,.J,.J,.sl 2 4 .own,.hole (.L 16),.hole (.L 16)] (.slot 5) true,.ptr 5 3 46,.row .u8 1 (.cell (.cap (.slot 7) 0) 0) false,.segs [.sl 4 1 .whole] (.cap (.slot 7) 0) true,.segs [.J] (.cap (.slot 7) 1) true,.fn 7 261 [.ptr 5 1,.ptr 6 1],.slot 69 .I],[.segs [.const (.int .i64 (some 0) 0),.const (.int .i64 (some 0) 0),.const (.int .i64 (some 0) 0),.const (.int .i64 (some 0) 0),.const (.int .i64 (some 0) 0),.const (.int .i64 (some 0) 0),.const (.int .i64 (some 0) 0),.const (.int .i64 (some 0) 0),.const (.int .i64 (some 0) 0),.const (.int .i64 (some 0) 0),.const (.int .i64 (some 0) 0),.const (.int .i64 (some 0) 0),.const (.int .i64 (some 0) 0),.const .nils,.hole (.L 16),.hole (.L 16)] (.slot 4) true,.ptr 4 1 46,.row .i64 4 (.cell (.slot 5) 13) true,.segs [.J,.J,.J,.J,.J,.J,.J,.J,.J,.J,.J,.J,.J,.sl 2 4 .own,.hole (.L 16),.hole (.L 16)] (.slot 5) true,.ptr 5 3 46,.row .u8 1 (.cell (.cap (.slot 7) 0) 0) false,.segs [.sl 4 1 .whole] (.cap (.slot 7) 0) true,.segs [.J] (.cap (.slot 7) 1) true,.fn 7 261 [.ptr 5 1,.ptr 6 1]],4,fun k=>u21 (q54 F k),fun k=>u21 (qbt F (q54 F k))⟩
theorem zdq:(zdp F).ok pp Tryz.f243 F:=
 oL (q8a F) aN
def zdr:TL:=⟨105,[.segs [.const (.int .i64 (some 0) 0),.const (.int .i64 (some 0) 0),.const (.int .i64 (some 0) 0),.const (.int .i64 (some 0) 0),.const (.int .i64 (some 0) 0),.const (.int .i64 (some 0) 0),.const (.int .i64 (some 0) 0),.const (.int .i64 (some 0) 0),.const (.int .i64 (some 0) 0),.const (.int .i64 (some 0) 0),.const (.int .i64 (some 0) 0),.const (.int .i64 (some 0) 0),.const (.int .i64 (some 0) 0),.const .nils,.hole (.L 16),.hole (.L 16)] (.slot 4) true,.ptr 4 1 46,.row .i64 4 (.cell (.slot 5) 13) true,.segs [.J,.J,.J,.J,.J,.J,.J,.J,.J,.J,.J,.J,.J,.sl 2 4 .own,.hole (.L 16),.hole (.L 16)] (.slot 5) true,.ptr 5 3 46,.row .u8 1 (.cell (.cap (.slot 7) 0) 0) false,.segs [.sl 4 1 .whole] (.cap (.slot 7) 0) true,.segs [.J] (.cap (.slot 7) 1) true,.fn 7 261 [.ptr 5 1,.ptr 6 1],.slot 88 .I],[.segs [.const (.int .i64 (some 0) 0),.const (.int .i64 (some 0) 0),.const (.int .i64 (some 0) 0),.const (.int .i64 (some 0) 0),.const (.int .i64 (some 0) 0),.const (.int .i64 (some 0) 0),.const (.int .i64 (some 0) 0),.const (.int .i64 (some 0) 0),.const (.int .i64 (some 0) 0),.const (.int .i64 (some 0) 0),.const (.int .i64 (some 0) 0),.const (.int .i64 (some 0) 0),.const (.int .i64 (some 0) 0),.const .nils,.hole (.L 16),.hole (.L 16)] (.slot 4) true,.ptr 4 1 46,.row .i64 4 (.cell (.slot 5) 13) true,.segs [.J,.J,.J,.J,.J,.J,.J,.J,.J,.J,.J,.J,.J,.sl 2 4 .own,.hole (.L 16),.hole (.L 16)] (.slot 5) true,.ptr 5 3 46],6,fun k=>u21 (q55 F k),fun k=>u21 (qbu F (q55 F k))⟩
theorem zds:(zdr F).ok pp Tryz.f243 F:=
 oL (q8a F) aN
def qq6:ToldF:=⟨243,2,[.row .u8 1 (.slot 0) false,.slot 1 .I],[.agg [.J,.J,.J,.J,.J,.J,.J,.J,.J,.J,.J,.J,.J,.row .i64 4 true,.hole (.L 16),.hole (.L 16)]],u2 (qms F)⟩
theorem zjt:(qq6 F).ok pp:=
 oF (q8a F) (fn:=Tryz.f243) (aM (qu9 F) (aM (zdo F) (aM (zdq F) (aM (zds F) aN))))
def qnb:ToldF:=⟨277,0,[],[.ty (.is .u32 64)],u0 (z57 F)⟩
theorem zdt:(qnb F).ok pp:=
 oF (zur F) (fn:=Tryz.f277) aN
def qua:ToldF:=⟨278,0,[],[.ty (.is .u16 64)],u0 (zid F)⟩
theorem zph:(qua F).ok pp:=
 oF (zur F) (fn:=Tryz.f278) aN
def zdu:List ToldF:=[qli F,qnb F,qua F]
theorem zdv:q01 pp (zdu F):=⟨z5y F,zdt F,zph F,trivial⟩
def qq7:ToldF:=⟨265,3,[.slot 0 .I,.slot 1 .I,.slot 2 .I],[.ty .I],u3 (qml F)⟩
theorem zjw:(qq7 F).ok pp:=
 oF (zdv F) (fn:=Tryz.f265) aN
def qiu:ToldF:=⟨254,1,[.slot 0 .I],[.row .i64 1],u1 (qdh F)⟩
theorem z61:(qiu F).ok pp:=
 oF (zur F) (fn:=Tryz.f254) aN
def zjx:List ToldF:=[qgx F,qiu F]
theorem zjy:q01 pp (zjx F):=⟨qxw F,z61 F,trivial⟩
def qia:ToldF:=⟨235,4,[.slot 0 .I,.slot 1 .I,.slot 2 .I,.slot 3 .I],[.ty .I],u4 (q3a F)⟩
theorem z26:(qia F).ok pp:=
 oF (zjy F) (fn:=Tryz.f235) aN
def qq8:List ToldF:=[qq7 F,qia F]
theorem qcw:q01 pp (qq8 F):=⟨zjw F,z26 F,trivial⟩
def qq9:TL:=⟨126,[.row .i64 4 (.cell (.slot 0) 13) false,.segs [.J,.J,.J,.J,.J,.J,.J,.J,.J,.J,.J,.J,.J,.sl 1 4 .whole,.hole (.L 16),.hole (.L 16)] (.slot 0) false,.ptr 0 2 46,.segs [.hole (.L 4)] (.slot 4) true,.ptr 4 3 4,.segs [.hole (.L 4)] (.slot 6) true,.ptr 6 4 4,.segs [.hole (.L 4)] (.slot 7) true,.ptr 7 5 4,.slot 8 .I,.slot 9 .I,.slot 10 .I,.slot 11 .I,.segs [.hole (.L 4)] (.slot 12) true,.ptr 12 6 4,.slot 81 .I],[.row .i64 4 (.cell (.slot 0) 13) false,.segs [.J,.J,.J,.J,.J,.J,.J,.J,.J,.J,.J,.J,.J,.sl 1 4 .whole,.hole (.L 16),.hole (.L 16)] (.slot 0) false,.ptr 0 2 46,.segs [.hole (.L 4)] (.slot 4) true,.ptr 4 3 4,.segs [.hole (.L 4)] (.slot 6) true,.ptr 6 4 4,.segs [.hole (.L 4)] (.slot 7) true,.ptr 7 5 4,.slot 10 .I,.slot 11 .I,.segs [.hole (.L 4)] (.slot 12) true,.ptr 12 6 4],0,fun k=>u25 (q0l F k),fun k=>u25 (q47 F (q0l F k))⟩
theorem qqa:(qq9 F).ok pp Tryz.f244 F:=
 oL (qcw F) aN
def qbj:ToldF:=⟨244,2,[.row .i64 4 (.cell (.slot 0) 13) false,.segs [.J,.J,.J,.J,.J,.J,.J,.J,.J,.J,.J,.J,.J,.sl 1 4 .whole,.hole (.L 16),.hole (.L 16)] (.slot 0) false,.ptr 0 2 46,.slot 1 .I],[.ty (.L 4)],u17 (q6t F)⟩
theorem qsk:(qbj F).ok pp:=
 oF (qcw F) (fn:=Tryz.f244) (aM (qqa F) aN)
def z62:List ToldF:=[qq2 F,qq6 F,qbj F]
theorem qnc:q01 pp (z62 F):=⟨zjs F,zjt F,qsk F,trivial⟩
def z63:TL:=⟨29,[.segs [.hole (.L 64)] (.slot 2) true,.ptr 2 1 64,.segs [.hole (.L 64)] (.slot 4) true,.ptr 4 2 64,.row .i64 4 (.cell (.slot 6) 13) true,.segs [.J,.J,.J,.J,.J,.J,.J,.J,.J,.J,.J,.J,.J,.sl 3 4 .own,.hole (.L 16),.hole (.L 16)] (.slot 6) true,.ptr 6 4 46,.slot 20 .I],[.segs [.hole (.L 64)] (.slot 2) true,.ptr 2 1 64,.segs [.hole (.L 64)] (.slot 4) true,.ptr 4 2 64],0,fun k=>u19 (q3b F k),fun k=>u19 (q99 F (q3b F k))⟩
theorem z64:(z63 F).ok pp Tryz.f222 F:=
 oL (qnc F) aN
def qlk:ToldF:=⟨222,1,[.row .u8 1 (.slot 0) false],[.ty (.L 64),.ty .I],u1 (qbd F)⟩
theorem z99:(qlk F).ok pp:=
 oF (qnc F) (fn:=Tryz.f222) (aM (z64 F) aN)
def z45:List ToldF:=[qbh F]
theorem z46:q01 pp (z45 F):=⟨qn7 F,trivial⟩
def qiv:ToldF:=⟨228,3,[.slot 0 .I,.slot 1 .I,.row .u8 1 (.cell (.slot 2) 0) false,.segs [.sl 1 1 .whole] (.slot 2) false,.ptr 2 2 1],[.ty .I],u3 (q1o F)⟩
theorem z65:(qiv F).ok pp:=
 oF (z46 F) (fn:=Tryz.f228) aN
def qej:ToldF:=⟨165,1,[.slot 0 .I],[.ty .I],u1 (q4g F)⟩
theorem qub:(qej F).ok pp:=
 oF (zur F) (fn:=Tryz.f165) aN
def zdw:List ToldF:=[qiv F,qej F]
theorem qib:q01 pp (zdw F):=⟨z65 F,qub F,trivial⟩
def zdx:TL:=⟨95,[.segs [.const (.bool (some false) false),.const (.bool (some false) false),.hole (.L 3),.hole (.L 3),.hole (.L 2),.hole (.L 16)] (.slot 2) true,.ptr 2 1 26,.segs [.hole (.bool),.hole (.bool),.hole (.L 3),.hole (.L 3),.hole (.L 2),.hole (.L 16)] (.slot 4) true,.ptr 4 2 26,.row .u8 1 (.cell (.cap (.slot 5) 0) 0) false,.segs [.sl 3 1 .whole] (.cap (.slot 5) 0) true,.fn 5 228 [.ptr 4 1],.slot 22 .I],[.segs [.const (.bool (some false) false),.const (.bool (some false) false),.hole (.L 3),.hole (.L 3),.hole (.L 2),.hole (.L 16)] (.slot 2) true,.ptr 2 1 26,.segs [.hole (.bool),.hole (.bool),.hole (.L 3),.hole (.L 3),.hole (.L 2),.hole (.L 16)] (.slot 4) true,.ptr 4 2 26,.row .u8 1 (.cell (.cap (.slot 5) 0) 0) false,.segs [.sl 3 1 .whole] (.cap (.slot 5) 0) true,.fn 5 228 [.ptr 4 1]],0,fun k=>u12 (qdi F k),fun k=>u12 (qtl F (qdi F k))⟩
theorem zdy:(zdx F).ok pp Tryz.f168 F:=
 oL (qib F) aN
def zdz:TL:=⟨95,[.segs [.const (.bool (some false) false),.const (.bool (some false) false),.hole (.L 3),.hole (.L 3),.hole (.L 2),.hole (.L 16)] (.slot 2) true,.ptr 2 1 26,.segs [.hole (.bool),.hole (.bool),.hole (.L 3),.hole (.L 3),.hole (.L 2),.hole (.L 16)] (.slot 4) true,.ptr 4 2 26,.row .u8 1 (.cell (.cap (.slot 5) 0) 0) false,.segs [.sl 3 1 .whole] (.cap (.slot 5) 0) true,.fn 5 228 [.ptr 4 1],.slot 75 .I],[.segs [.const (.bool (some false) false),.const (.bool (some false) false),.hole (.L 3),.hole (.L 3),.hole (.L 2),.hole (.L 16)] (.slot 2) true,.ptr 2 1 26,.segs [.hole (.bool),.hole (.bool),.hole (.L 3),.hole (.L 3),.hole (.L 2),.hole (.L 16)] (.slot 4) true,.ptr 4 2 26],2,fun k=>u12 (qdj F k),fun k=>u12 (qtm F (qdj F k))⟩
theorem ze0:(zdz F).ok pp Tryz.f168 F:=
 oL (qib F) aN
def qb0:ToldF:=⟨168,1,[.row .u8 1 (.slot 0) false],[.ty (.agg [.bool,.bool,.L 3,.L 3,.L 2,.L 16]),.ty .I],u1 (q9j F)⟩
theorem qll:(qb0 F).ok pp:=
 oF (qib F) (fn:=Tryz.f168) (aM (zdy F) (aM (ze0 F) aN))
def ze1:List ToldF:=[q2q F]
theorem quc:q01 pp (ze1 F):=⟨q6d F,trivial⟩
def ze2:TL:=⟨61,[.segs [.hole (.bool),.hole (.bool),.hole (.L 3),.hole (.L 3),.hole (.L 2),.hole (.L 16)] (.slot 1) true,.ptr 1 1 26,.segs [.hole (.L 8)] (.slot 2) true,.ptr 2 2 8,.segs [.hole (.L 8)] (.slot 4) true,.ptr 4 3 8,.slot 5 .I,.slot 13 .I],[.segs [.hole (.L 8)] (.slot 2) true,.ptr 2 1 8,.segs [.hole (.L 8)] (.slot 4) true,.ptr 4 2 8,.slot 5 .I],0,fun k=>u10 (qdk F k),fun k=>u10 (qto F (qdk F k))⟩
theorem ze3:(ze2 F).ok pp Tryz.f156 F:=
 oL (quc F) aN
def qb1:ToldF:=⟨156,1,[.slot 0 (.agg [.bool,.bool,.L 3,.L 3,.L 2,.L 16])],[.ty (.L 8),.ty .I],u1 (qmm F)⟩
theorem qlm:(qb1 F).ok pp:=
 oF (quc F) (fn:=Tryz.f156) (aM (ze3 F) aN)
def qic:ToldF:=⟨152,2,[.slot 0 (.bool),.slot 1 .I],[.ty .I],u2 (z3r F)⟩
theorem z27:(qic F).ok pp:=
 oF (zur F) (fn:=Tryz.f152) aN
def qqb:ToldF:=⟨79,1,[.slot 0 .I],[.ty (.L 4)],u1 (zbr F)⟩
theorem zk1:(qqb F).ok pp:=
 oF (zur F) (fn:=Tryz.f79) aN
def ze6:List ToldF:=[q2g F,qb1 F,qic F,qqb F]
theorem qid:q01 pp (ze6 F):=⟨q4s F,qlm F,z27 F,zk1 F,trivial⟩
def ze7:TL:=⟨55,[.segs [.hole (.bool),.hole (.bool),.hole (.L 3),.hole (.L 3),.hole (.L 2),.hole (.L 16)] (.slot 1) true,.ptr 1 1 26,.segs [.hole (.L 64)] (.slot 2) true,.ptr 2 2 64,.segs [.hole (.L 8)] (.slot 3) true,.ptr 3 3 8,.segs [.hole (.L 64)] (.slot 5) true,.ptr 5 4 64,.slot 6 .I,.slot 7 .I,.slot 8 .I,.slot 16 (.L 16),.slot 17 .I,.slot 30 .I],[.segs [.hole (.bool),.hole (.bool),.hole (.L 3),.hole (.L 3),.hole (.L 2),.hole (.L 16)] (.slot 1) true,.ptr 1 1 26,.segs [.hole (.L 64)] (.slot 2) true,.ptr 2 2 64,.segs [.hole (.L 8)] (.slot 3) true,.ptr 3 3 8,.segs [.hole (.L 64)] (.slot 5) true,.ptr 5 4 64,.slot 16 (.L 16),.slot 17 .I],2,fun k=>u15 (qdl F k),fun k=>u15 (qtp F (qdl F k))⟩
theorem qud:(ze7 F).ok pp Tryz.f245 F:=
 oL (qid F) aN
def ze8:TL:=⟨55,[.segs [.hole (.bool),.hole (.bool),.hole (.L 3),.hole (.L 3),.hole (.L 2),.hole (.L 16)] (.slot 1) true,.ptr 1 1 26,.segs [.hole (.L 64)] (.slot 2) true,.ptr 2 2 64,.segs [.hole (.L 8)] (.slot 3) true,.ptr 3 3 8,.segs [.hole (.L 64)] (.slot 5) true,.ptr 5 4 64,.slot 16 (.L 16),.slot 17 .I],[.segs [.hole (.L 64)] (.slot 2) true,.ptr 2 1 64,.segs [.hole (.L 64)] (.slot 5) true,.ptr 5 2 64],0,fun k=>u11 (qdm F k),fun k=>u11 (qtq F (qdm F k))⟩
theorem ze9:(ze8 F).ok pp Tryz.f245 F:=
 oL (qid F) (aM (qud F) aN)
def qfo:ToldF:=⟨245,1,[.slot 0 (.agg [.bool,.bool,.L 3,.L 3,.L 2,.L 16])],[.ty (.L 64)],u1 (qwz F)⟩
theorem qxz:(qfo F).ok pp:=
 oF (qid F) (fn:=Tryz.f245) (aM (qud F) (aM (ze9 F) aN))
def z9c:List ToldF:=[qb0 F,qfo F]
theorem z9d:q01 pp (z9c F):=⟨qll F,qxz F,trivial⟩
def qnd:ToldF:=⟨223,1,[.row .u8 1 (.slot 0) false],[.ty (.L 64),.ty .I],u1 (z59 F)⟩
theorem zea:(qnd F).ok pp:=
 oF (z9d F) (fn:=Tryz.f223) aN
def zeb:List ToldF:=[qoh F,q5d F,qsc F]
theorem que:q01 pp (zeb F):=⟨zby F,qbf F,zit F,trivial⟩
def zec:TL:=⟨52,[.slot 1 .I,.slot 2 .I,.slot 3 (.int .u64),.row .u8 1 (.slot 11) true,.slot 24 .I,.slot 25 .I],[.row .u8 1 (.slot 11) true],0,fun k=>u6 (qdf F k),fun k=>u6 (qtk F (qdf F k))⟩
theorem zed:(zec F).ok pp Tryz.f151 F:=
 oL (que F) aN
def q50:ToldF:=⟨151,4,[.row .u8 1 (.slot 0) false,.slot 1 .I,.slot 2 .I,.slot 3 (.int .u64)],[.row .u8 1,.ty .I],u4 (q9e F)⟩
theorem qa3:(q50 F).ok pp:=
 oF (que F) (fn:=Tryz.f151) (aM (zed F) aN)
def z0x:List ToldF:=[qbh F]
theorem qiw:q01 pp (z0x F):=⟨qn7 F,trivial⟩
def z0y:TL:=⟨30,[.row .u8 1 (.cell (.slot 2) 0) false,.segs [.sl 1 1 .whole,.hole (.bool),.hole (.bool),.hole (.L 3),.hole (.L 3),.hole (.L 2),.hole (.L 16),.hole (.bool)] (.slot 2) true,.ptr 2 2 28,.slot 5 .I,.row .i64 1 (.slot 10) false,.slot 11 .I,.slot 12 .I],[.slot 5 .I],0,fun k=>u12 (q7m F k),fun k=>u12 (qis F (q7m F k))⟩
theorem z0z:(z0y F).ok pp Tryz.f266 F:=
 oL (qiw F) aN
def q3v:ToldF:=⟨266,2,[.row .u8 1 (.part (.slot 0) 0) false,.cells 0 [.sl 1 1 .whole,.hole (.bool),.hole (.bool),.hole (.L 3),.hole (.L 3),.hole (.L 2),.hole (.L 16),.hole (.bool)],.row .i64 1 (.slot 1) false],[.ty .I],u9 (q1d F)⟩
theorem q7u:(q3v F).ok pp:=
 oF (qiw F) (fn:=Tryz.f266) (aM (z0z F) aN)
def zk2:List ToldF:=[qb0 F,q50 F,q3v F]
theorem zk3:q01 pp (zk2 F):=⟨qll F,qa3 F,q7u F,trivial⟩
def quf:ToldF:=⟨246,2,[.row .u8 1 (.slot 0) false,.slot 1 (.bool)],[.agg [.row .u8 1 false,.hole (.bool),.hole (.bool),.hole (.L 3),.hole (.L 3),.hole (.L 2),.hole (.L 16),.hole (.bool)]],u2 (zij F)⟩
theorem zpi:(quf F).ok pp:=
 oF (zk3 F) (fn:=Tryz.f246) aN
def qy0:List ToldF:=[qb1 F]
theorem qy1:q01 pp (qy0 F):=⟨qlm F,trivial⟩
def qf9:ToldF:=⟨247,1,[.row .u8 1 (.part (.slot 0) 0) false,.cells 0 [.sl 1 1 .whole,.hole (.bool),.hole (.bool),.hole (.L 3),.hole (.L 3),.hole (.L 2),.hole (.L 16),.hole (.bool)]],[.ty .I],u8 (qpj F)⟩
theorem z10:(qf9 F).ok pp:=
 oF (qy1 F) (fn:=Tryz.f247) aN
def qsl:List ToldF:=[qb1 F,qic F,qfo F]
theorem qek:q01 pp (qsl F):=⟨qlm F,z27 F,qxz F,trivial⟩
def qsm:TL:=⟨42,[.row .u8 1 (.cell (.slot 1) 0) false,.segs [.sl 1 1 .whole,.hole (.bool),.hole (.bool),.hole (.L 3),.hole (.L 3),.hole (.L 2),.hole (.L 16),.hole (.bool)] (.slot 1) true,.ptr 1 2 28,.segs [.hole (.L 64)] (.slot 2) true,.ptr 2 3 64,.segs [.hole (.L 64)] (.slot 3) true,.ptr 3 4 64,.segs [.hole (.L 8)] (.slot 4) true,.ptr 4 5 8,.slot 19 (.L 16),.slot 20 .I],[.segs [.hole (.L 64)] (.slot 2) true,.ptr 2 1 64,.segs [.hole (.L 64)] (.slot 3) true,.ptr 3 2 64],0,fun k=>u13 (q5j F k),fun k=>u13 (qdr F (q5j F k))⟩
theorem qsn:(qsm F).ok pp Tryz.f248 F:=
 oL (qek F) aN
def qcx:ToldF:=⟨248,1,[.row .u8 1 (.part (.slot 0) 0) false,.cells 0 [.sl 1 1 .whole,.hole (.bool),.hole (.bool),.hole (.L 3),.hole (.L 3),.hole (.L 2),.hole (.L 16),.hole (.bool)]],[.ty (.L 64)],u8 (qkx F)⟩
theorem qvq:(qcx F).ok pp:=
 oF (qek F) (fn:=Tryz.f248) (aM (qsn F) aN)
def z11:List ToldF:=[qbh F]
theorem z12:q01 pp (z11 F):=⟨qn7 F,trivial⟩
def q3w:ToldF:=⟨169,3,[.row .u8 1 (.part (.slot 0) 0) false,.cells 0 [.sl 1 1 .whole,.hole (.bool),.hole (.bool),.hole (.L 3),.hole (.L 3),.hole (.L 2),.hole (.L 16),.hole (.bool)],.slot 1 .I,.slot 2 .I],[.ty .I],u10 (q07 F)⟩
theorem q7v:(q3w F).ok pp:=
 oF (z12 F) (fn:=Tryz.f169) aN
def zk4:List ToldF:=[q2q F]
theorem qy2:q01 pp (zk4 F):=⟨q6d F,trivial⟩
def zk5:TL:=⟨23,[.segs [.hole (.L 3)] (.slot 3) true,.ptr 3 1 3,.segs [.hole (.L 4)] (.slot 4) true,.ptr 4 2 4,.segs [.hole (.L 4)] (.slot 5) true,.ptr 5 3 4,.slot 9 (.L 3),.slot 10 .I],[.segs [.hole (.L 4)] (.slot 4) true,.ptr 4 1 4,.segs [.hole (.L 4)] (.slot 5) true,.ptr 5 2 4],0,fun k=>u5 (qgg F k),fun k=>u5 (qx6 F (qgg F k))⟩
theorem zk6:(zk5 F).ok pp Tryz.f279 F:=
 oL (qy2 F) aN
def qie:ToldF:=⟨279,2,[.slot 0 (.L 3),.slot 1 (.L 3)],[.ty (.L 4)],u2 (z3t F)⟩
theorem z28:(qie F).ok pp:=
 oF (qy2 F) (fn:=Tryz.f279) (aM (zk6 F) aN)
def zee:List ToldF:=[qie F]
theorem zef:q01 pp (zee F):=⟨z28 F,trivial⟩
def qfp:ToldF:=⟨267,1,[.slot 0 (.L 3)],[.ty (.L 4)],u1 (q9l F)⟩
theorem qy3:(qfp F).ok pp:=
 oF (zef F) (fn:=Tryz.f267) aN
def qb7:ToldF:=⟨268,1,[.slot 0 .I],[.ty .I],u1 (qds F)⟩
theorem qne:(qb7 F).ok pp:=
 oF (zur F) (fn:=Tryz.f268) aN
def zeg:List ToldF:=[q2g F]
theorem qug:q01 pp (zeg F):=⟨q4s F,trivial⟩
def zeh:TL:=⟨19,[.slot 1 .I,.segs [.hole (.L 4)] (.slot 2) true,.ptr 2 1 4,.segs [.hole (.L 4)] (.slot 4) true,.ptr 4 2 4,.slot 6 .I],[.segs [.hole (.L 4)] (.slot 2) true,.ptr 2 1 4,.segs [.hole (.L 4)] (.slot 4) true,.ptr 4 2 4],0,fun k=>u4 (qdt F k),fun k=>u4 (qtr F (qdt F k))⟩
theorem zei:(zeh F).ok pp Tryz.f270 F:=
 oL (qug F) aN
def qfq:ToldF:=⟨270,2,[.slot 0 (.L 4),.slot 1 .I],[.ty (.L 4)],u2 (q3t F)⟩
theorem qy4:(qfq F).ok pp:=
 oF (qug F) (fn:=Tryz.f270) (aM (zei F) aN)
def qy6:TL:=⟨22,[.segs [.hole (.L 16)] (.slot 3) true,.ptr 3 1 16,.segs [.hole (.L 64)] (.slot 4) true,.ptr 4 2 64,.segs [.hole (.L 64)] (.slot 5) true,.ptr 5 3 64,.slot 10 (.L 16),.slot 11 .I],[.segs [.hole (.L 64)] (.slot 4) true,.ptr 4 1 64,.segs [.hole (.L 64)] (.slot 5) true,.ptr 5 2 64],0,fun k=>u5 (q6u F k),fun k=>u5 (qhg F (q6u F k))⟩
theorem qy7:(qy6 F).ok pp Tryz.f269 F:=
 oL (zur F) aN
def q93:ToldF:=⟨269,2,[.row .u8 1 (.part (.slot 0) 0) false,.cells 0 [.sl 1 1 .whole,.hole (.bool),.hole (.bool),.hole (.L 3),.hole (.L 3),.hole (.L 2),.hole (.L 16),.hole (.bool)],.slot 1 (.L 16)],[.ty (.L 64)],u9 (qan F)⟩
theorem qix:(q93 F).ok pp:=
 oF (zur F) (fn:=Tryz.f269) (aM (qy7 F) aN)
def z13:List ToldF:=[q3v F,q3w F,qfp F,qb7 F,qfq F,q93 F]
theorem z14:q01 pp (z13 F):=⟨q7u F,q7v F,qy3 F,qne F,qy4 F,qix F,trivial⟩
def qhq:ToldF:=⟨249,1,[.row .u8 1 (.part (.slot 0) 0) false,.cells 0 [.sl 1 1 .whole,.hole (.bool),.hole (.bool),.hole (.L 3),.hole (.L 3),.hole (.L 2),.hole (.L 16),.hole (.bool)]],[.ty (.L 64)],u8 (qts F)⟩
theorem z49:(qhq F).ok pp:=
 oF (z14 F) (fn:=Tryz.f249) aN
def z15:List ToldF:=[q3v F,q3w F,qfp F,qb7 F,qfq F,q93 F]
theorem z16:q01 pp (z15 F):=⟨q7u F,q7v F,qy3 F,qne F,qy4 F,qix F,trivial⟩
def qhr:ToldF:=⟨250,1,[.row .u8 1 (.part (.slot 0) 0) false,.cells 0 [.sl 1 1 .whole,.hole (.bool),.hole (.bool),.hole (.L 3),.hole (.L 3),.hole (.L 2),.hole (.L 16),.hole (.bool)]],[.ty (.L 64)],u8 (qtt F)⟩
theorem z4a:(qhr F).ok pp:=
 oF (z16 F) (fn:=Tryz.f250) aN
def zej:List ToldF:=[qie F]
theorem zek:q01 pp (zej F):=⟨z28 F,trivial⟩
def qqc:ToldF:=⟨272,1,[.slot 0 (.L 3)],[.ty (.L 4)],u1 (qmt F)⟩
theorem zk7:(qqc F).ok pp:=
 oF (zek F) (fn:=Tryz.f272) aN
def zel:List ToldF:=[q2g F]
theorem qif:q01 pp (zel F):=⟨q4s F,trivial⟩
def zem:TL:=⟨57,[.segs [.hole (.L 4)] (.slot 3) true,.ptr 3 1 4,.segs [.hole (.L 4)] (.slot 4) true,.ptr 4 2 4,.segs [.hole (.L 4)] (.slot 5) true,.ptr 5 3 4,.segs [.hole (.L 64)] (.slot 6) true,.ptr 6 4 64,.segs [.hole (.L 64)] (.slot 7) true,.ptr 7 5 64,.slot 8 .I,.slot 11 .I,.slot 17 .I],[.segs [.hole (.L 4)] (.slot 3) true,.ptr 3 1 4,.segs [.hole (.L 4)] (.slot 4) true,.ptr 4 2 4,.segs [.hole (.L 4)] (.slot 5) true,.ptr 5 3 4,.segs [.hole (.L 64)] (.slot 6) true,.ptr 6 4 64,.segs [.hole (.L 64)] (.slot 7) true,.ptr 7 5 64,.slot 11 .I],2,fun k=>u8 (qdu F k),fun k=>u8 (qtu F (qdu F k))⟩
theorem quh:(zem F).ok pp Tryz.f271 F:=
 oL (qif F) aN
def zen:TL:=⟨57,[.segs [.hole (.L 4)] (.slot 3) true,.ptr 3 1 4,.segs [.hole (.L 4)] (.slot 4) true,.ptr 4 2 4,.segs [.hole (.L 4)] (.slot 5) true,.ptr 5 3 4,.segs [.hole (.L 64)] (.slot 6) true,.ptr 6 4 64,.segs [.hole (.L 64)] (.slot 7) true,.ptr 7 5 64,.slot 11 .I],[.segs [.hole (.L 64)] (.slot 6) true,.ptr 6 1 64,.segs [.hole (.L 64)] (.slot 7) true,.ptr 7 2 64],0,fun k=>u6 (qdv F k),fun k=>u6 (qtv F (qdv F k))⟩
theorem zeo:(zen F).ok pp Tryz.f271 F:=
 oL (qif F) (aM (quh F) aN)
def qqd:ToldF:=⟨271,3,[.slot 0 (.L 4),.slot 1 (.L 4),.slot 2 (.L 4)],[.ty (.L 64)],u3 (zbs F)⟩
theorem zk8:(qqd F).ok pp:=
 oF (qif F) (fn:=Tryz.f271) (aM (quh F) (aM (zeo F) aN))
def qso:List ToldF:=[q3v F,q3w F,qqc F,qqd F]
theorem qsp:q01 pp (qso F):=⟨q7u F,q7v F,zk7 F,zk8 F,trivial⟩
def qcy:ToldF:=⟨251,1,[.row .u8 1 (.part (.slot 0) 0) false,.cells 0 [.sl 1 1 .whole,.hole (.bool),.hole (.bool),.hole (.L 3),.hole (.L 3),.hole (.L 2),.hole (.L 16),.hole (.bool)]],[.ty (.L 64)],u8 (qky F)⟩
theorem qvr:(qcy F).ok pp:=
 oF (qsp F) (fn:=Tryz.f251) aN
def z9e:List ToldF:=[quf F,qf9 F,qcx F,qhq F,qhr F,qcy F]
theorem qqe:q01 pp (z9e F):=⟨zpi F,z10 F,qvq F,z49 F,z4a F,qvr F,trivial⟩
def z9f:TL:=⟨57,[.segs [.hole (.L 64)] (.slot 4) true,.ptr 4 1 64,.row .u8 1 (.cell (.slot 6) 0) false,.segs [.sl 2 1 .whole,.hole (.bool),.hole (.bool),.hole (.L 3),.hole (.L 3),.hole (.L 2),.hole (.L 16),.hole (.bool)] (.slot 6) true,.ptr 6 3 28,.slot 7 .I,.segs [.hole (.L 64)] (.slot 9) true,.ptr 9 4 64,.slot 36 (.L 16),.slot 37 .I],[.segs [.hole (.L 64)] (.slot 4) true,.ptr 4 1 64,.segs [.hole (.L 64)] (.slot 9) true,.ptr 9 2 64],0,fun k=>u13 (q4a F k),fun k=>u13 (qpk F (q4a F k))⟩
theorem z9g:(z9f F).ok pp Tryz.f224 F:=
 oL (qqe F) aN
def qnf:ToldF:=⟨224,2,[.row .u8 1 (.slot 0) false,.slot 1 (.bool)],[.ty (.L 64),.ty .I],u2 (qjl F)⟩
theorem zep:(qnf F).ok pp:=
 oF (qqe F) (fn:=Tryz.f224) (aM (z9g F) aN)
def z9h:List ToldF:=[qpt F,qpw F,qpx F,qi8 F,qlg F,qho F,qq1 F,qlk F,qnd F,qnf F]
theorem z9i:q01 pp (z9h F):=⟨zjb F,zjf F,zjg F,z20 F,z5w F,z3y F,zjr F,z99 F,zea F,zep F,trivial⟩
def qng:ToldF:=⟨148,5,[.slot 0 .I,.slot 1 (.agg [.I,.I,.bool]),.row .u8 1 (.slot 2) false,.row .u8 1 (.slot 3) false,.row .u8 1 (.slot 4) false],[.ty (.L 64),.ty .I],u5 (q15 F)⟩
theorem zeq:(qng F).ok pp:=
 oF (z9i F) (fn:=Tryz.f148) aN
def z9j:List ToldF:=[qbg F,qng F]
theorem z9k:q01 pp (z9j F):=⟨qn3 F,zeq F,trivial⟩
def qnh:ToldF:=⟨68,2,[.slot 0 .I,.row .u8 1 (.slot 1) false],[.ty (.L 64),.ty .I],u2 (qjp F)⟩
theorem zer:(qnh F).ok pp:=
 oF (z9k F) (fn:=Tryz.f68) aN
def zk9:List ToldF:=[qaz F]
theorem qln:q01 pp (zk9 F):=⟨ql9 F,trivial⟩
def zka:TL:=⟨38,[.slot 2 .I,.segs [.hole (.L 64)] (.slot 3) true,.ptr 3 1 64,.segs [.hole (.L 64)] (.slot 4) true,.ptr 4 2 64,.slot 7 .I,.slot 8 .I,.slot 10 .I,.slot 13 .I],[.slot 2 .I,.segs [.hole (.L 64)] (.slot 3) true,.ptr 3 1 64,.segs [.hole (.L 64)] (.slot 4) true,.ptr 4 2 64,.slot 7 .I,.slot 10 .I],2,fun k=>u7 (q8m F k),fun k=>u7 (qdy F (q8m F k))⟩
theorem qy8:(zka F).ok pp Tryz.f69 F:=
 oL (qln F) aN
def zkb:TL:=⟨38,[.slot 2 .I,.segs [.hole (.L 64)] (.slot 3) true,.ptr 3 1 64,.segs [.hole (.L 64)] (.slot 4) true,.ptr 4 2 64,.slot 7 .I,.slot 10 .I],[.slot 7 .I],0,fun k=>u5 (q8n F k),fun k=>u5 (qdz F (q8n F k))⟩
theorem zkc:(zkb F).ok pp Tryz.f69 F:=
 oL (qln F) (aM (qy8 F) aN)
def qui:ToldF:=⟨69,3,[.slot 0 (.L 64),.slot 1 (.L 64),.slot 2 .I],[.ty .I],u3 (qs3 F)⟩
theorem zpj:(qui F).ok pp:=
 oF (qln F) (fn:=Tryz.f69) (aM (qy8 F) (aM (zkc F) aN))
def zes:List ToldF:=[qbg F,qfm F,qnh F,qui F]
theorem zet:q01 pp (zes F):=⟨qn3 F,qxk F,zer F,zpj F,trivial⟩
def qb2:ToldF:=⟨26,3,[.slot 0 .I,.row .u8 1 (.slot 1) false,.slot 2 (.L 64)],[.ty .I,.ty .I],u3 (q9r F)⟩
theorem qlo:(qb2 F).ok pp:=
 oF (zet F) (fn:=Tryz.f26) aN
def zkd:List ToldF:=[qb2 F]
theorem zke:q01 pp (zkd F):=⟨qlo F,trivial⟩
def qig:ToldF:=⟨145,4,[.slot 0 .I,.slot 1 (.L 64),.row .u8 1 (.slot 2) false,.row .u8 1 (.slot 3) false],[.row .u8 1 false],u4 (ql1 F)⟩
theorem z29:(qig F).ok pp:=
 oF (zke F) (fn:=Tryz.f145) aN
def j1l:List ToldF:=[qu2 F,qig F]
theorem j1m:q01 pp (j1l F):=⟨zpa F,z29 F,trivial⟩
def z66:ToldF:=⟨142,1,[.slot 0 (.L 64)],[.row .u8 1 false],u1 (zup F)⟩
theorem j54:(z66 F).ok pp:=
 oF (j1m F) (fn:=Tryz.f142) aN
def z67:List ToldF:=[q2q F,q2g F]
theorem z68:q01 pp (z67 F):=⟨q6d F,q4s F,trivial⟩
def qlp:ToldF:=⟨210,1,[.slot 0 .I],[.ty .I],u1 (z1r F)⟩
theorem z9l:(qlp F).ok pp:=
 oF (z68 F) (fn:=Tryz.f210) aN
def qsq:List ToldF:=[q75 F,qlp F]
theorem q7w:q01 pp (qsq F):=⟨qed F,z9l F,trivial⟩
def qsr:TL:=⟨39,[.slot 1 .I,.slot 2 .I,.fn 3 210 [],.row .i64 1 (.slot 9) true,.const 10 .nils,.slot 14 (.L 64),.slot 15 .I],[.slot 2 .I,.fn 3 210 [],.row .i64 1 (.slot 9) true,.const 10 .nils],0,fun k=>u5 (q5l F k),fun k=>u5 (qe2 F (q5l F k))⟩
theorem qss:(qsr F).ok pp Tryz.f206 F:=
 oL (q7w F) aN
def qst:TL:=⟨39,[.fn 3 210 [],.row .i64 1 (.slot 9) true,.row .i64 1 (.slot 10) true,.slot 25 .I,.slot 26 .I],[.row .i64 1 (.slot 9) true,.row .i64 1 (.slot 10) true],2,fun k=>u4 (q5m F k),fun k=>u4 (qe3 F (q5m F k))⟩
theorem qsu:(qst F).ok pp Tryz.f206 F:=
 oL (q7w F) aN
def qcz:ToldF:=⟨206,4,[.slot 0 (.L 64),.slot 1 .I,.slot 2 .I,.fn 3 210 []],[.ty .I],u3 (ql2 F)⟩
theorem qvs:(qcz F).ok pp:=
 oF (q7w F) (fn:=Tryz.f206) (aM (qss F) (aM (qsu F) aN))
def z69:List ToldF:=[q50 F]
theorem z6a:q01 pp (z69 F):=⟨qa3 F,trivial⟩
def qlq:ToldF:=⟨163,5,[.slot 0 .I,.slot 1 .I,.slot 2 .I,.row .u8 1 (.cell (.slot 3) 0) true (some 0),.segs [.sl 1 1 .own] (.slot 3) true (some 1),.ptr 3 2 1,.segs [.hole (.bool)] (.slot 4) true (some 2),.ptr 4 3 1],[.psegs 1 [.row .u8 1 true],.psegs 2 [.hole (.bool)]],u5 (q0z F)⟩
theorem z9m:(qlq F).ok pp:=
 oF (z6a F) (fn:=Tryz.f163) aN
def qqf:ToldF:=⟨164,1,[.slot 0 (.bool)],[.ty .I],u1 (qhd F)⟩
theorem zkf:(qqf F).ok pp:=
 oF (zur F) (fn:=Tryz.f164) aN
def zkg:List ToldF:=[qej F,qlq F,qqf F]
theorem qlr:q01 pp (zkg F):=⟨qub F,z9m F,zkf F,trivial⟩
def zkh:TL:=⟨129,[.segs [.hole (.bool),.hole (.bool),.hole (.L 3),.hole (.L 3),.hole (.L 2),.hole (.L 16)] (.slot 1) true,.ptr 1 1 26,.row .u8 1 (.cell (.slot 4) 0) true,.segs [.sl 2 1 .own] (.slot 4) true,.ptr 4 3 1,.segs [.hole (.bool)] (.slot 5) true,.ptr 5 4 1,.fn 6 163 [.ptr 3 1,.ptr 4 1],.slot 13 .I],[.segs [.hole (.bool),.hole (.bool),.hole (.L 3),.hole (.L 3),.hole (.L 2),.hole (.L 16)] (.slot 1) true,.ptr 1 1 26,.row .u8 1 (.cell (.slot 4) 0) true,.segs [.sl 2 1 .own] (.slot 4) true,.ptr 4 3 1,.segs [.hole (.bool)] (.slot 5) true,.ptr 5 4 1,.fn 6 163 [.ptr 3 1,.ptr 4 1]],0,fun k=>u9 (qg6 F k),fun k=>u9 (qwx F (qg6 F k))⟩
theorem zki:(zkh F).ok pp Tryz.f83 F:=
 oL (qlr F) aN
def zkj:TL:=⟨129,[.row .u8 1 (.cell (.slot 4) 0) true,.segs [.sl 1 1 .own] (.slot 4) true,.ptr 4 2 1,.segs [.hole (.bool)] (.slot 5) true,.ptr 5 3 1,.fn 6 163 [.ptr 2 1,.ptr 3 1],.slot 96 (.L 16),.slot 97 .I],[.row .u8 1 (.cell (.slot 4) 0) true,.segs [.sl 1 1 .own] (.slot 4) true,.ptr 4 2 1,.segs [.hole (.bool)] (.slot 5) true,.ptr 5 3 1],2,fun k=>u4 (qg7 F k),fun k=>u4 (qwy F (qg7 F k))⟩
theorem zkk:(zkj F).ok pp Tryz.f83 F:=
 oL (qlr F) aN
def quj:ToldF:=⟨83,1,[.slot 0 (.agg [.bool,.bool,.L 3,.L 3,.L 2,.L 16])],[.row .u8 1,.ty .I],u1 (zif F)⟩
theorem zpk:(quj F).ok pp:=
 oF (qlr F) (fn:=Tryz.f83) (aM (zki F) (aM (zkk F) aN))
def zkl:List ToldF:=[qcz F,quj F]
theorem qy9:q01 pp (zkl F):=⟨qvs F,zpk F,trivial⟩
def zkm:TL:=⟨24,[.segs [.hole (.L 64)] (.slot 1) true,.ptr 1 1 64,.segs [.const (.bool (some true) true),.const (.bool (some false) false),.hole (.L 3),.hole (.L 3),.hole (.L 2),.hole (.L 16)] (.slot 3) true,.ptr 3 2 26,.slot 8 .I],[.segs [.const (.bool (some true) true),.const (.bool (some false) false),.hole (.L 3),.hole (.L 3),.hole (.L 2),.hole (.L 16)] (.slot 3) true,.ptr 3 1 26],0,fun k=>u6 (qgk F k),fun k=>u6 (qxc F (qgk F k))⟩
theorem zkn:(zkm F).ok pp Tryz.f143 F:=
 oL (qy9 F) aN
def quk:ToldF:=⟨143,1,[.slot 0 (.L 64)],[.row .u8 1],u1 (zim F)⟩
theorem zpl:(quk F).ok pp:=
 oF (qy9 F) (fn:=Tryz.f143) (aM (zkn F) aN)
def z9n:List ToldF:=[q50 F]
theorem z9o:q01 pp (z9n F):=⟨qa3 F,trivial⟩
def qni:ToldF:=⟨167,4,[.slot 0 .I,.slot 1 .I,.slot 2 .I,.row .u8 1 (.cell (.slot 3) 0) true (some 0),.segs [.sl 1 1 .own] (.slot 3) true (some 1),.ptr 3 2 1],[.psegs 1 [.row .u8 1 true]],u4 (q64 F)⟩
theorem zew:(qni F).ok pp:=
 oF (z9o F) (fn:=Tryz.f167) aN
def z9p:List ToldF:=[q50 F]
theorem qqg:q01 pp (z9p F):=⟨qa3 F,trivial⟩
def z9q:TL:=⟨30,[.slot 0 .I,.row .i64 1 (.slot 1) false,.row .u8 1 (.cell (.slot 2) 0) true,.segs [.sl 2 1 .own] (.slot 2) true (some 2),.ptr 2 3 1,.sl 7 1 1 .whole,.slot 8 .I,.slot 9 .I],[.row .u8 1 (.cell (.slot 2) 0) true,.segs [.sl 1 1 .own] (.slot 2) true (some 2),.ptr 2 2 1],0,fun k=>u5 (qc4 F k),fun k=>u5 (qpi F (qc4 F k))⟩
theorem z9r:(z9q F).ok pp Tryz.f166 F:=
 oL (qqg F) aN
def qnj:ToldF:=⟨166,3,[.slot 0 .I,.row .i64 1 (.slot 1) false,.row .u8 1 (.cell (.slot 2) 0) true (some 1),.segs [.sl 2 1 .own] (.slot 2) true (some 2),.ptr 2 3 1],[.psegs 2 [.row .u8 1 true]],u3 (q65 F)⟩
theorem zex:(qnj F).ok pp:=
 oF (qqg F) (fn:=Tryz.f166) (aM (z9r F) aN)
def zpm:List ToldF:=[qb0 F,q3w F,qni F,qnj F]
theorem qoj:q01 pp (zpm F):=⟨qll F,q7v F,zew F,zex F,trivial⟩
def zpn:TX:=⟨127,[.segs [.hole (.L 3)] (.slot 3) true,.ptr 3 1 3,.segs [.hole (.L 3)] (.slot 4) true,.ptr 4 2 3,.segs [.hole (.L 3)] (.slot 5) true,.ptr 5 3 3,.slot 21 (.L 9),.slot 22 .I],[.const 6 .nils,.const 7 (.int .i64 (some 1) 1)],[.segs [.hole (.L 3)] (.slot 3) true,.ptr 3 1 3,.segs [.hole (.L 3)] (.slot 4) true,.ptr 4 2 3,.segs [.hole (.L 3)] (.slot 5) true,.ptr 5 3 3],.ret,0,fun k=>u5 (qjj F k),fun k=>u5 (z1m F (qjj F k))⟩
theorem zpo:(zpn F).ok pp Tryz.f85 F:=
 oX (qoj F) aN (eR rfl)
def zpp:TL:=⟨127,[.row .u8 1 (.cell (.slot 10) 0) true,.segs [.sl 1 1 .own] (.slot 10) true,.ptr 10 2 1,.fn 11 166 [.ptr 2 1],.fn 12 167 [.ptr 2 1],.segs [.hole (.bool),.hole (.bool),.hole (.L 3),.hole (.L 3),.hole (.L 2),.hole (.L 16)] (.slot 13) true,.ptr 13 3 26,.slot 89 .I],[.row .u8 1 (.cell (.slot 10) 0) true,.segs [.sl 1 1 .own] (.slot 10) true,.ptr 10 2 1,.fn 11 166 [.ptr 2 1],.fn 12 167 [.ptr 2 1]],2,fun k=>u8 (qjk F k),fun k=>u8 (z1n F (qjk F k))⟩
theorem zpq:(zpp F).ok pp Tryz.f85 F:=
 oL (qoj F) aN
def qya:ToldF:=⟨85,3,[.slot 0 (.L 3),.slot 1 (.L 3),.slot 2 (.L 3)],[.row .u8 1,.ty .I],u3 (ztb F)⟩
theorem zvk:(qya F).ok pp:=
 oF (qoj F) (fn:=Tryz.f85) (aY (zpo F) (aM (zpq F) aN))
def zko:List ToldF:=[qgu F,qya F]
theorem zkp:q01 pp (zko F):=⟨qxq F,zvk F,trivial⟩
def qul:ToldF:=⟨144,1,[.slot 0 (.L 64)],[.row .u8 1],u1 (qs5 F)⟩
theorem zpr:(qul F).ok pp:=
 oF (zkp F) (fn:=Tryz.f144) aN
def j1n:List ToldF:=[z3w F,q50 F]
theorem qyb:q01 pp (j1n F):=⟨j1h F,qa3 F,trivial⟩
def j1o:TL:=⟨65,[.row .u8 1 (.slot 10) true,.row .i64 3 (.slot 11) true,.slot 27 (.L 16),.slot 28 .I],[.row .u8 1 (.slot 10) true,.row .i64 3 (.slot 11) true],0,fun k=>u4 (qs1 F k),fun k=>u4 (zbu F (qs1 F k))⟩
theorem j1p:(j1o F).ok pp Tryz.f75 F:=
 oL (qyb F) aN
def j1q:TL:=⟨65,[.row .u8 1 (.slot 10) true,.const 14 (.bool (some true) true),.row .i64 3 (.slot 40) true,.slot 41 .I,.slot 42 .I],[.row .u8 1 (.slot 10) true,.slot 14 (.bool)],2,fun k=>u4 (qs2 F k),fun k=>u4 (zbv F (qs2 F k))⟩
theorem j1r:(j1q F).ok pp Tryz.f75 F:=
 oL (qyb F) aN
def qsv:ToldF:=⟨75,4,[.slot 0 .I,.slot 1 .I,.slot 2 .I,.slot 3 (.L 16)],[.row .u8 1,.ty .I],u4 (zuo F)⟩
theorem zkq:(qsv F).ok pp:=
 oF (qyb F) (fn:=Tryz.f75) (aM (j1p F) (aM (j1r F) aN))
def z9s:List ToldF:=[qoi F]
theorem z9t:q01 pp (z9s F):=⟨zc0 F,trivial⟩
def qnk:ToldF:=⟨212,1,[.slot 0 .I],[.ty .I],u1 (z5j F)⟩
theorem zey:(qnk F).ok pp:=
 oF (z9t F) (fn:=Tryz.f212) aN
def qvt:List ToldF:=[q75 F,qnk F]
theorem q94:q01 pp (qvt F):=⟨qed F,zey F,trivial⟩
def qvu:TL:=⟨39,[.slot 1 .I,.slot 2 .I,.fn 3 212 [],.row .i64 1 (.slot 9) true,.const 10 .nils,.slot 14 (.L 64),.slot 15 .I],[.slot 2 .I,.fn 3 212 [],.row .i64 1 (.slot 9) true,.const 10 .nils],0,fun k=>u5 (q69 F k),fun k=>u5 (qf6 F (q69 F k))⟩
theorem qvv:(qvu F).ok pp Tryz.f206 F:=
 oL (q94 F) aN
def qvw:TL:=⟨39,[.fn 3 212 [],.row .i64 1 (.slot 9) true,.row .i64 1 (.slot 10) true,.slot 25 .I,.slot 26 .I],[.row .i64 1 (.slot 9) true,.row .i64 1 (.slot 10) true],2,fun k=>u4 (q6a F k),fun k=>u4 (qf7 F (q6a F k))⟩
theorem qvx:(qvw F).ok pp Tryz.f206 F:=
 oL (q94 F) aN
def qel:ToldF:=⟨206,4,[.slot 0 (.L 64),.slot 1 .I,.slot 2 .I,.fn 3 212 []],[.ty .I],u3 (qmz F)⟩
theorem qyc:(qel F).ok pp:=
 oF (q94 F) (fn:=Tryz.f206) (aM (qvv F) (aM (qvx F) aN))
def zps:List ToldF:=[q4z F,qsv F,qel F]
theorem zpt:q01 pp (zps F):=⟨qa1 F,zkq F,qyc F,trivial⟩
def qyd:ToldF:=⟨147,2,[.slot 0 (.L 64),.slot 1 .I],[.row .u8 1],u2 (z09 F)⟩
theorem zvl:(qyd F).ok pp:=
 oF (zpt F) (fn:=Tryz.f147) aN
def zpu:List ToldF:=[qgu F,q4z F,qa2 F,z5m F,qlc F,z1x F,qig F,z66 F,quk F,qul F,qsv F,qyd F]
theorem zpv:q01 pp (zpu F):=⟨qxq F,qa1 F,qla F,j52 F,z5n F,j1b F,z29 F,j54 F,zpl F,zpr F,zkq F,zvl F,trivial⟩
def qye:ToldF:=⟨67,2,[.slot 0 .I,.slot 1 (.L 64)],[.row .u8 1 false],u2 (q2s F)⟩
theorem zvm:(qye F).ok pp:=
 oF (zpv F) (fn:=Tryz.f67) aN
def zpw:List ToldF:=[qbg F,qxj F,qfm F,qye F]
theorem zpx:q01 pp (zpw F):=⟨qn3 F,zus F,qxk F,zvm F,trivial⟩
def qls:ToldF:=⟨25,2,[.slot 0 .I,.slot 1 (.L 64)],[.row .u8 1 false,.ty .I],u2 (qaq F)⟩
theorem z6b:(qls F).ok pp:=
 oF (zpx F) (fn:=Tryz.f25) aN
def qem:ToldF:=⟨13,1,[.slot 0 .I],[.ty (.agg [.I,.I,.bool]),.ty .I],u1 (qmy F)⟩
theorem qsw:(qem F).ok pp:=
 oF (zur F) (fn:=Tryz.f13) aN
def z6d:TX:=⟨27,[.segs [.hole (.L 64)] (.slot 1) true,.ptr 1 1 64,.slot 3 .I,.slot 4 .I],[.const 2 (.bool (some false) false)],[.segs [.hole (.L 64)] (.slot 1) true,.ptr 1 1 64,.slot 3 .I],.ret,2,fun k=>u3 (q1f F k),fun k=>u3 (q48 F (q1f F k))⟩
theorem qnl:(z6d F).ok pp Tryz.f33 F:=
 oX (zur F) aN (eR rfl)
def z6e:TX:=⟨27,[.segs [.hole (.L 64)] (.slot 1) true,.ptr 1 1 64,.slot 3 .I],[.const 2 (.bool (some false) false)],[],.ret,0,fun k=>u2 (q1g F k),fun k=>u2 (q49 F (q1g F k))⟩
theorem z6f:(z6e F).ok pp Tryz.f33 F:=
 oX (zur F) (aY (qnl F) aN) (eR rfl)
def qch:ToldF:=⟨33,1,[.slot 0 (.L 64)],[.ty (.bool)],u1 (q4r F)⟩
theorem qqh:(qch F).ok pp:=
 oF (zur F) (fn:=Tryz.f33) (aY (qnl F) (aY (z6f F) aN))
def zkr:List ToldF:=[qem F]
theorem qlt:q01 pp (zkr F):=⟨qsw F,trivial⟩
def zks:TL:=⟨44,[.segs [.hole (.L 64)] (.slot 3) true,.ptr 3 1 64,.segs [.hole (.L 64)] (.slot 4) true,.ptr 4 2 64,.segs [.J,.J,.hole (.bool)] (.slot 5) true,.ptr 5 3 3,.slot 7 .I,.slot 8 .I,.slot 18 (.bool)],[.segs [.hole (.L 64)] (.slot 3) true,.ptr 3 1 64,.segs [.hole (.L 64)] (.slot 4) true,.ptr 4 2 64,.segs [.J,.J,.hole (.bool)] (.slot 5) true,.ptr 5 3 3,.slot 7 .I,.slot 18 (.bool)],2,fun k=>u8 (q8r F k),fun k=>u8 (qe4 F (q8r F k))⟩
theorem qyf:(zks F).ok pp Tryz.f19 F:=
 oL (qlt F) aN
def zkt:TL:=⟨44,[.segs [.hole (.L 64)] (.slot 3) true,.ptr 3 1 64,.segs [.hole (.L 64)] (.slot 4) true,.ptr 4 2 64,.segs [.J,.J,.hole (.bool)] (.slot 5) true,.ptr 5 3 3,.slot 7 .I],[.segs [.hole (.L 64)] (.slot 3) true,.ptr 3 1 64,.segs [.hole (.L 64)] (.slot 4) true,.ptr 4 2 64],0,fun k=>u6 (q8s F k),fun k=>u6 (qe5 F (q8s F k))⟩
theorem zku:(zkt F).ok pp Tryz.f19 F:=
 oL (qlt F) (aM (qyf F) aN)
def qih:ToldF:=⟨19,2,[.slot 0 .I,.slot 1 (.L 64)],[.ty (.L 64)],u2 (qfj F)⟩
theorem z2a:(qih F).ok pp:=
 oF (qlt F) (fn:=Tryz.f19) (aM (qyf F) (aM (zku F) aN))
def zkw:TL:=⟨13,[.slot 0 .I,.slot 3 .I,.slot 4 .I],[.slot 3 .I],0,fun k=>u3 (qg4 F k),fun k=>u3 (qwu F (qg4 F k))⟩
theorem zkx:(zkw F).ok pp Tryz.f87 F:=
 oL (zur F) aN
def qii:ToldF:=⟨87,1,[.slot 0 .I],[.ty .I],u1 (qcd F)⟩
theorem z2b:(qii F).ok pp:=
 oF (zur F) (fn:=Tryz.f87) (aM (zkx F) aN)
def qgy:ToldF:=⟨86,2,[.slot 0 .I,.slot 1 .I],[.ty .I],u2 (qkt F)⟩
theorem qyh:(qgy F).ok pp:=
 oF (zur F) (fn:=Tryz.f86) aN
def zpy:List ToldF:=[qii F,qgy F]
theorem z2c:q01 pp (zpy F):=⟨z2b F,qyh F,trivial⟩
def zpz:TL:=⟨35,[.slot 0 .I,.slot 1 .I,.slot 5 .I,.slot 6 .I],[.slot 5 .I],0,fun k=>u4 (qj7 F k),fun k=>u4 (z1i F (qj7 F k))⟩
theorem zq0:(zpz F).ok pp Tryz.f92 F:=
 oL (z2c F) aN
def q3x:ToldF:=⟨92,2,[.slot 0 .I,.slot 1 .I],[.ty .I],u2 (q0c F)⟩
theorem q7x:(q3x F).ok pp:=
 oF (z2c F) (fn:=Tryz.f92) (aM (zq0 F) aN)
def zq1:List ToldF:=[q3x F]
theorem qok:q01 pp (zq1 F):=⟨q7x F,trivial⟩
def zq2:TL:=⟨26,[.slot 0 .I,.const 3 .nils,.slot 4 .I,.slot 5 .I],[.slot 0 .I,.const 3 .nils,.slot 4 .I],0,fun k=>u3 (q7o F k),fun k=>u3 (q8t F (q7o F k))⟩
theorem zq3:(zq2 F).ok pp Tryz.f39 F:=
 oL (qok F) aN
def zq4:TL:=⟨26,[.slot 0 .I,.row .i64 1 (.slot 3) true,.slot 4 .I,.slot 6 .I],[.row .i64 1 (.slot 3) true],2,fun k=>u4 (q7p F k),fun k=>u4 (q8u F (q7p F k))⟩
theorem zq5:(zq4 F).ok pp Tryz.f39 F:=
 oL (qok F) aN
def qa4:ToldF:=⟨39,1,[.slot 0 .I],[.row .i64 1],u1 (q3c F)⟩
theorem qk1:(qa4 F).ok pp:=
 oF (qok F) (fn:=Tryz.f39) (aM (zq3 F) (aM (zq5 F) aN))
def zq7:TL:=⟨20,[.slot 1 .I,.segs [.hole (.L 64)] (.slot 2) true,.ptr 2 1 64,.row .i64 1 (.slot 5) true,.slot 6 .I],[.row .i64 1 (.slot 5) true],0,fun k=>u4 (qar F k),fun k=>u4 (qgl F (qar F k))⟩
theorem zq8:(zq7 F).ok pp Tryz.f40 F:=
 oL (zur F) aN
def q3y:ToldF:=⟨40,2,[.slot 0 (.L 64),.slot 1 .I],[.row .i64 1],u2 (q23 F)⟩
theorem q7y:(q3y F).ok pp:=
 oF (zur F) (fn:=Tryz.f40) (aM (zq8 F) aN)
def qol:ToldF:=⟨88,1,[.slot 0 .I],[.ty .I],u1 (qbc F)⟩
theorem zc1:(qol F).ok pp:=
 oF (zur F) (fn:=Tryz.f88) aN
def zvr:List ToldF:=[qol F]
theorem z6g:q01 pp (zvr F):=⟨zc1 F,trivial⟩
def zvs:TL:=⟨23,[.slot 0 .I,.row .i64 1 (.slot 1) false,.slot 5 .I,.slot 6 .I],[.slot 5 .I],0,fun k=>u4 (q9s F k),fun k=>u4 (qas F (q9s F k))⟩
theorem zvt:(zvs F).ok pp Tryz.f91 F:=
 oL (z6g F) aN
def z2e:ToldF:=⟨91,2,[.slot 0 .I,.row .i64 1 (.slot 1) false],[.ty .I],u2 (qxd F)⟩
theorem j1u:(z2e F).ok pp:=
 oF (z6g F) (fn:=Tryz.f91) (aM (zvt F) aN)
def zq9:List ToldF:=[z2e F]
theorem z2f:q01 pp (zq9 F):=⟨j1u F,trivial⟩
def zqa:TL:=⟨28,[.row .i64 1 (.slot 0) false,.row .i64 1 (.slot 1) false,.slot 5 .I,.slot 6 .I],[.slot 5 .I],0,fun k=>u4 (q7q F k),fun k=>u4 (q8v F (q7q F k))⟩
theorem zqb:(zqa F).ok pp Tryz.f38 F:=
 oL (z2f F) aN
def q3z:ToldF:=⟨38,2,[.row .i64 1 (.slot 0) false,.row .i64 1 (.slot 1) false],[.ty .I],u2 (q2d F)⟩
theorem q7z:(q3z F).ok pp:=
 oF (z2f F) (fn:=Tryz.f38) (aM (zqb F) aN)
def qyi:ToldF:=⟨230,3,[.row .u8 1 (.slot 0) false,.slot 1 .I,.slot 2 .I],[.ty (.bool)],u3 (z02 F)⟩
theorem zvu:(qyi F).ok pp:=
 oF (zur F) (fn:=Tryz.f230) aN
def zvw:TL:=⟨30,[.slot 7 .I,.slot 8 .I,.slot 9 .I],[.slot 8 .I],0,fun k=>u3 (q9f F k),fun k=>u3 (qrs F (q9f F k))⟩
theorem zvx:(zvw F).ok pp Tryz.f172 F:=
 oL (zur F) aN
def qom:ToldF:=⟨172,3,[.row .u8 1 (.slot 0) false,.slot 1 .I,.slot 2 (.bool)],[.ty .I],u3 (qdg F)⟩
theorem zc2:(qom F).ok pp:=
 oF (zur F) (fn:=Tryz.f172) (aM (zvx F) aN)
def zvy:List ToldF:=[qyi F,qom F]
theorem z6i:q01 pp (zvy F):=⟨zvu F,zc2 F,trivial⟩
def zvz:TL:=⟨52,[.row .u8 1 (.slot 0) false,.slot 1 .I,.slot 2 .I,.slot 3 (.bool),.slot 10 (.int .u64),.slot 11 .I],[.slot 10 (.int .u64)],0,fun k=>u6 (q9g F k),fun k=>u6 (qrt F (q9g F k))⟩
theorem zw0:(zvz F).ok pp Tryz.f170 F:=
 oL (z6i F) aN
def qgz:ToldF:=⟨170,4,[.row .u8 1 (.slot 0) false,.slot 1 .I,.slot 2 .I,.slot 3 (.bool)],[.ty (.int .u64),.ty .I],u4 (qpa F)⟩
theorem qyj:(qgz F).ok pp:=
 oF (z6i F) (fn:=Tryz.f170) (aM (zw0 F) aN)
def zkz:TL:=⟨13,[.slot 0 .I,.slot 3 (.int .u64),.slot 4 .I],[.slot 3 (.int .u64)],0,fun k=>u3 (q8e F k),fun k=>u3 (qkr F (q8e F k))⟩
theorem zl0:(zkz F).ok pp Tryz.f171 F:=
 oL (zur F) aN
def qum:ToldF:=⟨171,1,[.slot 0 .I],[.ty (.int .u64)],u1 (q9h F)⟩
theorem zqe:(qum F).ok pp:=
 oF (zur F) (fn:=Tryz.f171) (aM (zl0 F) aN)
def zw1:List ToldF:=[qom F,qgz F,qum F]
theorem z6j:q01 pp (zw1 F):=⟨zc2 F,qyj F,zqe F,trivial⟩
def zw2:TL:=⟨91,[.slot 1 .I,.slot 2 .I,.slot 3 (.bool),.slot 4 (.int .u64),.row .u8 1 (.slot 14) true,.slot 15 .I],[.row .u8 1 (.slot 14) true],0,fun k=>u6 (q9i F k),fun k=>u6 (qru F (q9i F k))⟩
theorem zw3:(zw2 F).ok pp Tryz.f90 F:=
 oL (z6j F) aN
def q3k:ToldF:=⟨90,5,[.row .u8 1 (.slot 0) false,.slot 1 .I,.slot 2 .I,.slot 3 (.bool),.slot 4 (.int .u64)],[.row .u8 1,.ty .I],u5 (q34 F)⟩
theorem q7g:(q3k F).ok pp:=
 oF (z6j F) (fn:=Tryz.f90) (aM (zw3 F) aN)
def zqf:List ToldF:=[q3k F]
theorem z2g:q01 pp (zqf F):=⟨q7g F,trivial⟩
def zqg:TX:=⟨66,[.segs [.hole (.L 16)] (.slot 5) true,.ptr 5 1 16,.row .u8 1 (.slot 8) true,.slot 9 .I],[.const 6 .nils,.const 7 (.int .i64 (some 1) 1)],[.row .u8 1 (.slot 8) true],.ret,0,fun k=>u3 (q3f F k),fun k=>u3 (q8j F (q3f F k))⟩
theorem zqh:(zqg F).ok pp Tryz.f89 F:=
 oX (z2g F) aN (eR rfl)
def qyl:ToldF:=⟨89,3,[.slot 0 .I,.slot 1 .I,.slot 2 (.L 16)],[.row .u8 1,.ty .I],u3 (q8k F)⟩
theorem zw4:(qyl F).ok pp:=
 oF (z2g F) (fn:=Tryz.f89) (aY (zqh F) aN)
def zw5:List ToldF:=[qa4 F,q3y F,q3z F,qyl F]
theorem zw6:q01 pp (zw5 F):=⟨qk1 F,q7y F,q7z F,zw4 F,trivial⟩
def z2h:ToldF:=⟨35,1,[.slot 0 (.L 64)],[.row .u8 1],u1 (qpn F)⟩
theorem j1v:(z2h F).ok pp:=
 oF (zw6 F) (fn:=Tryz.f35) aN
def zw8:TL:=⟨14,[.slot 0 .I,.segs [.hole (.L 16)] (.slot 2) true,.ptr 2 1 16,.segs [.hole (.L 16)] (.slot 3) true,.ptr 3 2 16,.slot 4 .I],[.segs [.hole (.L 16)] (.slot 2) true,.ptr 2 1 16,.segs [.hole (.L 16)] (.slot 3) true,.ptr 3 2 16],0,fun k=>u4 (q9t F k),fun k=>u4 (qjr F (q9t F k))⟩
theorem zw9:(zw8 F).ok pp Tryz.f37 F:=
 oL (zur F) aN
def qon:ToldF:=⟨37,1,[.slot 0 .I],[.ty (.L 16)],u1 (qxe F)⟩
theorem zc3:(qon F).ok pp:=
 oF (zur F) (fn:=Tryz.f37) (aM (zw9 F) aN)
def z4b:List ToldF:=[q3k F]
theorem qlu:q01 pp (z4b F):=⟨q7g F,trivial⟩
def z4c:TX:=⟨33,[.segs [.hole (.L 16)] (.slot 1) true,.ptr 1 1 16,.row .u8 1 (.slot 4) true,.slot 5 .I],[.const 2 .nils,.const 3 (.int .i64 (some 1) 1)],[.row .u8 1 (.slot 4) true],.ret,0,fun k=>u3 (q18 F k),fun k=>u3 (q39 F (q18 F k))⟩
theorem z4d:(z4c F).ok pp Tryz.f36 F:=
 oX (qlu F) aN (eR rfl)
def qiy:ToldF:=⟨36,1,[.slot 0 (.L 16)],[.row .u8 1,.ty .I],u1 (q6y F)⟩
theorem z6l:(qiy F).ok pp:=
 oF (qlu F) (fn:=Tryz.f36) (aY (z4d F) aN)
def zqj:TL:=⟨23,[.slot 0 .I,.slot 1 .I,.slot 2 .I,.row .i64 1 (.slot 7) true,.slot 8 .I],[.row .i64 1 (.slot 7) true],0,fun k=>u5 (q7r F k),fun k=>u5 (q8w F (q7r F k))⟩
theorem zqk:(zqj F).ok pp Tryz.f46 F:=
 oL (zur F) aN
def qa5:ToldF:=⟨46,3,[.slot 0 .I,.slot 1 .I,.slot 2 .I],[.row .i64 1],u3 (qat F)⟩
theorem qk2:(qa5 F).ok pp:=
 oF (zur F) (fn:=Tryz.f46) (aM (zqk F) aN)
def zql:List ToldF:=[q3k F]
theorem z2j:q01 pp (zql F):=⟨q7g F,trivial⟩
def zqm:TX:=⟨56,[.segs [.hole (.L 16)] (.slot 5) true,.ptr 5 1 16,.row .u8 1 (.slot 8) true,.slot 9 .I],[.const 6 .nils,.const 7 (.int .i64 (some 1) 1)],[.row .u8 1 (.slot 8) true],.ret,0,fun k=>u3 (q3e F k),fun k=>u3 (q8f F (q3e F k))⟩
theorem zqn:(zqm F).ok pp Tryz.f93 F:=
 oX (z2j F) aN (eR rfl)
def qym:ToldF:=⟨93,3,[.slot 0 .I,.slot 1 .I,.slot 2 (.L 16)],[.row .u8 1,.ty .I],u3 (q8g F)⟩
theorem zwa:(qym F).ok pp:=
 oF (z2j F) (fn:=Tryz.f93) (aY (zqn F) aN)
def zqo:List ToldF:=[q3y F,q3z F,qa5 F,qym F]
theorem zqp:q01 pp (zqo F):=⟨q7y F,q7z F,qk2 F,zwa F,trivial⟩
def qyn:ToldF:=⟨41,2,[.slot 0 (.L 64),.slot 1 .I],[.row .u8 1],u2 (qfk F)⟩
theorem zwb:(qyn F).ok pp:=
 oF (zqp F) (fn:=Tryz.f41) aN
def zwc:List ToldF:=[q3k F]
theorem qeo:q01 pp (zwc F):=⟨q7g F,trivial⟩
def zwd:TX:=⟨113,[.segs [.hole (.L 8)] (.slot 3) true,.ptr 3 1 8,.segs [.hole (.L 2)] (.slot 4) true,.ptr 4 2 2,.segs [.hole (.L 16)] (.slot 5) true,.ptr 5 3 16,.row .u8 1 (.slot 8) true,.slot 9 .I,.slot 10 .I,.slot 11 .I],[.const 6 .nils,.const 7 (.int .i64 (some 1) 1)],[.segs [.hole (.L 8)] (.slot 3) true,.ptr 3 1 8,.segs [.hole (.L 2)] (.slot 4) true,.ptr 4 2 2,.segs [.hole (.L 16)] (.slot 5) true,.ptr 5 3 16,.row .u8 1 (.slot 8) true,.slot 9 .I,.slot 10 .I],.ret,2,fun k=>u7 (q7a F k),fun k=>u7 (qjf F (q7a F k))⟩
theorem z6m:(zwd F).ok pp Tryz.f94 F:=
 oX (qeo F) aN (eR rfl)
def zwe:TX:=⟨113,[.segs [.hole (.L 8)] (.slot 3) true,.ptr 3 1 8,.segs [.hole (.L 2)] (.slot 4) true,.ptr 4 2 2,.segs [.hole (.L 16)] (.slot 5) true,.ptr 5 3 16,.row .u8 1 (.slot 8) true,.slot 9 .I,.slot 10 .I],[.const 6 .nils,.const 7 (.int .i64 (some 1) 1)],[.segs [.hole (.L 2)] (.slot 4) true,.ptr 4 1 2,.segs [.hole (.L 16)] (.slot 5) true,.ptr 5 2 16,.row .u8 1 (.slot 8) true,.slot 9 .I],.ret,0,fun k=>u6 (q7b F k),fun k=>u6 (qjg F (q7b F k))⟩
theorem zwf:(zwe F).ok pp Tryz.f94 F:=
 oX (qeo F) (aY (z6m F) aN) (eR rfl)
def zwg:TX:=⟨113,[.segs [.hole (.L 2)] (.slot 4) true,.ptr 4 1 2,.segs [.hole (.L 16)] (.slot 5) true,.ptr 5 2 16,.row .u8 1 (.slot 8) true,.slot 9 .I,.slot 12 .I],[.const 6 .nils,.const 7 (.int .i64 (some 1) 1)],[.segs [.hole (.L 16)] (.slot 5) true,.ptr 5 1 16,.row .u8 1 (.slot 8) true,.slot 9 .I],.ret,4,fun k=>u5 (q7c F k),fun k=>u5 (qjh F (q7c F k))⟩
theorem zwh:(zwg F).ok pp Tryz.f94 F:=
 oX (qeo F) aN (eR rfl)
def zwi:TX:=⟨113,[.segs [.hole (.L 16)] (.slot 5) true,.ptr 5 1 16,.row .u8 1 (.slot 8) true,.slot 9 .I,.slot 13 .I],[.const 6 .nils,.const 7 (.int .i64 (some 1) 1)],[.row .u8 1 (.slot 8) true],.ret,6,fun k=>u4 (q7d F k),fun k=>u4 (qji F (q7d F k))⟩
theorem zwj:(zwi F).ok pp Tryz.f94 F:=
 oX (qeo F) aN (eR rfl)
def z2k:ToldF:=⟨94,3,[.slot 0 (.L 8),.slot 1 (.L 2),.slot 2 (.L 16)],[.row .u8 1,.ty .I],u3 (qx5 F)⟩
theorem j1w:(z2k F).ok pp:=
 oF (qeo F) (fn:=Tryz.f94) (aY (z6m F) (aY (zwf F) (aY (zwh F) (aY (zwj F) aN))))
def zl1:List ToldF:=[qgz F]
theorem zl2:q01 pp (zl1 F):=⟨qyj F,trivial⟩
def q60:ToldF:=⟨108,3,[.row .u8 1 (.slot 0) false,.slot 1 .I,.slot 2 .I],[.ty .I],u3 (q2m F)⟩
theorem qbk:(q60 F).ok pp:=
 oF (zl2 F) (fn:=Tryz.f108) aN
def zl3:List ToldF:=[q60 F]
theorem qyo:q01 pp (zl3 F):=⟨qbk F,trivial⟩
def zl4:TL:=⟨33,[.row .u8 1 (.slot 0) false,.segs [.hole (.L 16)] (.slot 4) true,.ptr 4 2 16,.segs [.hole (.L 16)] (.slot 6) true,.ptr 6 3 16,.slot 7 .I],[.row .u8 1 (.slot 0) false,.segs [.hole (.L 16)] (.slot 4) true,.ptr 4 2 16,.segs [.hole (.L 16)] (.slot 6) true,.ptr 6 3 16],0,fun k=>u4 (q4k F k),fun k=>u4 (q6w F (q4k F k))⟩
theorem zl5:(zl4 F).ok pp Tryz.f104 F:=
 oL (qyo F) aN
def qun:ToldF:=⟨104,1,[.row .u8 1 (.slot 0) false],[.ty .I,.ty .I,.ty (.L 16),.ty .I],u1 (qrv F)⟩
theorem zqq:(qun F).ok pp:=
 oF (qyo F) (fn:=Tryz.f104) (aM (zl5 F) aN)
def zwk:List ToldF:=[qgy F]
theorem zwl:q01 pp (zwk F):=⟨qyh F,trivial⟩
def qbl:ToldF:=⟨180,5,[.slot 0 .I,.slot 1 .I,.slot 2 .I,.slot 3 .I,.slot 4 .I],[.ty .I],u5 (qh7 F)⟩
theorem qnm:(qbl F).ok pp:=
 oF (zwl F) (fn:=Tryz.f180) aN
def zqr:List ToldF:=[qbl F]
theorem qoo:q01 pp (zqr F):=⟨qnm F,trivial⟩
def zqs:TL:=⟨39,[.slot 0 .I,.slot 1 .I,.segs [.hole (.L 8)] (.slot 4) true,.ptr 4 1 8,.segs [.hole (.L 8)] (.slot 5) true,.ptr 5 2 8,.slot 6 .I],[.segs [.hole (.L 8)] (.slot 4) true,.ptr 4 1 8,.segs [.hole (.L 8)] (.slot 5) true,.ptr 5 2 8],0,fun k=>u5 (qa9 F k),fun k=>u5 (qo7 F (qa9 F k))⟩
theorem zqt:(zqs F).ok pp Tryz.f105 F:=
 oL (qoo F) aN
def zqu:TL:=⟨39,[.slot 0 .I,.slot 1 .I,.segs [.hole (.L 8)] (.slot 4) true,.ptr 4 1 8,.segs [.hole (.L 8)] (.slot 5) true,.ptr 5 2 8,.slot 7 .I],[.segs [.hole (.L 8)] (.slot 4) true,.ptr 4 1 8,.segs [.hole (.L 8)] (.slot 5) true,.ptr 5 2 8],2,fun k=>u5 (qaa F k),fun k=>u5 (qo8 F (qaa F k))⟩
theorem zqv:(zqu F).ok pp Tryz.f105 F:=
 oL (qoo F) aN
def qyp:ToldF:=⟨105,2,[.slot 0 .I,.slot 1 .I],[.ty (.L 8)],u2 (z04 F)⟩
theorem zwm:(qyp F).ok pp:=
 oF (qoo F) (fn:=Tryz.f105) (aM (zqt F) (aM (zqv F) aN))
def zez:List ToldF:=[qun F,qyp F]
theorem qup:q01 pp (zez F):=⟨zqq F,zwm F,trivial⟩
def zf0:TL:=⟨36,[.segs [.hole (.L 16)] (.slot 2) true,.ptr 2 1 16,.segs [.hole (.L 16)] (.slot 6) true,.ptr 6 2 16,.segs [.hole (.L 8)] (.slot 8) true,.ptr 8 3 8,.slot 9 .I],[.segs [.hole (.L 16)] (.slot 2) true,.ptr 2 1 16,.segs [.hole (.L 16)] (.slot 6) true,.ptr 6 2 16],0,fun k=>u4 (q3m F k),fun k=>u4 (q5w F (q3m F k))⟩
theorem zf1:(zf0 F).ok pp Tryz.f50 F:=
 oL (qup F) aN
def qqi:ToldF:=⟨50,1,[.row .u8 1 (.slot 0) false],[.ty (.L 16),.ty .I],u1 (qh8 F)⟩
theorem zl6:(qqi F).ok pp:=
 oF (qup F) (fn:=Tryz.f50) (aM (zf1 F) aN)
def zl7:List ToldF:=[q60 F]
theorem qyq:q01 pp (zl7 F):=⟨qbk F,trivial⟩
def zl8:TL:=⟨29,[.row .u8 1 (.slot 0) false,.segs [.hole (.L 16)] (.slot 4) true,.ptr 4 2 16,.segs [.hole (.L 16)] (.slot 6) true,.ptr 6 3 16,.slot 7 .I],[.row .u8 1 (.slot 0) false,.segs [.hole (.L 16)] (.slot 4) true,.ptr 4 2 16,.segs [.hole (.L 16)] (.slot 6) true,.ptr 6 3 16],0,fun k=>u4 (q4n F k),fun k=>u4 (q6z F (q4n F k))⟩
theorem zl9:(zl8 F).ok pp Tryz.f106 F:=
 oL (qyq F) aN
def quq:ToldF:=⟨106,1,[.row .u8 1 (.slot 0) false],[.ty .I,.ty .I,.ty (.L 16),.ty .I],u1 (qrx F)⟩
theorem zqw:(quq F).ok pp:=
 oF (qyq F) (fn:=Tryz.f106) (aM (zl9 F) aN)
def zf2:List ToldF:=[q3x F]
theorem zf3:q01 pp (zf2 F):=⟨q7x F,trivial⟩
def qqj:ToldF:=⟨181,1,[.slot 0 .I],[.ty (.L 4)],u1 (qhb F)⟩
theorem zla:(qqj F).ok pp:=
 oF (zf3 F) (fn:=Tryz.f181) aN
def zwn:List ToldF:=[qbl F]
theorem z6n:q01 pp (zwn F):=⟨qnm F,trivial⟩
def zwo:TL:=⟨28,[.slot 2 .I,.slot 3 .I,.segs [.hole (.L 4)] (.slot 4) true,.ptr 4 1 4,.segs [.hole (.L 4)] (.slot 5) true,.ptr 5 2 4,.segs [.hole (.L 4)] (.slot 8) true,.ptr 8 3 4,.segs [.hole (.L 4)] (.slot 9) true,.ptr 9 4 4,.slot 10 .I],[.segs [.hole (.L 4)] (.slot 8) true,.ptr 8 1 4,.segs [.hole (.L 4)] (.slot 9) true,.ptr 9 2 4],0,fun k=>u7 (q79 F k),fun k=>u7 (qjb F (q79 F k))⟩
theorem zwp:(zwo F).ok pp Tryz.f182 F:=
 oL (z6n F) aN
def z2l:ToldF:=⟨182,4,[.slot 0 (.L 4),.slot 1 (.L 4),.slot 2 .I,.slot 3 .I],[.ty (.L 4)],u4 (qhc F)⟩
theorem j1x:(z2l F).ok pp:=
 oF (z6n F) (fn:=Tryz.f182) (aM (zwp F) aN)
def z9u:List ToldF:=[qqj F,z2l F]
theorem z9v:q01 pp (z9u F):=⟨zla F,j1x F,trivial⟩
def qnn:ToldF:=⟨107,3,[.slot 0 .I,.slot 1 .I,.slot 2 (.bool)],[.ty (.L 16)],u3 (qjc F)⟩
theorem zf4:(qnn F).ok pp:=
 oF (z9v F) (fn:=Tryz.f107) aN
def zf5:List ToldF:=[quq F,qnn F]
theorem qur:q01 pp (zf5 F):=⟨zqw F,zf4 F,trivial⟩
def zf6:TL:=⟨41,[.segs [.hole (.L 64)] (.slot 4) true,.ptr 4 1 64,.segs [.hole (.L 64)] (.slot 6) true,.ptr 6 2 64,.segs [.hole (.L 16)] (.slot 9) true,.ptr 9 3 16,.segs [.hole (.L 16)] (.slot 11) true,.ptr 11 4 16,.slot 12 .I],[.segs [.hole (.L 64)] (.slot 4) true,.ptr 4 1 64,.segs [.hole (.L 64)] (.slot 6) true,.ptr 6 2 64],0,fun k=>u5 (q3o F k),fun k=>u5 (q5y F (q3o F k))⟩
theorem zf7:(zf6 F).ok pp Tryz.f51 F:=
 oL (qur F) aN
def qqk:ToldF:=⟨51,2,[.row .u8 1 (.slot 0) false,.slot 1 (.bool)],[.ty (.L 64),.ty .I],u2 (q4o F)⟩
theorem zlb:(qqk F).ok pp:=
 oF (qur F) (fn:=Tryz.f51) (aM (zf7 F) aN)
def zlc:List ToldF:=[q3x F,q60 F]
theorem qyr:q01 pp (zlc F):=⟨q7x F,qbk F,trivial⟩
def zld:TL:=⟨23,[.row .u8 1 (.slot 0) false,.segs [.hole (.L 16)] (.slot 2) true,.ptr 2 2 16,.segs [.hole (.L 16)] (.slot 4) true,.ptr 4 3 16,.slot 5 .I],[.segs [.hole (.L 16)] (.slot 2) true,.ptr 2 1 16,.segs [.hole (.L 16)] (.slot 4) true,.ptr 4 2 16],0,fun k=>u4 (q4l F k),fun k=>u4 (q6x F (q4l F k))⟩
theorem zle:(zld F).ok pp Tryz.f52 F:=
 oL (qyr F) aN
def qus:ToldF:=⟨52,1,[.row .u8 1 (.slot 0) false],[.ty (.L 16),.ty .I],u1 (qku F)⟩
theorem zqx:(qus F).ok pp:=
 oF (qyr F) (fn:=Tryz.f52) (aM (zle F) aN)
def zqz:TL:=⟨20,[.slot 2 .I,.segs [.hole (.L 64)] (.slot 3) true,.ptr 3 1 64,.segs [.hole (.L 16)] (.slot 4) true,.ptr 4 2 16,.segs [.hole (.L 64)] (.slot 6) true,.ptr 6 3 64,.slot 7 .I],[.segs [.hole (.L 64)] (.slot 3) true,.ptr 3 1 64,.segs [.hole (.L 64)] (.slot 6) true,.ptr 6 2 64],0,fun k=>u5 (qau F k),fun k=>u5 (qgm F (qau F k))⟩
theorem zr0:(zqz F).ok pp Tryz.f53 F:=
 oL (zur F) aN
def qys:ToldF:=⟨53,3,[.slot 0 (.L 64),.slot 1 (.L 16),.slot 2 .I],[.ty (.L 64)],u3 (q14 F)⟩
theorem zwq:(qys F).ok pp:=
 oF (zur F) (fn:=Tryz.f53) (aM (zr0 F) aN)
def zlg:TL:=⟨15,[.slot 0 .I,.segs [.hole (.L 64)] (.slot 2) true,.ptr 2 1 64,.segs [.hole (.L 64)] (.slot 3) true,.ptr 3 2 64,.slot 4 .I],[.segs [.hole (.L 64)] (.slot 2) true,.ptr 2 1 64,.segs [.hole (.L 64)] (.slot 3) true,.ptr 3 2 64],0,fun k=>u4 (qgn F k),fun k=>u4 (qxf F (qgn F k))⟩
theorem zlh:(zlg F).ok pp Tryz.f54 F:=
 oL (zur F) aN
def qut:ToldF:=⟨54,1,[.slot 0 .I],[.ty (.L 64)],u1 (q5c F)⟩
theorem zr1:(qut F).ok pp:=
 oF (zur F) (fn:=Tryz.f54) (aM (zlh F) aN)
def zr2:List ToldF:=[q60 F]
theorem z2n:q01 pp (zr2 F):=⟨qbk F,trivial⟩
def zr3:TX:=⟨16,[.row .u8 1 (.slot 0) false,.slot 3 .I],[.slot 2 .I],[],.ret,0,fun k=>u2 (q63 F k),fun k=>u2 (qgc F (q63 F k))⟩
theorem zr4:(zr3 F).ok pp Tryz.f109 F:=
 oX (z2n F) aN (eR rfl)
def qyu:ToldF:=⟨109,1,[.row .u8 1 (.slot 0) false],[.ty .I],u1 (z06 F)⟩
theorem zwr:(qyu F).ok pp:=
 oF (z2n F) (fn:=Tryz.f109) (aY (zr4 F) aN)
def quu:ToldF:=⟨110,0,[],[.row .i64 10],u0 (z3s F)⟩
theorem zr5:(quu F).ok pp:=
 oF (zur F) (fn:=Tryz.f110) aN
def z17:List ToldF:=[q60 F]
theorem z18:q01 pp (z17 F):=⟨qbk F,trivial⟩
def qhs:ToldF:=⟨111,2,[.row .u8 1 (.cell (.slot 0) 0) false,.segs [.sl 1 1 .whole,.J] (.slot 0) true (some 1),.ptr 0 2 2,.slot 1 .I],[.ty .I,.psegs 1 [.row .u8 1 false,.J]],u3 (q0q F)⟩
theorem z4e:(qhs F).ok pp:=
 oF (z18 F) (fn:=Tryz.f111) aN
def qno:ToldF:=⟨183,1,[.slot 0 .I],[.row .i64 1],u1 (qac F)⟩
theorem zf8:(qno F).ok pp:=
 oF (zur F) (fn:=Tryz.f183) aN
def zf9:List ToldF:=[qno F]
theorem zfa:q01 pp (zf9 F):=⟨zf8 F,trivial⟩
def qql:ToldF:=⟨112,3,[.slot 0 .I,.slot 1 .I,.slot 2 .I],[.ty .I],u3 (qh9 F)⟩
theorem zlk:(qql F).ok pp:=
 oF (zfa F) (fn:=Tryz.f112) aN
def z2o:ToldF:=⟨184,0,[],[.row .i64 1],u0 (zie F)⟩
theorem j1y:(z2o F).ok pp:=
 oF (zur F) (fn:=Tryz.f184) aN
def quv:ToldF:=⟨185,0,[],[.row .i64 1],u0 (z3q F)⟩
theorem zr6:(quv F).ok pp:=
 oF (zur F) (fn:=Tryz.f185) aN
def zr7:List ToldF:=[z2o F,quv F]
theorem z2p:q01 pp (zr7 F):=⟨j1y F,zr6 F,trivial⟩
def zr8:TL:=⟨53,[.slot 2 .I,.slot 7 .I,.slot 8 .I,.slot 9 .I],[.slot 7 .I,.slot 8 .I],0,fun k=>u4 (q7k F k),fun k=>u4 (z1j F (q7k F k))⟩
theorem zr9:(zr8 F).ok pp Tryz.f113 F:=
 oL (z2p F) aN
def qyv:ToldF:=⟨113,3,[.slot 0 .I,.slot 1 .I,.slot 2 .I],[.ty .I],u3 (qpc F)⟩
theorem zwu:(qyv F).ok pp:=
 oF (z2p F) (fn:=Tryz.f113) (aM (zr9 F) aN)
def qnp:ToldF:=⟨186,1,[.slot 0 .I],[.row .i64 1],u1 (qj8 F)⟩
theorem zfb:(qnp F).ok pp:=
 oF (zur F) (fn:=Tryz.f186) aN
def zwv:List ToldF:=[qbl F,qnp F]
theorem zww:q01 pp (zwv F):=⟨qnm F,zfb F,trivial⟩
def z2q:ToldF:=⟨114,4,[.slot 0 .I,.slot 1 .I,.slot 2 .I,.slot 3 .I],[.ty .I],u4 (q70 F)⟩
theorem j1z:(z2q F).ok pp:=
 oF (zww F) (fn:=Tryz.f114) aN
def zfc:List ToldF:=[q3x F,qyu F,quu F,qhs F,qql F,qyv F,z2q F]
theorem q0v:q01 pp (zfc F):=⟨q7x F,zwr F,zr5 F,z4e F,zlk F,zwu F,j1z F,trivial⟩
def zfd:TL:=⟨368,[.segs [.hole (.L 64)] (.slot 2) true,.ptr 2 1 64,.segs [.hole (.L 64)] (.slot 4) true,.ptr 4 2 64,.segs [.J,.J,.J,.J,.J,.J,.J,.J,.J,.J] (.slot 6) true,.ptr 6 3 10,.row .u8 1 (.cell (.slot 7) 0) false,.segs [.sl 4 1 .whole,.J] (.slot 7) true,.ptr 7 5 2,.slot 8 .I,.slot 9 .I,.slot 10 .I,.row .i64 4 (.slot 11) true,.slot 12 .I,.slot 13 .I,.slot 14 .I],[.segs [.hole (.L 64)] (.slot 2) true,.ptr 2 1 64,.segs [.hole (.L 64)] (.slot 4) true,.ptr 4 2 64,.segs [.J,.J,.J,.J,.J,.J,.J,.J,.J,.J] (.slot 6) true,.ptr 6 3 10,.row .u8 1 (.cell (.slot 7) 0) false,.segs [.sl 4 1 .whole,.J] (.slot 7) true,.ptr 7 5 2,.slot 8 .I,.slot 9 .I,.slot 10 .I,.row .i64 4 (.slot 11) true,.slot 12 .I],2,fun k=>u21 (q3p F k),fun k=>u21 (qbv F (q3p F k))⟩
theorem quw:(zfd F).ok pp Tryz.f55 F:=
 oL (q0v F) aN
def zfe:TL:=⟨368,[.segs [.hole (.L 64)] (.slot 2) true,.ptr 2 1 64,.segs [.hole (.L 64)] (.slot 4) true,.ptr 4 2 64,.segs [.J,.J,.J,.J,.J,.J,.J,.J,.J,.J] (.slot 6) true,.ptr 6 3 10,.row .u8 1 (.cell (.slot 7) 0) false,.segs [.sl 4 1 .whole,.J] (.slot 7) true,.ptr 7 5 2,.slot 8 .I,.slot 9 .I,.slot 10 .I,.row .i64 4 (.slot 11) true,.slot 12 .I],[.segs [.hole (.L 64)] (.slot 2) true,.ptr 2 1 64,.segs [.hole (.L 64)] (.slot 4) true,.ptr 4 2 64,.segs [.J,.J,.J,.J,.J,.J,.J,.J,.J,.J] (.slot 6) true,.ptr 6 3 10,.row .u8 1 (.cell (.slot 7) 0) false,.segs [.sl 4 1 .whole,.J] (.slot 7) true,.ptr 7 5 2,.slot 8 .I,.slot 9 .I,.slot 10 .I,.row .i64 4 (.slot 11) true],0,fun k=>u19 (q2p F k),fun k=>u19 (qbw F (q2p F k))⟩
theorem zff:(zfe F).ok pp Tryz.f55 F:=
 oL (q0v F) (aM (quw F) aN)
def zfg:TL:=⟨368,[.segs [.hole (.L 64)] (.slot 2) true,.ptr 2 1 64,.segs [.hole (.L 64)] (.slot 4) true,.ptr 4 2 64,.segs [.J,.J,.J,.J,.J,.J,.J,.J,.J,.J] (.slot 6) true,.ptr 6 3 10,.row .u8 1 (.cell (.slot 7) 0) false,.segs [.sl 4 1 .whole,.J] (.slot 7) true,.ptr 7 5 2,.slot 8 .I,.slot 9 .I,.slot 10 .I,.row .i64 4 (.slot 11) true,.const 15 (.int .i64 (some 1) 1),.slot 16 .I,.slot 17 .I,.slot 18 .I],[.segs [.hole (.L 64)] (.slot 2) true,.ptr 2 1 64,.segs [.hole (.L 64)] (.slot 4) true,.ptr 4 2 64,.segs [.J,.J,.J,.J,.J,.J,.J,.J,.J,.J] (.slot 6) true,.ptr 6 3 10,.row .u8 1 (.cell (.slot 7) 0) false,.segs [.sl 4 1 .whole,.J] (.slot 7) true,.ptr 7 5 2,.slot 8 .I,.slot 9 .I,.slot 10 .I,.row .i64 4 (.slot 11) true,.const 15 (.int .i64 (some 1) 1),.slot 16 .I],6,fun k=>u21 (q3q F k),fun k=>u21 (qbx F (q3q F k))⟩
theorem qux:(zfg F).ok pp Tryz.f55 F:=
 oL (q0v F) aN
def zfh:TL:=⟨368,[.segs [.hole (.L 64)] (.slot 2) true,.ptr 2 1 64,.segs [.hole (.L 64)] (.slot 4) true,.ptr 4 2 64,.segs [.J,.J,.J,.J,.J,.J,.J,.J,.J,.J] (.slot 6) true,.ptr 6 3 10,.row .u8 1 (.cell (.slot 7) 0) false,.segs [.sl 4 1 .whole,.J] (.slot 7) true,.ptr 7 5 2,.slot 8 .I,.slot 9 .I,.slot 10 .I,.row .i64 4 (.slot 11) true,.const 15 (.int .i64 (some 1) 1),.slot 16 .I],[.segs [.hole (.L 64)] (.slot 2) true,.ptr 2 1 64,.segs [.hole (.L 64)] (.slot 4) true,.ptr 4 2 64,.segs [.J,.J,.J,.J,.J,.J,.J,.J,.J,.J] (.slot 6) true,.ptr 6 3 10,.row .u8 1 (.cell (.slot 7) 0) false,.segs [.sl 4 1 .whole,.J] (.slot 7) true,.ptr 7 5 2,.slot 8 .I,.slot 9 .I,.slot 10 .I,.row .i64 4 (.slot 11) true,.const 15 (.int .i64 (some 1) 1)],4,fun k=>u19 (q56 F k),fun k=>u19 (qby F (q56 F k))⟩
theorem zfi:(zfh F).ok pp Tryz.f55 F:=
 oL (q0v F) (aM (qux F) aN)
def za0:TL:=⟨368,[.segs [.hole (.L 64)] (.slot 2) true,.ptr 2 1 64,.segs [.hole (.L 64)] (.slot 4) true,.ptr 4 2 64,.segs [.J,.J,.J,.J,.J,.J,.J,.J,.J,.J] (.slot 6) true,.ptr 6 3 10,.row .u8 1 (.cell (.slot 7) 0) false,.segs [.sl 4 1 .whole,.J] (.slot 7) true,.ptr 7 5 2,.slot 8 .I,.slot 9 .I,.slot 10 .I,.row .i64 4 (.slot 11) true,.const 15 (.int .i64 (some 1) 1),.slot 19 .I,.slot 20 .I,.slot 21 .I],[.segs [.hole (.L 64)] (.slot 2) true,.ptr 2 1 64,.segs [.hole (.L 64)] (.slot 4) true,.ptr 4 2 64,.segs [.J,.J,.J,.J,.J,.J,.J,.J,.J,.J] (.slot 6) true,.ptr 6 3 10,.row .u8 1 (.cell (.slot 7) 0) false,.segs [.sl 4 1 .whole,.J] (.slot 7) true,.ptr 7 5 2,.slot 8 .I,.slot 9 .I,.slot 10 .I,.row .i64 4 (.slot 11) true,.const 15 (.int .i64 (some 1) 1),.slot 19 .I],10,fun k=>u21 (q2x F k),fun k=>u21 (qaf F (q2x F k))⟩
theorem qqm:(za0 F).ok pp Tryz.f55 F:=
 oL (q0v F) aN
def zfj:TL:=⟨368,[.segs [.hole (.L 64)] (.slot 2) true,.ptr 2 1 64,.segs [.hole (.L 64)] (.slot 4) true,.ptr 4 2 64,.segs [.J,.J,.J,.J,.J,.J,.J,.J,.J,.J] (.slot 6) true,.ptr 6 3 10,.row .u8 1 (.cell (.slot 7) 0) false,.segs [.sl 4 1 .whole,.J] (.slot 7) true,.ptr 7 5 2,.slot 8 .I,.slot 9 .I,.slot 10 .I,.row .i64 4 (.slot 11) true,.const 15 (.int .i64 (some 1) 1),.slot 19 .I],[.segs [.hole (.L 64)] (.slot 2) true,.ptr 2 1 64,.segs [.hole (.L 64)] (.slot 4) true,.ptr 4 2 64,.segs [.J,.J,.J,.J,.J,.J,.J,.J,.J,.J] (.slot 6) true,.ptr 6 3 10,.row .u8 1 (.cell (.slot 7) 0) false,.segs [.sl 4 1 .whole,.J] (.slot 7) true,.ptr 7 5 2,.slot 8 .I,.slot 9 .I,.slot 10 .I,.row .i64 4 (.slot 11) true,.const 15 (.int .i64 (some 1) 1)],8,fun k=>u19 (q3r F k),fun k=>u19 (qbz F (q3r F k))⟩
theorem zfk:(zfj F).ok pp Tryz.f55 F:=
 oL (q0v F) (aM (qqm F) aN)
def za1:TL:=⟨368,[.segs [.hole (.L 64)] (.slot 2) true,.ptr 2 1 64,.segs [.hole (.L 64)] (.slot 4) true,.ptr 4 2 64,.segs [.J,.J,.J,.J,.J,.J,.J,.J,.J,.J] (.slot 6) true,.ptr 6 3 10,.row .u8 1 (.cell (.slot 7) 0) false,.segs [.sl 4 1 .whole,.J] (.slot 7) true,.ptr 7 5 2,.slot 8 .I,.slot 9 .I,.slot 10 .I,.row .i64 4 (.slot 11) true,.slot 15 .I,.slot 22 .I,.slot 23 .I],[.segs [.hole (.L 64)] (.slot 2) true,.ptr 2 1 64,.segs [.hole (.L 64)] (.slot 4) true,.ptr 4 2 64,.segs [.J,.J,.J,.J,.J,.J,.J,.J,.J,.J] (.slot 6) true,.ptr 6 3 10,.row .u8 1 (.cell (.slot 7) 0) false,.segs [.sl 4 1 .whole,.J] (.slot 7) true,.ptr 7 5 2,.slot 8 .I,.slot 9 .I,.slot 10 .I,.row .i64 4 (.slot 11) true,.slot 15 .I,.slot 22 .I],14,fun k=>u21 (q2y F k),fun k=>u21 (qag F (q2y F k))⟩
theorem qqn:(za1 F).ok pp Tryz.f55 F:=
 oL (q0v F) aN
def za2:TL:=⟨368,[.segs [.hole (.L 64)] (.slot 2) true,.ptr 2 1 64,.segs [.hole (.L 64)] (.slot 4) true,.ptr 4 2 64,.segs [.J,.J,.J,.J,.J,.J,.J,.J,.J,.J] (.slot 6) true,.ptr 6 3 10,.row .u8 1 (.cell (.slot 7) 0) false,.segs [.sl 4 1 .whole,.J] (.slot 7) true,.ptr 7 5 2,.slot 8 .I,.slot 9 .I,.slot 10 .I,.row .i64 4 (.slot 11) true,.slot 15 .I,.slot 22 .I],[.segs [.hole (.L 64)] (.slot 2) true,.ptr 2 1 64,.segs [.hole (.L 64)] (.slot 4) true,.ptr 4 2 64,.segs [.J,.J,.J,.J,.J,.J,.J,.J,.J,.J] (.slot 6) true,.ptr 6 3 10,.row .u8 1 (.cell (.slot 7) 0) false,.segs [.sl 4 1 .whole,.J] (.slot 7) true,.ptr 7 5 2,.slot 8 .I,.slot 9 .I,.slot 10 .I,.row .i64 4 (.slot 11) true],12,fun k=>u20 (q1w F k),fun k=>u20 (qah F (q1w F k))⟩
theorem za3:(za2 F).ok pp Tryz.f55 F:=
 oL (q0v F) (aM (qqn F) aN)
def za4:TL:=⟨368,[.segs [.hole (.L 64)] (.slot 2) true,.ptr 2 1 64,.segs [.hole (.L 64)] (.slot 4) true,.ptr 4 2 64,.segs [.J,.J,.J,.J,.J,.J,.J,.J,.J,.J] (.slot 6) true,.ptr 6 3 10,.row .u8 1 (.cell (.slot 7) 0) false,.segs [.sl 4 1 .whole,.J] (.slot 7) true,.ptr 7 5 2,.slot 8 .I,.slot 9 .I,.slot 10 .I,.row .i64 4 (.slot 11) true,.segs [.hole (.L 16)] (.slot 24) true,.ptr 24 7 16,.segs [.hole (.L 16)] (.slot 25) true,.ptr 25 8 16,.slot 26 .I,.slot 27 .I,.slot 28 .I],[.segs [.hole (.L 64)] (.slot 2) true,.ptr 2 1 64,.segs [.hole (.L 64)] (.slot 4) true,.ptr 4 2 64,.segs [.J,.J,.J,.J,.J,.J,.J,.J,.J,.J] (.slot 6) true,.ptr 6 3 10,.row .u8 1 (.cell (.slot 7) 0) false,.segs [.sl 4 1 .whole,.J] (.slot 7) true,.ptr 7 5 2,.slot 8 .I,.slot 9 .I,.slot 10 .I,.row .i64 4 (.slot 11) true,.segs [.hole (.L 16)] (.slot 24) true,.ptr 24 7 16,.segs [.hole (.L 16)] (.slot 25) true,.ptr 25 8 16,.slot 26 .I,.slot 27 .I],18,fun k=>u23 (q1x F k),fun k=>u23 (qai F (q1x F k))⟩
theorem qqo:(za4 F).ok pp Tryz.f55 F:=
 oL (q0v F) aN
def za5:TL:=⟨368,[.segs [.hole (.L 64)] (.slot 2) true,.ptr 2 1 64,.segs [.hole (.L 64)] (.slot 4) true,.ptr 4 2 64,.segs [.J,.J,.J,.J,.J,.J,.J,.J,.J,.J] (.slot 6) true,.ptr 6 3 10,.row .u8 1 (.cell (.slot 7) 0) false,.segs [.sl 4 1 .whole,.J] (.slot 7) true,.ptr 7 5 2,.slot 8 .I,.slot 9 .I,.slot 10 .I,.row .i64 4 (.slot 11) true,.segs [.hole (.L 16)] (.slot 24) true,.ptr 24 7 16,.segs [.hole (.L 16)] (.slot 25) true,.ptr 25 8 16,.slot 26 .I],[.segs [.hole (.L 64)] (.slot 2) true,.ptr 2 1 64,.segs [.hole (.L 64)] (.slot 4) true,.ptr 4 2 64,.segs [.J,.J,.J,.J,.J,.J,.J,.J,.J,.J] (.slot 6) true,.ptr 6 3 10,.row .u8 1 (.cell (.slot 7) 0) false,.segs [.sl 4 1 .whole,.J] (.slot 7) true,.ptr 7 5 2,.slot 8 .I,.slot 9 .I,.slot 10 .I,.row .i64 4 (.slot 11) true,.segs [.hole (.L 16)] (.slot 24) true,.ptr 24 7 16,.segs [.hole (.L 16)] (.slot 25) true,.ptr 25 8 16],16,fun k=>u21 (q1y F k),fun k=>u21 (qaj F (q1y F k))⟩
theorem za6:(za5 F).ok pp Tryz.f55 F:=
 oL (q0v F) (aM (qqo F) aN)
def za7:TL:=⟨368,[.segs [.hole (.L 64)] (.slot 2) true,.ptr 2 1 64,.segs [.hole (.L 64)] (.slot 4) true,.ptr 4 2 64,.segs [.J,.J,.J,.J,.J,.J,.J,.J,.J,.J] (.slot 6) true,.ptr 6 3 10,.row .u8 1 (.cell (.slot 7) 0) false,.segs [.sl 4 1 .whole,.J] (.slot 7) true,.ptr 7 5 2,.slot 8 .I,.slot 9 .I,.slot 10 .I,.row .i64 4 (.slot 11) true,.segs [.hole (.L 16)] (.slot 24) true,.ptr 24 7 16,.segs [.hole (.L 16)] (.slot 25) true,.ptr 25 8 16,.slot 29 .I],[.segs [.hole (.L 64)] (.slot 2) true,.ptr 2 1 64,.segs [.hole (.L 64)] (.slot 4) true,.ptr 4 2 64,.segs [.J,.J,.J,.J,.J,.J,.J,.J,.J,.J] (.slot 6) true,.ptr 6 3 10,.slot 8 .I,.slot 9 .I,.slot 10 .I,.row .i64 4 (.slot 11) true,.segs [.hole (.L 16)] (.slot 24) true,.ptr 24 5 16,.segs [.hole (.L 16)] (.slot 25) true,.ptr 25 6 16],20,fun k=>u21 (q10 F k),fun k=>u21 (q71 F (q10 F k))⟩
theorem za8:(za7 F).ok pp Tryz.f55 F:=
 oL (q0v F) aN
def za9:TL:=⟨368,[.segs [.hole (.L 64)] (.slot 2) true,.ptr 2 1 64,.segs [.hole (.L 64)] (.slot 4) true,.ptr 4 2 64,.segs [.J,.J,.J,.J,.J,.J,.J,.J,.J,.J] (.slot 6) true,.ptr 6 3 10,.slot 8 .I,.slot 9 .I,.slot 10 .I,.row .i64 4 (.slot 11) true,.segs [.hole (.L 16)] (.slot 24) true,.ptr 24 5 16,.segs [.hole (.L 16)] (.slot 25) true,.ptr 25 6 16,.slot 31 .I,.segs [.hole (.L 4)] (.slot 33) true,.ptr 33 7 4,.segs [.hole (.L 4)] (.slot 34) true,.ptr 34 8 4,.slot 35 .I,.slot 36 .I,.slot 37 .I,.slot 38 .I,.slot 39 .I],[.segs [.hole (.L 64)] (.slot 2) true,.ptr 2 1 64,.segs [.hole (.L 64)] (.slot 4) true,.ptr 4 2 64,.segs [.J,.J,.J,.J,.J,.J,.J,.J,.J,.J] (.slot 6) true,.ptr 6 3 10,.slot 8 .I,.slot 9 .I,.slot 10 .I,.row .i64 4 (.slot 11) true,.segs [.hole (.L 16)] (.slot 24) true,.ptr 24 5 16,.segs [.hole (.L 16)] (.slot 25) true,.ptr 25 6 16,.slot 31 .I,.segs [.hole (.L 4)] (.slot 33) true,.ptr 33 7 4,.segs [.hole (.L 4)] (.slot 34) true,.ptr 34 8 4,.slot 37 .I,.slot 38 .I],24,fun k=>u26 (q11 F k),fun k=>u26 (qak F (q11 F k))⟩
theorem qqp:(za9 F).ok pp Tryz.f55 F:=
 oL (q0v F) aN
def zaa:TL:=⟨368,[.segs [.hole (.L 64)] (.slot 2) true,.ptr 2 1 64,.segs [.hole (.L 64)] (.slot 4) true,.ptr 4 2 64,.segs [.J,.J,.J,.J,.J,.J,.J,.J,.J,.J] (.slot 6) true,.ptr 6 3 10,.slot 8 .I,.slot 9 .I,.slot 10 .I,.row .i64 4 (.slot 11) true,.segs [.hole (.L 16)] (.slot 24) true,.ptr 24 5 16,.segs [.hole (.L 16)] (.slot 25) true,.ptr 25 6 16,.slot 31 .I],[.segs [.hole (.L 64)] (.slot 2) true,.ptr 2 1 64,.segs [.hole (.L 64)] (.slot 4) true,.ptr 4 2 64],22,fun k=>u19 (q1z F k),fun k=>u19 (qal F (q1z F k))⟩
theorem zab:(zaa F).ok pp Tryz.f55 F:=
 oL (q0v F) (aM (qqp F) aN)
def qqq:ToldF:=⟨55,1,[.row .u8 1 (.slot 0) false],[.ty (.L 64),.ty .I],u1 (qhe F)⟩
theorem zln:(qqq F).ok pp:=
 oF (q0v F) (fn:=Tryz.f55) (aM (quw F) (aM (zff F) (aM (qux F) (aM (zfi F) (aM (qqm F) (aM (zfk F) (aM (qqn F) (aM (za3 F) (aM (qqo F) (aM (za6 F) (aM (za8 F) (aM (qqp F) (aM (zab F) aN)))))))))))))
def zwx:List ToldF:=[qgz F]
theorem zwy:q01 pp (zwx F):=⟨qyj F,trivial⟩
def q6m:ToldF:=⟨118,3,[.row .u8 1 (.slot 0) false,.slot 1 .I,.slot 2 .I],[.ty .I],u3 (q35 F)⟩
theorem qd0:(q6m F).ok pp:=
 oF (zwy F) (fn:=Tryz.f118) aN
def zlo:List ToldF:=[q6m F]
theorem qyw:q01 pp (zlo F):=⟨qd0 F,trivial⟩
def zlp:TL:=⟨30,[.row .u8 1 (.slot 0) false,.segs [.hole (.L 16)] (.slot 2) true,.ptr 2 2 16,.segs [.hole (.L 16)] (.slot 3) true,.ptr 3 3 16,.slot 4 .I],[.segs [.hole (.L 16)] (.slot 2) true,.ptr 2 1 16,.segs [.hole (.L 16)] (.slot 3) true,.ptr 3 2 16],0,fun k=>u4 (qg8 F k),fun k=>u4 (qx0 F (qg8 F k))⟩
theorem zlq:(zlp F).ok pp Tryz.f187 F:=
 oL (qyw F) aN
def quy:ToldF:=⟨187,1,[.row .u8 1 (.slot 0) false],[.ty (.L 16)],u1 (zig F)⟩
theorem zra:(quy F).ok pp:=
 oF (qyw F) (fn:=Tryz.f187) (aM (zlq F) aN)
def zlr:List ToldF:=[q6m F,quy F]
theorem qyx:q01 pp (zlr F):=⟨qd0 F,zra F,trivial⟩
def zls:TL:=⟨78,[.row .u8 1 (.slot 0) false,.segs [.const (.bool (some false) false),.const (.bool (some false) false),.hole (.L 3),.hole (.L 3),.hole (.L 2),.hole (.L 16)] (.slot 2) true,.ptr 2 2 26,.segs [.hole (.bool),.hole (.bool),.hole (.L 3),.hole (.L 3),.hole (.L 2),.hole (.L 16)] (.slot 4) true,.ptr 4 3 26,.slot 5 .I],[.row .u8 1 (.slot 0) false,.segs [.const (.bool (some false) false),.const (.bool (some false) false),.hole (.L 3),.hole (.L 3),.hole (.L 2),.hole (.L 16)] (.slot 2) true,.ptr 2 2 26,.segs [.hole (.bool),.hole (.bool),.hole (.L 3),.hole (.L 3),.hole (.L 2),.hole (.L 16)] (.slot 4) true,.ptr 4 3 26],0,fun k=>u12 (qg9 F k),fun k=>u12 (qx1 F (qg9 F k))⟩
theorem zlt:(zls F).ok pp Tryz.f115 F:=
 oL (qyx F) aN
def qc8:ToldF:=⟨115,1,[.row .u8 1 (.slot 0) false],[.ty (.agg [.bool,.bool,.L 3,.L 3,.L 2,.L 16]),.ty .I],u1 (qkv F)⟩
theorem qop:(qc8 F).ok pp:=
 oF (qyx F) (fn:=Tryz.f115) (aM (zlt F) aN)
def qk3:ToldF:=⟨99,3,[.slot 0 .I,.slot 1 .I,.slot 2 .I],[.ty (.bool)],u3 (q98 F)⟩
theorem z4f:(qk3 F).ok pp:=
 oF (zur F) (fn:=Tryz.f99) aN
def qbm:ToldF:=⟨174,2,[.slot 0 .I,.slot 1 .I],[.ty .I],u2 (qph F)⟩
theorem qnq:(qbm F).ok pp:=
 oF (zur F) (fn:=Tryz.f174) aN
def zlu:List ToldF:=[q3x F,qk3 F,qbm F]
theorem qyy:q01 pp (zlu F):=⟨q7x F,z4f F,qnq F,trivial⟩
def zlv:TL:=⟨62,[.segs [.hole (.bool),.hole (.bool),.hole (.L 3),.hole (.L 3),.hole (.L 2),.hole (.L 16)] (.slot 1) true,.ptr 1 1 26,.segs [.hole (.L 8)] (.slot 2) true,.ptr 2 2 8,.segs [.hole (.L 8)] (.slot 4) true,.ptr 4 3 8,.slot 5 .I,.slot 6 .I],[.segs [.hole (.L 8)] (.slot 2) true,.ptr 2 1 8,.segs [.hole (.L 8)] (.slot 4) true,.ptr 4 2 8,.slot 5 .I],0,fun k=>u10 (qga F k),fun k=>u10 (qx2 F (qga F k))⟩
theorem zlw:(zlv F).ok pp Tryz.f100 F:=
 oL (qyy F) aN
def qc9:ToldF:=⟨100,1,[.slot 0 (.agg [.bool,.bool,.L 3,.L 3,.L 2,.L 16])],[.ty (.L 8),.ty .I],u1 (qkw F)⟩
theorem qoq:(qc9 F).ok pp:=
 oF (qyy F) (fn:=Tryz.f100) (aM (zlw F) aN)
def zrb:List ToldF:=[qbm F]
theorem zrc:q01 pp (zrb F):=⟨qnq F,trivial⟩
def qlv:ToldF:=⟨101,2,[.slot 0 (.bool),.slot 1 .I],[.ty .I],u2 (z8g F)⟩
theorem z6o:(qlv F).ok pp:=
 oF (zrc F) (fn:=Tryz.f101) aN
def zlx:List ToldF:=[qbm F]
theorem zly:q01 pp (zlx F):=⟨qnq F,trivial⟩
def quz:ToldF:=⟨103,1,[.slot 0 .I],[.ty (.L 4)],u1 (zih F)⟩
theorem zrd:(quz F).ok pp:=
 oF (zly F) (fn:=Tryz.f103) aN
def q8b:ToldF:=⟨95,2,[.slot 0 .I,.slot 1 .I],[.ty .I],u2 (qcf F)⟩
theorem qh0:(q8b F).ok pp:=
 oF (zur F) (fn:=Tryz.f95) aN
def zx1:List ToldF:=[q8b F]
theorem z6p:q01 pp (zx1 F):=⟨qh0 F,trivial⟩
def zx2:TL:=⟨19,[.slot 1 .I,.segs [.hole (.L 4)] (.slot 2) true,.ptr 2 1 4,.segs [.hole (.L 4)] (.slot 4) true,.ptr 4 2 4,.slot 5 .I],[.segs [.hole (.L 4)] (.slot 2) true,.ptr 2 1 4,.segs [.hole (.L 4)] (.slot 4) true,.ptr 4 2 4],0,fun k=>u4 (qmn F k),fun k=>u4 (z5a F (qmn F k))⟩
theorem zx3:(zx2 F).ok pp Tryz.f102 F:=
 oL (z6p F) aN
def qor:ToldF:=⟨102,2,[.slot 0 (.L 4),.slot 1 .I],[.ty (.L 4)],u2 (q86 F)⟩
theorem zc4:(qor F).ok pp:=
 oF (z6p F) (fn:=Tryz.f102) (aM (zx3 F) aN)
def zm1:List ToldF:=[qc9 F,qlv F,quz F,qor F]
theorem qyz:q01 pp (zm1 F):=⟨qoq F,z6o F,zrd F,zc4 F,trivial⟩
def zm2:TL:=⟨39,[.segs [.hole (.bool),.hole (.bool),.hole (.L 3),.hole (.L 3),.hole (.L 2),.hole (.L 16)] (.slot 1) true,.ptr 1 1 26,.segs [.hole (.L 64)] (.slot 2) true,.ptr 2 2 64,.segs [.hole (.L 8)] (.slot 3) true,.ptr 3 3 8,.segs [.hole (.L 64)] (.slot 5) true,.ptr 5 4 64,.slot 6 .I],[.segs [.hole (.L 64)] (.slot 2) true,.ptr 2 1 64,.segs [.hole (.L 64)] (.slot 5) true,.ptr 5 2 64],0,fun k=>u10 (qgb F k),fun k=>u10 (qx3 F (qgb F k))⟩
theorem zm3:(zm2 F).ok pp Tryz.f49 F:=
 oL (qyz F) aN
def qij:ToldF:=⟨49,1,[.slot 0 (.agg [.bool,.bool,.L 3,.L 3,.L 2,.L 16])],[.ty (.L 64)],u1 (qry F)⟩
theorem z2r:(qij F).ok pp:=
 oF (qyz F) (fn:=Tryz.f49) (aM (zm3 F) aN)
def zfl:List ToldF:=[qc8 F,qij F]
theorem zfm:q01 pp (zfl F):=⟨qop F,z2r F,trivial⟩
def qqr:ToldF:=⟨56,1,[.row .u8 1 (.slot 0) false],[.ty (.L 64),.ty .I],u1 (qx4 F)⟩
theorem zm4:(qqr F).ok pp:=
 oF (zfm F) (fn:=Tryz.f56) aN
def zm5:List ToldF:=[q3k F,qc8 F]
theorem zm6:q01 pp (zm5 F):=⟨q7g F,qop F,trivial⟩
def qik:ToldF:=⟨119,2,[.row .u8 1 (.slot 0) false,.slot 1 (.bool)],[.ty (.agg [.bool,.bool,.L 3,.L 3,.L 2,.L 16])],u2 (qs0 F)⟩
theorem z2s:(qik F).ok pp:=
 oF (zm6 F) (fn:=Tryz.f119) aN
def zre:List ToldF:=[qc9 F,qik F]
theorem zrf:q01 pp (zre F):=⟨qoq F,z2s F,trivial⟩
def qz0:ToldF:=⟨116,2,[.row .u8 1 (.slot 0) false,.slot 1 (.bool)],[.ty .I],u2 (ztc F)⟩
theorem zx4:(qz0 F).ok pp:=
 oF (zrf F) (fn:=Tryz.f116) aN
def zx5:List ToldF:=[q6m F]
theorem zx6:q01 pp (zx5 F):=⟨qd0 F,trivial⟩
def qh1:ToldF:=⟨179,3,[.row .u8 1 (.slot 0) false,.slot 1 .I,.slot 2 .I],[.ty .I],u3 (q36 F)⟩
theorem qz1:(qh1 F).ok pp:=
 oF (zx6 F) (fn:=Tryz.f179) aN
def zrg:List ToldF:=[q6m F]
theorem z2t:q01 pp (zrg F):=⟨qd0 F,trivial⟩
def zrh:TL:=⟨23,[.row .u8 1 (.slot 0) false,.row .i64 1 (.slot 1) false,.slot 5 .I,.slot 6 .I],[.slot 5 .I],0,fun k=>u4 (qjm F k),fun k=>u4 (z1o F (qjm F k))⟩
theorem zri:(zrh F).ok pp Tryz.f188 F:=
 oL (z2t F) aN
def qlw:ToldF:=⟨188,2,[.row .u8 1 (.slot 0) false,.row .i64 1 (.slot 1) false],[.ty .I],u2 (qao F)⟩
theorem z6q:(qlw F).ok pp:=
 oF (z2t F) (fn:=Tryz.f188) (aM (zri F) aN)
def zrj:List ToldF:=[q3x F]
theorem zrk:q01 pp (zrj F):=⟨q7x F,trivial⟩
def qz2:ToldF:=⟨190,1,[.slot 0 (.L 3)],[.ty (.L 4)],u1 (z07 F)⟩
theorem zx7:(qz2 F).ok pp:=
 oF (zrk F) (fn:=Tryz.f190) aN
def zm7:List ToldF:=[qbl F,q8b F]
theorem qlx:q01 pp (zm7 F):=⟨qnm F,qh0 F,trivial⟩
def zm8:TL:=⟨58,[.segs [.hole (.L 4)] (.slot 3) true,.ptr 3 1 4,.segs [.hole (.L 4)] (.slot 4) true,.ptr 4 2 4,.segs [.hole (.L 4)] (.slot 5) true,.ptr 5 3 4,.segs [.hole (.L 64)] (.slot 6) true,.ptr 6 4 64,.segs [.hole (.L 64)] (.slot 7) true,.ptr 7 5 64,.slot 8 .I,.slot 9 .I],[.segs [.hole (.L 4)] (.slot 3) true,.ptr 3 1 4,.segs [.hole (.L 4)] (.slot 4) true,.ptr 4 2 4,.segs [.hole (.L 4)] (.slot 5) true,.ptr 5 3 4,.segs [.hole (.L 64)] (.slot 6) true,.ptr 6 4 64,.segs [.hole (.L 64)] (.slot 7) true,.ptr 7 5 64,.slot 8 .I],2,fun k=>u7 (qgh F k),fun k=>u7 (qx8 F (qgh F k))⟩
theorem qz3:(zm8 F).ok pp Tryz.f189 F:=
 oL (qlx F) aN
def zm9:TL:=⟨58,[.segs [.hole (.L 4)] (.slot 3) true,.ptr 3 1 4,.segs [.hole (.L 4)] (.slot 4) true,.ptr 4 2 4,.segs [.hole (.L 4)] (.slot 5) true,.ptr 5 3 4,.segs [.hole (.L 64)] (.slot 6) true,.ptr 6 4 64,.segs [.hole (.L 64)] (.slot 7) true,.ptr 7 5 64,.slot 8 .I],[.segs [.hole (.L 64)] (.slot 6) true,.ptr 6 1 64,.segs [.hole (.L 64)] (.slot 7) true,.ptr 7 2 64],0,fun k=>u6 (qgi F k),fun k=>u6 (qx9 F (qgi F k))⟩
theorem zma:(zm9 F).ok pp Tryz.f189 F:=
 oL (qlx F) (aM (qz3 F) aN)
def qv0:ToldF:=⟨189,3,[.slot 0 (.L 4),.slot 1 (.L 4),.slot 2 (.L 4)],[.ty (.L 64)],u3 (zik F)⟩
theorem zrl:(qv0 F).ok pp:=
 oF (qlx F) (fn:=Tryz.f189) (aM (qz3 F) (aM (zma F) aN))
def zfn:List ToldF:=[qh1 F,qlw F,qz2 F,qv0 F]
theorem zfo:q01 pp (zfn F):=⟨qz1 F,z6q F,zx7 F,zrl F,trivial⟩
def qqs:ToldF:=⟨117,1,[.row .u8 1 (.slot 0) false],[.ty (.L 64)],u1 (zbt F)⟩
theorem zmb:(qqs F).ok pp:=
 oF (zfo F) (fn:=Tryz.f117) aN
def zfp:List ToldF:=[q3x F]
theorem zfq:q01 pp (zfp F):=⟨q7x F,trivial⟩
def qqt:ToldF:=⟨191,1,[.slot 0 (.L 3)],[.ty (.L 4)],u1 (q3u F)⟩
theorem zmc:(qqt F).ok pp:=
 oF (zfq F) (fn:=Tryz.f191) aN
def qly:ToldF:=⟨192,1,[.slot 0 .I],[.ty .I],u1 (qgj F)⟩
theorem zac:(qly F).ok pp:=
 oF (zur F) (fn:=Tryz.f192) aN
def qqu:ToldF:=⟨193,1,[.slot 0 (.L 3)],[.ty .I],u1 (qxa F)⟩
theorem zmd:(qqu F).ok pp:=
 oF (zur F) (fn:=Tryz.f193) aN
def zrm:List ToldF:=[qor F,qh1 F,qlw F,qqt F,qly F,qqu F]
theorem zrn:q01 pp (zrm F):=⟨zc4 F,qz1 F,z6q F,zmc F,zac F,zmd F,trivial⟩
def qz4:ToldF:=⟨120,2,[.row .u8 1 (.slot 0) false,.slot 1 .I],[.ty (.L 16)],u2 (z8h F)⟩
theorem zx8:(qz4 F).ok pp:=
 oF (zrn F) (fn:=Tryz.f120) aN
def zft:List ToldF:=[q6m F,qc9 F,qlv F,qij F,qik F,qz0 F,qqs F,qz4 F]
theorem qv1:q01 pp (zft F):=⟨qd0 F,qoq F,z6o F,z2r F,z2s F,zx4 F,zmb F,zx8 F,trivial⟩
def zfu:TL:=⟨91,[.row .u8 1 (.slot 0) false,.segs [.hole (.L 64)] (.slot 4) true,.ptr 4 2 64,.slot 6 .I,.slot 7 (.bool),.segs [.hole (.bool),.hole (.bool),.hole (.L 3),.hole (.L 3),.hole (.L 2),.hole (.L 16)] (.slot 8) true,.ptr 8 3 26,.segs [.hole (.L 64)] (.slot 9) true,.ptr 9 4 64,.segs [.hole (.L 8)] (.slot 10) true,.ptr 10 5 8,.slot 12 .I],[.segs [.hole (.L 64)] (.slot 4) true,.ptr 4 1 64,.segs [.hole (.L 64)] (.slot 9) true,.ptr 9 2 64],0,fun k=>u13 (q9m F k),fun k=>u13 (qtw F (q9m F k))⟩
theorem zfv:(zfu F).ok pp Tryz.f57 F:=
 oL (qv1 F) aN
def qqv:ToldF:=⟨57,2,[.row .u8 1 (.slot 0) false,.slot 1 (.bool)],[.ty (.L 64),.ty .I],u2 (q9n F)⟩
theorem zme:(qqv F).ok pp:=
 oF (qv1 F) (fn:=Tryz.f57) (aM (zfv F) aN)
def zmf:List ToldF:=[q6m F]
theorem qz5:q01 pp (zmf F):=⟨qd0 F,trivial⟩
def zmg:TL:=⟨37,[.row .u8 1 (.slot 0) false,.segs [.hole (.L 16)] (.slot 5) true,.ptr 5 2 16,.segs [.hole (.L 16)] (.slot 7) true,.ptr 7 3 16,.slot 8 .I],[.row .u8 1 (.slot 0) false,.segs [.hole (.L 16)] (.slot 5) true,.ptr 5 2 16,.segs [.hole (.L 16)] (.slot 7) true,.ptr 7 3 16],0,fun k=>u4 (qgo F k),fun k=>u4 (qxg F (qgo F k))⟩
theorem zmh:(zmg F).ok pp Tryz.f121 F:=
 oL (qz5 F) aN
def qv2:ToldF:=⟨121,1,[.row .u8 1 (.slot 0) false],[.ty .I,.ty .I,.ty .I,.ty (.L 16),.ty .I],u1 (zin F)⟩
theorem zro:(qv2 F).ok pp:=
 oF (qz5 F) (fn:=Tryz.f121) (aM (zmh F) aN)
def qv3:ToldF:=⟨123,1,[.slot 0 .I],[.ty (.L 8)],u1 (zio F)⟩
theorem zrp:(qv3 F).ok pp:=
 oF (zur F) (fn:=Tryz.f123) aN
def zmk:List ToldF:=[q8b F]
theorem zml:q01 pp (zmk F):=⟨qh0 F,trivial⟩
def qv4:ToldF:=⟨122,4,[.slot 0 .I,.slot 1 .I,.slot 2 .I,.slot 3 (.bool)],[.ty .I],u4 (ziq F)⟩
theorem zrq:(qv4 F).ok pp:=
 oF (zml F) (fn:=Tryz.f122) aN
def zfw:List ToldF:=[qv2 F,qv3 F,qv4 F]
theorem qv5:q01 pp (zfw F):=⟨zro F,zrp F,zrq F,trivial⟩
def zfx:TL:=⟨41,[.slot 1 (.bool),.segs [.hole (.L 16)] (.slot 4) true,.ptr 4 1 16,.slot 6 .I,.slot 7 .I,.slot 8 .I,.segs [.hole (.L 16)] (.slot 9) true,.ptr 9 2 16,.slot 11 .I],[.segs [.hole (.L 16)] (.slot 4) true,.ptr 4 1 16,.segs [.hole (.L 16)] (.slot 9) true,.ptr 9 2 16],0,fun k=>u7 (qe6 F k),fun k=>u7 (qty F (qe6 F k))⟩
theorem zfy:(zfx F).ok pp Tryz.f58 F:=
 oL (qv5 F) aN
def qqw:ToldF:=⟨58,2,[.row .u8 1 (.slot 0) false,.slot 1 (.bool)],[.ty (.L 16),.ty .I],u2 (q9u F)⟩
theorem zmm:(qqw F).ok pp:=
 oF (qv5 F) (fn:=Tryz.f58) (aM (zfy F) aN)
def zfz:List ToldF:=[qem F,qqi F,qqk F,qus F,qys F,qut F,qqq F,qqr F,qqv F,qqw F]
theorem zg0:q01 pp (zfz F):=⟨qsw F,zl6 F,zlb F,zqx F,zwq F,zr1 F,zln F,zm4 F,zme F,zmm F,trivial⟩
def qqx:ToldF:=⟨20,2,[.slot 0 .I,.row .u8 1 (.slot 1) false],[.ty (.L 64),.ty .I],u2 (qn0 F)⟩
theorem zmn:(qqx F).ok pp:=
 oF (zg0 F) (fn:=Tryz.f20) aN
def zmo:List ToldF:=[qii F,qgy F,qol F]
theorem qlz:q01 pp (zmo F):=⟨z2b F,qyh F,zc1 F,trivial⟩
def zmp:TL:=⟨40,[.slot 2 .I,.segs [.hole (.L 64)] (.slot 3) true,.ptr 3 1 64,.segs [.hole (.L 64)] (.slot 4) true,.ptr 4 2 64,.slot 7 .I,.slot 8 .I,.slot 9 .I],[.slot 2 .I,.segs [.hole (.L 64)] (.slot 3) true,.ptr 3 1 64,.segs [.hole (.L 64)] (.slot 4) true,.ptr 4 2 64,.slot 7 .I,.slot 8 .I],2,fun k=>u6 (q8x F k),fun k=>u6 (qe7 F (q8x F k))⟩
theorem qz6:(zmp F).ok pp Tryz.f34 F:=
 oL (qlz F) aN
def zmq:TL:=⟨40,[.slot 2 .I,.segs [.hole (.L 64)] (.slot 3) true,.ptr 3 1 64,.segs [.hole (.L 64)] (.slot 4) true,.ptr 4 2 64,.slot 7 .I,.slot 8 .I],[.slot 7 .I],0,fun k=>u5 (q8y F k),fun k=>u5 (qe8 F (q8y F k))⟩
theorem zmr:(zmq F).ok pp Tryz.f34 F:=
 oL (qlz F) (aM (qz6 F) aN)
def qv6:ToldF:=⟨34,3,[.slot 0 (.L 64),.slot 1 (.L 64),.slot 2 .I],[.ty .I],u3 (z3u F)⟩
theorem zrr:(qv6 F).ok pp:=
 oF (qlz F) (fn:=Tryz.f34) (aM (qz6 F) (aM (zmr F) aN))
def zms:List ToldF:=[qem F,qih F,qqx F,qv6 F]
theorem zmt:q01 pp (zms F):=⟨qsw F,z2a F,zmn F,zrr F,trivial⟩
def qil:ToldF:=⟨14,3,[.slot 0 .I,.row .u8 1 (.slot 1) false,.slot 2 (.L 64)],[.ty .I,.ty .I],u3 (qfl F)⟩
theorem z2u:(qil F).ok pp:=
 oF (zmt F) (fn:=Tryz.f14) aN
def zmu:List ToldF:=[q3y F,q3z F,qa5 F,z2k F,qil F]
theorem qm0:q01 pp (zmu F):=⟨q7y F,q7z F,qk2 F,j1w F,z2u F,trivial⟩
def zmv:TL:=⟨56,[.segs [.hole (.L 64)] (.slot 1) true,.ptr 1 1 64,.row .u8 1 (.slot 3) true,.slot 4 .I,.slot 5 .I,.segs [.hole (.L 4)] (.slot 6) true,.ptr 6 3 4,.slot 7 .I],[.segs [.hole (.L 64)] (.slot 1) true,.ptr 1 1 64,.row .u8 1 (.slot 3) true,.slot 4 .I,.slot 5 .I,.segs [.hole (.L 4)] (.slot 6) true,.ptr 6 3 4],2,fun k=>u6 (q6j F k),fun k=>u6 (qe9 F (q6j F k))⟩
theorem qz7:(zmv F).ok pp Tryz.f42 F:=
 oL (qm0 F) aN
def zmw:TL:=⟨56,[.segs [.hole (.L 64)] (.slot 1) true,.ptr 1 1 64,.row .u8 1 (.slot 3) true,.slot 4 .I,.slot 5 .I],[.row .u8 1 (.slot 3) true],0,fun k=>u4 (q3j F k),fun k=>u4 (q74 F (q3j F k))⟩
theorem zmx:(zmw F).ok pp Tryz.f42 F:=
 oL (qm0 F) (aM (qz7 F) aN)
def qv7:ToldF:=⟨42,1,[.slot 0 (.L 64)],[.row .u8 1],u1 (qs6 F)⟩
theorem zrs:(qv7 F).ok pp:=
 oF (qm0 F) (fn:=Tryz.f42) (aM (qz7 F) (aM (zmx F) aN))
def zx9:List ToldF:=[qk3 F]
theorem qsx:q01 pp (zx9 F):=⟨z4f F,trivial⟩
def zxa:TX:=⟨68,[.segs [.hole (.bool),.hole (.bool),.hole (.L 3),.hole (.L 3),.hole (.L 2),.hole (.L 16)] (.slot 1) true,.ptr 1 1 26,.slot 3 .I],[.const 2 (.bool (some false) false)],[.segs [.hole (.bool),.hole (.bool),.hole (.L 3),.hole (.L 3),.hole (.L 2),.hole (.L 16)] (.slot 1) true,.ptr 1 1 26],.ret,0,fun k=>u7 (qmo F k),fun k=>u7 (z5b F (qmo F k))⟩
theorem zxb:(zxa F).ok pp Tryz.f48 F:=
 oX (qsx F) aN (eR rfl)
def zxc:TX:=⟨68,[.segs [.hole (.bool),.hole (.bool),.hole (.L 3),.hole (.L 3),.hole (.L 2),.hole (.L 16)] (.slot 1) true,.ptr 1 1 26,.slot 4 .I],[.const 2 (.bool (some false) false)],[.segs [.hole (.bool),.hole (.bool),.hole (.L 3),.hole (.L 3),.hole (.L 2),.hole (.L 16)] (.slot 1) true,.ptr 1 1 26],.ret,2,fun k=>u7 (qmp F k),fun k=>u7 (z5c F (qmp F k))⟩
theorem zxd:(zxc F).ok pp Tryz.f48 F:=
 oX (qsx F) aN (eR rfl)
def z2v:ToldF:=⟨48,1,[.slot 0 (.agg [.bool,.bool,.L 3,.L 3,.L 2,.L 16])],[.ty (.bool)],u1 (j11 F)⟩
theorem j22:(z2v F).ok pp:=
 oF (qsx F) (fn:=Tryz.f48) (aY (zxb F) (aY (zxd F) aN))
def zxe:List ToldF:=[q3k F]
theorem zxf:q01 pp (zxe F):=⟨q7g F,trivial⟩
def qos:ToldF:=⟨173,4,[.row .u8 1 (.slot 0) false,.slot 1 .I,.slot 2 .I,.slot 3 .I],[.row .u8 1],u4 (q9k F)⟩
theorem zc5:(qos F).ok pp:=
 oF (zxf F) (fn:=Tryz.f173) aN
def z2w:ToldF:=⟨175,1,[.slot 0 (.bool)],[.ty .I],u1 (zii F)⟩
theorem j23:(z2w F).ok pp:=
 oF (zur F) (fn:=Tryz.f175) aN
def zxi:List ToldF:=[qos F]
theorem z6t:q01 pp (zxi F):=⟨zc5 F,trivial⟩
def zxj:TL:=⟨34,[.row .u8 1 (.slot 0) false,.segs [.hole (.L 16)] (.slot 3) true,.ptr 3 2 16,.slot 5 .I],[.row .u8 1 (.slot 0) false],0,fun k=>u3 (qmq F k),fun k=>u3 (z5d F (qmq F k))⟩
theorem zxk:(zxj F).ok pp Tryz.f176 F:=
 oL (z6t F) aN
def z2x:ToldF:=⟨176,2,[.row .u8 1 (.slot 0) false,.slot 1 (.L 16)],[.row .u8 1 false],u2 (j12 F)⟩
theorem j24:(z2x F).ok pp:=
 oF (z6t F) (fn:=Tryz.f176) (aM (zxk F) aN)
def zrt:List ToldF:=[qbm F,z2v F,qos F,z2w F,z2x F]
theorem z2y:q01 pp (zrt F):=⟨qnq F,j22 F,zc5 F,j23 F,j24 F,trivial⟩
def zru:TL:=⟨75,[.segs [.hole (.bool),.hole (.bool),.hole (.L 3),.hole (.L 3),.hole (.L 2),.hole (.L 16)] (.slot 1) true,.ptr 1 1 26,.row .u8 1 (.slot 4) true,.slot 5 .I],[.segs [.hole (.bool),.hole (.bool),.hole (.L 3),.hole (.L 3),.hole (.L 2),.hole (.L 16)] (.slot 1) true,.ptr 1 1 26,.row .u8 1 (.slot 4) true],0,fun k=>u8 (qje F k),fun k=>u8 (z1l F (qje F k))⟩
theorem zrv:(zru F).ok pp Tryz.f96 F:=
 oL (z2y F) aN
def qz8:ToldF:=⟨96,1,[.slot 0 (.agg [.bool,.bool,.L 3,.L 3,.L 2,.L 16])],[.row .u8 1 false,.ty .I],u1 (zt9 F)⟩
theorem zxl:(qz8 F).ok pp:=
 oF (z2y F) (fn:=Tryz.f96) (aM (zrv F) aN)
def zmy:List ToldF:=[qa4 F,q3y F,q3z F,q8b F,qz8 F]
theorem qm1:q01 pp (zmy F):=⟨qk1 F,q7y F,q7z F,qh0 F,zxl F,trivial⟩
def zmz:TL:=⟨44,[.segs [.hole (.L 64)] (.slot 1) true,.ptr 1 1 64,.row .i64 1 (.slot 3) true,.slot 4 .I],[.segs [.hole (.L 64)] (.slot 1) true,.ptr 1 1 64,.row .i64 1 (.slot 3) true],0,fun k=>u3 (qgp F k),fun k=>u3 (qxh F (qgp F k))⟩
theorem zn0:(zmz F).ok pp Tryz.f43 F:=
 oL (qm1 F) aN
def zn1:TL:=⟨44,[.segs [.hole (.L 64)] (.slot 1) true,.ptr 1 1 64,.row .i64 1 (.slot 3) true,.segs [.const (.bool (some true) true),.const (.bool (some false) false),.hole (.L 3),.hole (.L 3),.hole (.L 2),.hole (.L 16)] (.slot 5) true,.ptr 5 3 26,.slot 6 .I],[.segs [.const (.bool (some true) true),.const (.bool (some false) false),.hole (.L 3),.hole (.L 3),.hole (.L 2),.hole (.L 16)] (.slot 5) true,.ptr 5 1 26],2,fun k=>u7 (qgq F k),fun k=>u7 (qxi F (qgq F k))⟩
theorem zn2:(zn1 F).ok pp Tryz.f43 F:=
 oL (qm1 F) aN
def qv8:ToldF:=⟨43,1,[.slot 0 (.L 64)],[.row .u8 1 false],u1 (zir F)⟩
theorem zrw:(qv8 F).ok pp:=
 oF (qm1 F) (fn:=Tryz.f43) (aM (zn0 F) (aM (zn2 F) aN))
def zry:TL:=⟨18,[.slot 1 .I,.row .i64 1 (.slot 5) true,.slot 6 .I],[.row .i64 1 (.slot 5) true],0,fun k=>u3 (qjn F k),fun k=>u3 (z1p F (qjn F k))⟩
theorem zrz:(zry F).ok pp Tryz.f178 F:=
 oL (zur F) aN
def qz9:ToldF:=⟨178,2,[.slot 0 .I,.slot 1 .I],[.row .i64 1],u2 (qfh F)⟩
theorem zxm:(qz9 F).ok pp:=
 oF (zur F) (fn:=Tryz.f178) (aM (zrz F) aN)
def zxn:List ToldF:=[q3k F]
theorem z6u:q01 pp (zxn F):=⟨q7g F,trivial⟩
def zxo:TL:=⟨30,[.row .u8 1 (.slot 0) false,.row .i64 1 (.slot 1) false,.slot 2 .I,.slot 7 .I],[.row .u8 1 (.slot 0) false],0,fun k=>u4 (qmu F k),fun k=>u4 (z5f F (qmu F k))⟩
theorem zxp:(zxo F).ok pp Tryz.f177 F:=
 oL (z6u F) aN
def z30:ToldF:=⟨177,3,[.row .u8 1 (.slot 0) false,.row .i64 1 (.slot 1) false,.slot 2 .I],[.row .u8 1 false],u3 (q5a F)⟩
theorem j25:(z30 F).ok pp:=
 oF (z6u F) (fn:=Tryz.f177) (aM (zxp F) aN)
def zxq:List ToldF:=[qc8 F,qk3 F,qh1 F,qz9 F,z30 F]
theorem qsy:q01 pp (zxq F):=⟨qop F,z4f F,qz1 F,zxm F,j25 F,trivial⟩
def zxr:TX:=⟨139,[.segs [.hole (.L 3)] (.slot 3) true,.ptr 3 1 3,.segs [.hole (.L 3)] (.slot 4) true,.ptr 4 2 3,.segs [.hole (.L 3)] (.slot 5) true,.ptr 5 3 3,.row .i64 3 (.slot 8) true,.slot 9 .I],[.const 6 .nils,.const 7 (.int .i64 (some 1) 1)],[.segs [.hole (.L 3)] (.slot 3) true,.ptr 3 1 3,.segs [.hole (.L 3)] (.slot 4) true,.ptr 4 2 3,.segs [.hole (.L 3)] (.slot 5) true,.ptr 5 3 3],.ret,0,fun k=>u5 (qmv F k),fun k=>u5 (z5g F (qmv F k))⟩
theorem zxs:(zxr F).ok pp Tryz.f97 F:=
 oX (qsy F) aN (eR rfl)
def zxt:TL:=⟨139,[.row .u8 1 (.slot 10) false,.slot 11 .I],[.row .u8 1 (.slot 10) false],2,fun k=>u2 (qmw F k),fun k=>u2 (z5h F (qmw F k))⟩
theorem zxu:(zxt F).ok pp Tryz.f97 F:=
 oL (qsy F) aN
def z31:ToldF:=⟨97,3,[.slot 0 (.L 3),.slot 1 (.L 3),.slot 2 (.L 3)],[.row .u8 1 false,.ty .I],u3 (j13 F)⟩
theorem j26:(z31 F).ok pp:=
 oF (qsy F) (fn:=Tryz.f97) (aY (zxs F) (aM (zxu F) aN))
def zg1:List ToldF:=[qa4 F,q3y F,q3z F,z31 F]
theorem zg2:q01 pp (zg1 F):=⟨qk1 F,q7y F,q7z F,j26 F,trivial⟩
def qqy:ToldF:=⟨44,1,[.slot 0 (.L 64)],[.row .u8 1 false],u1 (qn1 F)⟩
theorem zn3:(qqy F).ok pp:=
 oF (zg2 F) (fn:=Tryz.f44) aN
def z6v:ToldF:=⟨98,2,[.slot 0 .I,.slot 1 .I],[.ty (.bool)],u2 (z5k F)⟩
theorem j55:(z6v F).ok pp:=
 oF (zur F) (fn:=Tryz.f98) aN
def zs0:List ToldF:=[q3k F,z6v F]
theorem z32:q01 pp (zs0 F):=⟨q7g F,j55 F,trivial⟩
def zs1:TX:=⟨60,[.segs [.hole (.L 16)] (.slot 7) true,.ptr 7 1 16,.row .u8 1 (.slot 10) true,.slot 11 .I],[.const 8 .nils,.const 9 (.int .i64 (some 1) 1)],[.row .u8 1 (.slot 10) true],.ret,0,fun k=>u3 (qjs F k),fun k=>u3 (z1s F (qjs F k))⟩
theorem zs2:(zs1 F).ok pp Tryz.f45 F:=
 oX (z32 F) aN (eR rfl)
def qm2:ToldF:=⟨45,4,[.slot 0 .I,.slot 1 .I,.slot 2 .I,.slot 3 (.L 16)],[.row .u8 1,.ty .I],u4 (z8j F)⟩
theorem z6w:(qm2 F).ok pp:=
 oF (z32 F) (fn:=Tryz.f45) (aY (zs2 F) aN)
def zn4:List ToldF:=[q3y F,q3z F,qon F,qa5 F,qm2 F]
theorem zn5:q01 pp (zn4 F):=⟨q7y F,q7z F,zc3 F,qk2 F,z6w F,trivial⟩
def qv9:ToldF:=⟨47,2,[.slot 0 (.L 64),.slot 1 .I],[.row .u8 1],u2 (qs7 F)⟩
theorem zs3:(qv9 F).ok pp:=
 oF (zn5 F) (fn:=Tryz.f47) aN
def zn6:List ToldF:=[qem F,qch F,qih F,qa4 F,q3y F,q3z F,z2h F,qon F,qiy F,qa5 F,qyn F,qil F,qv7 F,qv8 F,qqy F,qm2 F,qv9 F]
theorem zn7:q01 pp (zn6 F):=⟨qsw F,qqh F,z2a F,qk1 F,q7y F,q7z F,j1v F,zc3 F,z6l F,qk2 F,zwb F,z2u F,zrs F,zrw F,zn3 F,z6w F,zs3 F,trivial⟩
def qva:ToldF:=⟨15,2,[.slot 0 .I,.slot 1 (.L 64)],[.row .u8 1 false,.ty .I],u2 (q6k F)⟩
theorem zs4:(qva F).ok pp:=
 oF (zn7 F) (fn:=Tryz.f15) aN
def zs6:TX:=⟨26,[.row .u8 1 (.slot 0) false,.row .u8 1 (.slot 1) false,.slot 5 .I],[.const 4 (.bool (some false) false)],[],.ret,0,fun k=>u3 (qa8 F k),fun k=>u3 (qo6 F (qa8 F k))⟩
theorem zs7:(zs6 F).ok pp Tryz.f16 F:=
 oX (zur F) aN (eR rfl)
def qza:ToldF:=⟨16,2,[.row .u8 1 (.slot 0) false,.row .u8 1 (.slot 1) false],[.ty (.bool)],u2 (z03 F)⟩
theorem zxv:(qza F).ok pp:=
 oF (zur F) (fn:=Tryz.f16) (aY (zs7 F) aN)
def zad:List ToldF:=[q2q F,qaz F]
theorem zae:q01 pp (zad F):=⟨q6d F,ql9 F,trivial⟩
def qnr:ToldF:=⟨155,3,[.slot 0 .I,.segs [.J] (.slot 1) false,.ptr 1 1 1,.segs [.J] (.slot 2) false,.ptr 2 2 1],[.ty .I],u3 (qab F)⟩
theorem zg3:(qnr F).ok pp:=
 oF (zae F) (fn:=Tryz.f155) aN
def qsz:List ToldF:=[qnr F]
theorem qep:q01 pp (qsz F):=⟨zg3 F,trivial⟩
def qt0:TL:=⟨27,[.segs [.J] (.cap (.slot 1) 0) false,.segs [.J] (.cap (.slot 1) 1) false,.fn 1 155 [.ptr 1 1,.ptr 2 1],.slot 5 .I,.slot 6 .I,.slot 9 .I,.slot 10 .I],[.slot 5 .I],0,fun k=>u6 (q0w F k),fun k=>u6 (q2n F (q0w F k))⟩
theorem qt1:(qt0 F).ok pp Tryz.f154 F:=
 oL (qep F) aN
def qd1:ToldF:=⟨154,2,[.slot 0 .I,.segs [.J] (.cap (.slot 1) 0) false,.segs [.J] (.cap (.slot 1) 1) false,.fn 1 155 [.ptr 1 1,.ptr 2 1]],[.ty .I],u3 (qce F)⟩
theorem qvy:(qd1 F).ok pp:=
 oF (qep F) (fn:=Tryz.f154) (aM (qt1 F) aN)
def zs8:List ToldF:=[qoe F,qd1 F]
theorem zs9:q01 pp (zs8 F):=⟨zbw F,qvy F,trivial⟩
def qm3:ToldF:=⟨77,2,[.slot 0 .I,.slot 1 .I],[.ty .I],u2 (q8h F)⟩
theorem z6x:(qm3 F).ok pp:=
 oF (zs9 F) (fn:=Tryz.f77) aN
def zxw:List ToldF:=[qch F]
theorem zxx:q01 pp (zxw F):=⟨qqh F,trivial⟩
def z34:ToldF:=⟨12,5,[.slot 0 .I,.slot 1 (.L 64),.slot 2 .I,.slot 3 .I,.slot 4 .I],[.ty .I],u5 (qhj F)⟩
theorem j29:(z34 F).ok pp:=
 oF (zxx F) (fn:=Tryz.f12) aN
def zxz:TL:=⟨26,[.slot 2 .I,.segs [.hole (.L 4)] (.slot 3) true,.ptr 3 1 4,.segs [.hole (.L 4)] (.slot 4) true,.ptr 4 2 4,.segs [.hole (.L 64)] (.slot 6) true,.ptr 6 3 64,.segs [.hole (.L 64)] (.slot 7) true,.ptr 7 4 64,.slot 8 .I],[.segs [.hole (.L 64)] (.slot 6) true,.ptr 6 1 64,.segs [.hole (.L 64)] (.slot 7) true,.ptr 7 2 64],0,fun k=>u6 (q9v F k),fun k=>u6 (qjt F (q9v F k))⟩
theorem zy0:(zxz F).ok pp Tryz.f24 F:=
 oL (zur F) aN
def z35:ToldF:=⟨24,3,[.slot 0 (.L 4),.slot 1 (.L 4),.slot 2 .I],[.ty (.L 64)],u3 (ql4 F)⟩
theorem j2a:(z35 F).ok pp:=
 oF (zur F) (fn:=Tryz.f24) (aM (zy0 F) aN)
theorem zaf:j7h pp 234 jc9 okTT 1 [.segs [.hole (.is .i64 64)] (.slot 0) true,.ptr 0 1 64] (u1 (qgr F)):=
 j51 qn2 (zi3 qn2 (zur F)) (z4z (zur F)) (fn:=Tryz.f234) (c:=(q85 Tryz.f234)) (by kernel_rfl) (by kernel_rfl) decTT_ok (fun d=>rfl) (fun d=>rfl) (fun l d=>by kernel_rfl)
def zy2:TL:=⟨32,[.segs [.hole (.L 4)] (.slot 3) true,.ptr 3 1 4,.segs [.hole (.L 4)] (.slot 4) true,.ptr 4 2 4,.slot 7 .I,.slot 9 .I,.slot 10 .I],[.slot 7 .I],0,fun k=>u5 (q9w F k),fun k=>u5 (qav F (q9w F k))⟩
theorem zy3:(zy2 F).ok pp Tryz.f197 F:=
 oL (zur F) aN
def qh2:ToldF:=⟨197,3,[.slot 0 (.L 4),.slot 1 (.L 4),.slot 2 .I],[.ty .I],u3 (ql5 F)⟩
theorem qzb:(qh2 F).ok pp:=
 oF (zur F) (fn:=Tryz.f197) (aM (zy3 F) aN)
def zg4:List ToldF:=[qh2 F]
theorem qvb:q01 pp (zg4 F):=⟨qzb F,trivial⟩
def qfr:ToldF:=⟨126,2,[.slot 0 (.L 64),.slot 1 .I],[.ty (.L 4),.ty (.L 4)],u2 (q7e F)⟩
theorem qzc:(qfr F).ok pp:=
 j0y qn2 (zi3 qn2 (qvb F)) (z4z (qvb F)) (fn:=Tryz.f126) (gfn:=Tryz.f234) (c:=(q85 Tryz.f126)) (by kernel_rfl) (by kernel_rfl) (jcd (k:=3) (out:=0) (g:=15) (by kernel_rfl)) (by kernel_rfl) (by kernel_rfl) (fun x=>by kernel_rfl) jcb (zaf F) (by kernel_rfl) (by kernel_rfl) (nt:=31) (its:=[.segs [.hole (.int .i64)] (.slot 3) true,.ptr 3 1 1,.segs [.hole (.is .i64 4)] (.slot 4) true,.ptr 4 2 4,.segs [.hole (.is .i64 4)] (.slot 5) true,.ptr 5 3 4,.segs [.hole (.is .i64 4)] (.slot 6) true,.ptr 6 4 4,.segs [.hole (.is .i64 4)] (.slot 7) true,.ptr 7 5 4]) (outX:=[]) (eX:= .normal) (step:=fun x=>u5 (q8z F x)) (fun x d=>by kernel_rfl) (fun d=>by kernel_rfl) (fun d=>by kernel_rfl)
def zsa:List ToldF:=[qm3 F]
theorem zsb:q01 pp (zsa F):=⟨z6x F,trivial⟩
def qzd:ToldF:=⟨127,1,[.slot 0 (.L 4)],[.ty .I],u1 (qkd F)⟩
theorem zy4:(qzd F).ok pp:=
 oF (zsb F) (fn:=Tryz.f127) aN
def zg5:List ToldF:=[qh2 F]
theorem zg6:q01 pp (zg5 F):=⟨qzb F,trivial⟩
def qqz:ToldF:=⟨196,2,[.slot 0 (.L 4),.segs [.hole (.L 4)] (.slot 1) false,.ptr 1 1 4],[.ty .I],u2 (qhk F)⟩
theorem zn8:(qqz F).ok pp:=
 oF (zg6 F) (fn:=Tryz.f196) aN
def qd5:List ToldF:=[qqz F]
theorem q5r:q01 pp (qd5 F):=⟨zn8 F,trivial⟩
def qd6:TL:=⟨28,[.row .i64 4 (.slot 0) false,.segs [.hole (.L 4)] (.cap (.slot 1) 0) false,.fn 1 196 [.ptr 2 4],.slot 5 .I,.sl 8 1 4 .whole,.slot 9 .I,.slot 10 .I],[.slot 5 .I],0,fun k=>u5 (q0d F k),fun k=>u5 (q0n F (q0d F k))⟩
theorem qd7:(qd6 F).ok pp Tryz.f195 F:=
 oL (q5r F) aN
def q5e:ToldF:=⟨195,2,[.row .i64 4 (.slot 0) false,.segs [.hole (.L 4)] (.cap (.slot 1) 0) false,.fn 1 196 [.ptr 2 4]],[.ty .I],u2 (q2a F)⟩
theorem qeq:(q5e F).ok pp:=
 oF (q5r F) (fn:=Tryz.f195) (aM (qd7 F) aN)
def zy5:List ToldF:=[qlb F,qeh F,q5e F]
theorem z71:q01 pp (zy5 F):=⟨z5l F,qu5 F,qeq F,trivial⟩
def zy6:TL:=⟨38,[.slot 1 .I,.slot 2 .I,.segs [.hole (.L 16)] (.slot 9) true,.ptr 9 1 16,.segs [.hole (.L 16)] (.slot 10) true,.ptr 10 2 16,.slot 19 (.L 64),.slot 20 .I],[.slot 1 .I,.slot 2 .I,.segs [.hole (.L 16)] (.slot 10) true,.ptr 10 1 16],0,fun k=>u6 (q9x F k),fun k=>u6 (qju F (q9x F k))⟩
theorem zy7:(zy6 F).ok pp Tryz.f125 F:=
 oL (z71 F) aN
def z36:ToldF:=⟨125,4,[.slot 0 (.L 64),.slot 1 .I,.slot 2 .I,.slot 3 (.bool)],[.row .u8 1],u4 (qpp F)⟩
theorem j2b:(z36 F).ok pp:=
 oF (z71 F) (fn:=Tryz.f125) (aM (zy7 F) aN)
def qze:List ToldF:=[qb2 F]
theorem qzf:q01 pp (qze F):=⟨qlo F,trivial⟩
def q5q:ToldF:=⟨63,2,[.row .u8 1 (.cell (.slot 0) 65) false,.segs [.J,.hole (.L 64),.sl 1 1 .whole,.J] (.slot 0) true (some 1),.ptr 0 2 67,.row .u8 1 (.slot 1) false],[.ty (.bool),.psegs 1 [.J,.hole (.L 64),.row .u8 1 false,.J]],u5 (q0p F)⟩
theorem qb8:(q5q F).ok pp:=
 oF (qzf F) (fn:=Tryz.f63) aN
def qm9:List ToldF:=[z36 F,q5q F]
theorem qma:q01 pp (qm9 F):=⟨j2b F,qb8 F,trivial⟩
def qa6:ToldF:=⟨124,6,[.slot 0 .I,.slot 1 .I,.row .u8 1 (.cell (.cell (.slot 2) 0) 65) false,.segs [.J,.hole (.L 64),.sl 1 1 .whole,.J] (.cell (.slot 2) 0) true (some 1),.segs [.ptr 2 67] (.slot 2) false,.ptr 2 3 1,.row .u8 1 (.cell (.slot 3) 0) false,.segs [.sl 4 1 .whole] (.slot 3) false,.ptr 3 5 1,.segs [.hole (.L 64)] (.slot 4) false,.ptr 4 6 64,.segs [.hole (.bool)] (.slot 5) false,.ptr 5 7 1],[.ty (.bool),.psegs 1 [.J,.hole (.L 64),.row .u8 1 false,.J]],u9 (q0h F)⟩
theorem qot:(qa6 F).ok pp:=
 oF (qma F) (fn:=Tryz.f124) aN
def qvc:ToldF:=⟨128,0,[],[.ty (.L 6)],u0 (z3v F)⟩
theorem zsc:(qvc F).ok pp:=
 oF (zur F) (fn:=Tryz.f128) aN
def qt2:List ToldF:=[qfr F,qzd F,qa6 F,qvc F]
theorem q80:q01 pp (qt2 F):=⟨qzc F,zy4 F,qot F,zsc F,trivial⟩
def qt3:TL:=⟨81,[.row .u8 1 (.cell (.slot 0) 65) false,.segs [.J,.hole (.L 64),.sl 1 1 .whole,.J] (.slot 0) true (some 1),.ptr 0 2 67,.slot 4 .I,.segs [.ptr 2 67] (.cap (.slot 10) 0) false,.row .u8 1 (.cell (.cap (.slot 10) 1) 0) false,.segs [.sl 4 1 .whole] (.cap (.slot 10) 1) false,.segs [.hole (.L 64)] (.cap (.slot 10) 2) false,.segs [.hole (.bool)] (.cap (.slot 10) 3) false,.fn 10 124 [.ptr 3 1,.ptr 5 1,.ptr 6 64,.ptr 7 1],.slot 13 .I,.slot 14 .I,.slot 15 .I,.slot 37 .I,.slot 38 (.bool),.slot 42 (.L 6),.slot 43 .I],[.row .u8 1 (.cell (.slot 0) 65) false,.segs [.J,.hole (.L 64),.sl 1 1 .whole,.J] (.slot 0) true (some 1),.ptr 0 2 67,.slot 4 .I,.segs [.ptr 2 67] (.cap (.slot 10) 0) false,.row .u8 1 (.cell (.cap (.slot 10) 1) 0) false,.segs [.sl 4 1 .whole] (.cap (.slot 10) 1) false,.segs [.hole (.L 64)] (.cap (.slot 10) 2) false,.segs [.hole (.bool)] (.cap (.slot 10) 3) false,.fn 10 124 [.ptr 3 1,.ptr 5 1,.ptr 6 64,.ptr 7 1],.slot 13 .I,.slot 14 .I,.slot 15 .I,.slot 37 .I,.slot 38 (.bool)],2,fun k=>u15 (q0b F k),fun k=>u15 (q4i F (q0b F k))⟩
theorem qer:(qt3 F).ok pp Tryz.f60 F:=
 oL (q80 F) aN
def qt4:TL:=⟨81,[.row .u8 1 (.cell (.slot 0) 65) false,.segs [.J,.hole (.L 64),.sl 1 1 .whole,.J] (.slot 0) true (some 1),.ptr 0 2 67,.slot 4 .I,.segs [.ptr 2 67] (.cap (.slot 10) 0) false,.row .u8 1 (.cell (.cap (.slot 10) 1) 0) false,.segs [.sl 4 1 .whole] (.cap (.slot 10) 1) false,.segs [.hole (.L 64)] (.cap (.slot 10) 2) false,.segs [.hole (.bool)] (.cap (.slot 10) 3) false,.fn 10 124 [.ptr 3 1,.ptr 5 1,.ptr 6 64,.ptr 7 1],.slot 13 .I,.slot 14 .I,.slot 15 .I],[.row .u8 1 (.cell (.slot 0) 65) false,.segs [.J,.hole (.L 64),.sl 1 1 .whole,.J] (.slot 0) true (some 1),.ptr 0 2 67],0,fun k=>u11 (q0y F k),fun k=>u11 (q24 F (q0y F k))⟩
theorem qt5:(qt4 F).ok pp Tryz.f60 F:=
 oL (q80 F) (aM (qer F) aN)
def qd2:ToldF:=⟨60,5,[.row .u8 1 (.cell (.slot 0) 65) false,.segs [.J,.hole (.L 64),.sl 1 1 .whole,.J] (.slot 0) true (some 1),.ptr 0 2 67,.slot 1 (.L 64),.row .u8 1 (.slot 2) false,.slot 3 (.bool),.slot 4 .I],[.psegs 1 [.J,.hole (.L 64),.row .u8 1 false,.J]],u8 (q1b F)⟩
theorem qvz:(qd2 F).ok pp:=
 oF (q80 F) (fn:=Tryz.f60) (aM (qer F) (aM (qt5 F) aN))
def znb:List ToldF:=[qa2 F,qm3 F]
theorem qzg:q01 pp (znb F):=⟨qla F,z6x F,trivial⟩
def znc:TL:=⟨25,[.segs [.hole (.L 16)] (.slot 3) true,.ptr 3 1 16,.slot 8 (.L 64),.slot 9 .I],[.segs [.hole (.L 16)] (.slot 3) true,.ptr 3 1 16],0,fun k=>u3 (q6l F k),fun k=>u3 (qea F (q6l F k))⟩
theorem znd:(znc F).ok pp Tryz.f61 F:=
 oL (qzg F) aN
def qvd:ToldF:=⟨61,1,[.slot 0 (.L 64)],[.row .u8 1],u1 (ql6 F)⟩
theorem zsd:(qvd F).ok pp:=
 oF (qzg F) (fn:=Tryz.f61) (aM (znd F) aN)
def zag:List ToldF:=[qls F]
theorem qr0:q01 pp (zag F):=⟨z6b F,trivial⟩
def zah:TL:=⟨31,[.slot 1 .I,.segs [.hole (.L 64)] (.slot 5) true,.ptr 5 1 64,.slot 10 (.L 64),.slot 11 .I],[.segs [.hole (.L 64)] (.slot 5) true,.ptr 5 1 64],0,fun k=>u4 (q4c F k),fun k=>u4 (qaw F (q4c F k))⟩
theorem zai:(zah F).ok pp Tryz.f135 F:=
 oL (qr0 F) aN
def qnt:ToldF:=⟨135,2,[.slot 0 (.L 64),.slot 1 .I],[.ty .I],u2 (qax F)⟩
theorem zg7:(qnt F).ok pp:=
 oF (qr0 F) (fn:=Tryz.f135) (aM (zai F) aN)
def qht:ToldF:=⟨133,2,[.slot 0 .I,.segs [.J] (.slot 1) false,.ptr 1 1 1],[.ty .I],u2 (q87 F)⟩
theorem z4g:(qht F).ok pp:=
 oF (zur F) (fn:=Tryz.f133) aN
def qf2:List ToldF:=[qht F]
theorem q6p:q01 pp (qf2 F):=⟨z4g F,trivial⟩
def qf3:TL:=⟨28,[.row .i64 1 (.slot 0) false,.segs [.J] (.cap (.slot 1) 0) false,.fn 1 133 [.ptr 2 1],.slot 5 .I,.sl 8 1 1 .whole,.slot 9 .I,.slot 10 .I],[.slot 5 .I],0,fun k=>u5 (q0j F k),fun k=>u5 (q0r F (q0j F k))⟩
theorem qf4:(qf3 F).ok pp Tryz.f132 F:=
 oL (q6p F) aN
def q6f:ToldF:=⟨132,2,[.row .i64 1 (.slot 0) false,.segs [.J] (.cap (.slot 1) 0) false,.fn 1 133 [.ptr 2 1]],[.ty .I],u2 (q1k F)⟩
theorem qfs:(q6f F).ok pp:=
 oF (q6p F) (fn:=Tryz.f132) (aM (qf4 F) aN)
def zaj:List ToldF:=[qi5 F,q2g F,qi9 F,q6f F]
theorem qr1:q01 pp (zaj F):=⟨z1w F,q4s F,z25 F,qfs F,trivial⟩
def zak:TL:=⟨62,[.slot 0 .I,.slot 1 .I,.segs [.J] (.slot 3) true (some 1),.ptr 3 1 1,.row .u8 1 (.cell (.slot 4) 0) true (some 2),.segs [.sl 2 1 .own] (.slot 4) true (some 3),.ptr 4 3 1,.segs [.hole (.L 8)] (.slot 7) true,.ptr 7 4 8,.segs [.hole (.L 16)] (.slot 8) true,.ptr 8 5 16,.slot 9 .I,.slot 19 (.L 16),.slot 20 .I],[.slot 0 .I,.slot 1 .I,.segs [.J] (.slot 3) true (some 1),.ptr 3 1 1,.row .u8 1 (.cell (.slot 4) 0) true (some 2),.segs [.sl 2 1 .own] (.slot 4) true (some 3),.ptr 4 3 1,.segs [.hole (.L 16)] (.slot 8) true,.ptr 8 4 16,.slot 9 .I],0,fun k=>u9 (q4d F k),fun k=>u9 (qay F (q4d F k))⟩
theorem zal:(zak F).ok pp Tryz.f130 F:=
 oL (qr1 F) aN
def qnu:ToldF:=⟨130,5,[.slot 0 .I,.slot 1 .I,.segs [.hole (.L 16)] (.slot 2) false,.ptr 2 1 16,.segs [.J] (.slot 3) true (some 1),.ptr 3 2 1,.row .u8 1 (.cell (.slot 4) 0) true (some 2),.segs [.sl 3 1 .own] (.slot 4) true (some 3),.ptr 4 4 1],[.psegs 1 [.J],.psegs 3 [.row .u8 1 true]],u5 (q1c F)⟩
theorem zg8:(qnu F).ok pp:=
 oF (qr1 F) (fn:=Tryz.f130) (aM (zal F) aN)
def zse:List ToldF:=[qnt F,qnu F]
theorem qou:q01 pp (zse F):=⟨zg7 F,zg8 F,trivial⟩
def zsf:TL:=⟨89,[.slot 1 .I,.slot 2 .I,.segs [.hole (.L 64)] (.slot 3) true,.ptr 3 1 64,.segs [.hole (.L 16)] (.slot 7) true,.ptr 7 2 16,.slot 8 .I,.slot 9 .I,.slot 17 (.L 64),.slot 18 .I],[.slot 1 .I,.slot 2 .I,.segs [.hole (.L 64)] (.slot 3) true,.ptr 3 1 64,.segs [.hole (.L 16)] (.slot 7) true,.ptr 7 2 16,.slot 8 .I,.slot 9 .I],0,fun k=>u8 (q7s F k),fun k=>u8 (qgs F (q7s F k))⟩
theorem zsg:(zsf F).ok pp Tryz.f62 F:=
 oL (qou F) aN
def zsh:TL:=⟨89,[.slot 8 .I,.slot 9 .I,.row .u8 1 (.cell (.slot 12) 0) true,.segs [.sl 1 1 .own] (.slot 12) true,.ptr 12 2 1,.segs [.hole (.L 16)] (.cap (.slot 14) 0) true,.segs [.J] (.cap (.slot 14) 1) true,.fn 14 130 [.ptr 3 16,.ptr 4 1,.ptr 2 1],.slot 16 .I],[.row .u8 1 (.cell (.slot 12) 0) true,.segs [.sl 1 1 .own] (.slot 12) true,.ptr 12 2 1],2,fun k=>u6 (q6b F k),fun k=>u6 (qgt F (q6b F k))⟩
theorem zsi:(zsh F).ok pp Tryz.f62 F:=
 oL (qou F) aN
def qzh:ToldF:=⟨62,3,[.slot 0 (.L 64),.slot 1 .I,.slot 2 .I],[.row .u8 1],u3 (q5z F)⟩
theorem zy8:(qzh F).ok pp:=
 oF (qou F) (fn:=Tryz.f62) (aM (zsg F) (aM (zsi F) aN))
def zy9:List ToldF:=[q2g F]
theorem qt6:q01 pp (zy9 F):=⟨q4s F,trivial⟩
def zya:TL:=⟨57,[.segs [.hole (.L 4)] (.slot 1) true,.ptr 1 1 4,.segs [.hole (.L 4)] (.slot 2) true,.ptr 2 2 4,.segs [.hole (.L 8)] (.slot 4) true,.ptr 4 3 8,.segs [.hole (.L 2)] (.slot 5) true,.ptr 5 4 2,.slot 6 .I,.slot 10 .I,.slot 13 (.L 4),.slot 14 .I],[.segs [.hole (.L 4)] (.slot 1) true,.ptr 1 1 4,.segs [.hole (.L 4)] (.slot 2) true,.ptr 2 2 4,.segs [.hole (.L 8)] (.slot 4) true,.ptr 4 3 8,.segs [.hole (.L 2)] (.slot 5) true,.ptr 5 4 2,.slot 10 .I],2,fun k=>u8 (qcs F k),fun k=>u8 (qjv F (qcs F k))⟩
theorem z72:(zya F).ok pp Tryz.f136 F:=
 oL (qt6 F) aN
def zyb:TL:=⟨57,[.segs [.hole (.L 4)] (.slot 1) true,.ptr 1 1 4,.segs [.hole (.L 4)] (.slot 2) true,.ptr 2 2 4,.segs [.hole (.L 8)] (.slot 4) true,.ptr 4 3 8,.segs [.hole (.L 2)] (.slot 5) true,.ptr 5 4 2,.slot 10 .I],[.segs [.hole (.L 4)] (.slot 2) true,.ptr 2 1 4,.segs [.hole (.L 8)] (.slot 4) true,.ptr 4 2 8,.segs [.hole (.L 2)] (.slot 5) true,.ptr 5 3 2],0,fun k=>u5 (q9y F k),fun k=>u5 (qjw F (q9y F k))⟩
theorem zyc:(zyb F).ok pp Tryz.f136 F:=
 oL (qt6 F) (aM (z72 F) aN)
def z37:ToldF:=⟨136,1,[.slot 0 (.L 4)],[.ty (.L 4),.ty .I],u1 (qhl F)⟩
theorem j2c:(z37 F).ok pp:=
 oF (qt6 F) (fn:=Tryz.f136) (aM (z72 F) (aM (zyc F) aN))
def zga:TL:=⟨35,[.segs [.hole (.L 2)] (.slot 3) true,.ptr 3 1 2,.segs [.hole (.L 8)] (.slot 4) true,.ptr 4 2 8,.segs [.hole (.L 8)] (.slot 5) true,.ptr 5 3 8,.slot 6 .I,.slot 10 (.L 8),.slot 11 .I,.slot 15 (.L 4),.slot 16 .I],[.segs [.hole (.L 2)] (.slot 3) true,.ptr 3 1 2,.segs [.hole (.L 8)] (.slot 4) true,.ptr 4 2 8,.segs [.hole (.L 8)] (.slot 5) true,.ptr 5 3 8,.slot 10 (.L 8),.slot 11 .I],2,fun k=>u8 (q3s F k),fun k=>u8 (qc0 F (q3s F k))⟩
theorem qve:(zga F).ok pp Tryz.f202 F:=
 oL (zur F) aN
def zgb:TL:=⟨35,[.segs [.hole (.L 2)] (.slot 3) true,.ptr 3 1 2,.segs [.hole (.L 8)] (.slot 4) true,.ptr 4 2 8,.segs [.hole (.L 8)] (.slot 5) true,.ptr 5 3 8,.slot 10 (.L 8),.slot 11 .I],[.segs [.hole (.L 8)] (.slot 4) true,.ptr 4 1 8,.segs [.hole (.L 8)] (.slot 5) true,.ptr 5 2 8],0,fun k=>u5 (q57 F k),fun k=>u5 (qc1 F (q57 F k))⟩
theorem zgc:(zgb F).ok pp Tryz.f202 F:=
 oL (zur F) (aM (qve F) aN)
def qr2:ToldF:=⟨202,2,[.slot 0 (.L 8),.slot 1 (.L 2)],[.ty (.L 8)],u2 (qhf F)⟩
theorem zne:(qr2 F).ok pp:=
 oF (zur F) (fn:=Tryz.f202) (aM (qve F) (aM (zgc F) aN))
def zgd:List ToldF:=[qia F]
theorem qin:q01 pp (zgd F):=⟨z26 F,trivial⟩
def zge:TL:=⟨29,[.segs [.hole (.L 4)] (.slot 2) true,.ptr 2 1 4,.segs [.hole (.L 4)] (.slot 3) true,.ptr 3 2 4,.segs [.hole (.L 64)] (.slot 4) true,.ptr 4 3 64,.segs [.hole (.L 64)] (.slot 5) true,.ptr 5 4 64,.slot 6 .I,.slot 8 .I,.slot 11 .I],[.segs [.hole (.L 4)] (.slot 2) true,.ptr 2 1 4,.segs [.hole (.L 4)] (.slot 3) true,.ptr 3 2 4,.segs [.hole (.L 64)] (.slot 4) true,.ptr 4 3 64,.segs [.hole (.L 64)] (.slot 5) true,.ptr 5 4 64,.slot 8 .I],2,fun k=>u7 (q58 F k),fun k=>u7 (qc2 F (q58 F k))⟩
theorem qvf:(zge F).ok pp Tryz.f203 F:=
 oL (qin F) aN
def zgf:TL:=⟨29,[.segs [.hole (.L 4)] (.slot 2) true,.ptr 2 1 4,.segs [.hole (.L 4)] (.slot 3) true,.ptr 3 2 4,.segs [.hole (.L 64)] (.slot 4) true,.ptr 4 3 64,.segs [.hole (.L 64)] (.slot 5) true,.ptr 5 4 64,.slot 8 .I],[.segs [.hole (.L 64)] (.slot 4) true,.ptr 4 1 64,.segs [.hole (.L 64)] (.slot 5) true,.ptr 5 2 64],0,fun k=>u5 (q59 F k),fun k=>u5 (qc3 F (q59 F k))⟩
theorem zgg:(zgf F).ok pp Tryz.f203 F:=
 oL (qin F) (aM (qvf F) aN)
def qr3:ToldF:=⟨203,2,[.slot 0 (.L 4),.slot 1 (.L 4)],[.ty (.L 64)],u2 (qcp F)⟩
theorem znf:(qr3 F).ok pp:=
 oF (qin F) (fn:=Tryz.f203) (aM (qvf F) (aM (zgg F) aN))
def zgh:List ToldF:=[qh2 F]
theorem zgi:q01 pp (zgh F):=⟨qzb F,trivial⟩
def qr4:ToldF:=⟨204,2,[.slot 0 (.L 4),.segs [.hole (.L 4)] (.slot 1) false,.ptr 1 1 4],[.ty .I],u2 (qhm F)⟩
theorem zng:(qr4 F).ok pp:=
 oF (zgi F) (fn:=Tryz.f204) aN
def qd8:List ToldF:=[qr4 F]
theorem q5s:q01 pp (qd8 F):=⟨zng F,trivial⟩
def qd9:TL:=⟨28,[.row .i64 4 (.slot 0) false,.segs [.hole (.L 4)] (.cap (.slot 1) 0) false,.fn 1 204 [.ptr 2 4],.slot 5 .I,.sl 8 1 4 .whole,.slot 9 .I,.slot 10 .I],[.slot 5 .I],0,fun k=>u5 (q0e F k),fun k=>u5 (q0o F (q0e F k))⟩
theorem qda:(qd9 F).ok pp Tryz.f195 F:=
 oL (q5s F) aN
def q5f:ToldF:=⟨195,2,[.row .i64 4 (.slot 0) false,.segs [.hole (.L 4)] (.cap (.slot 1) 0) false,.fn 1 204 [.ptr 2 4]],[.ty .I],u2 (q19 F)⟩
theorem qes:(q5f F).ok pp:=
 oF (q5s F) (fn:=Tryz.f195) (aM (qda F) aN)
def zyd:List ToldF:=[qi6 F,qr2 F,qr3 F,q5f F]
theorem qt7:q01 pp (zyd F):=⟨z1y F,zne F,znf F,qes F,trivial⟩
def zye:TL:=⟨68,[.segs [.hole (.L 8)] (.slot 4) true,.ptr 4 1 8,.segs [.hole (.L 2)] (.slot 5) true,.ptr 5 2 2,.segs [.hole (.L 64)] (.slot 8) true,.ptr 8 3 64,.segs [.hole (.L 16)] (.slot 9) true,.ptr 9 4 16,.slot 24 (.L 64),.slot 25 .I],[.segs [.hole (.L 8)] (.slot 4) true,.ptr 4 1 8,.segs [.hole (.L 2)] (.slot 5) true,.ptr 5 2 2,.segs [.hole (.L 16)] (.slot 9) true,.ptr 9 3 16],0,fun k=>u6 (q9z F k),fun k=>u6 (qjx F (q9z F k))⟩
theorem zyf:(zye F).ok pp Tryz.f137 F:=
 oL (qt7 F) aN
def zyg:TL:=⟨68,[.segs [.hole (.L 8)] (.slot 4) true,.ptr 4 1 8,.segs [.hole (.L 2)] (.slot 5) true,.ptr 5 2 2,.segs [.hole (.L 16)] (.slot 9) true,.ptr 9 3 16,.slot 50 (.L 16),.slot 51 .I],[.segs [.hole (.L 8)] (.slot 4) true,.ptr 4 1 8,.segs [.hole (.L 2)] (.slot 5) true,.ptr 5 2 2,.segs [.hole (.L 16)] (.slot 9) true,.ptr 9 3 16],2,fun k=>u5 (q7f F k),fun k=>u5 (qjy F (q7f F k))⟩
theorem zyh:(zyg F).ok pp Tryz.f137 F:=
 oL (qt7 F) aN
def z38:ToldF:=⟨137,3,[.slot 0 (.L 64),.slot 1 (.L 8),.slot 2 (.L 2)],[.row .u8 1],u3 (qeb F)⟩
theorem j2d:(z38 F).ok pp:=
 oF (qt7 F) (fn:=Tryz.f137) (aM (zyf F) (aM (zyh F) aN))
def qw0:List ToldF:=[q2g F,qfr F,q5q F,z37 F,z38 F]
theorem q37:q01 pp (qw0 F):=⟨q4s F,qzc F,qb8 F,j2c F,j2d F,trivial⟩
def qw1:TL:=⟨110,[.row .u8 1 (.cell (.slot 0) 65) false,.segs [.J,.hole (.L 64),.sl 1 1 .whole,.J] (.slot 0) true (some 1),.ptr 0 2 67,.slot 1 .I,.segs [.hole (.L 8)] (.slot 6) true,.ptr 6 3 8,.segs [.hole (.L 2)] (.slot 7) true,.ptr 7 4 2,.slot 8 .I,.slot 9 .I,.slot 50 .I,.slot 51 (.bool),.slot 55 .I,.slot 58 (.L 2),.slot 59 .I],[.row .u8 1 (.cell (.slot 0) 65) false,.segs [.J,.hole (.L 64),.sl 1 1 .whole,.J] (.slot 0) true (some 1),.ptr 0 2 67,.slot 1 .I,.segs [.hole (.L 8)] (.slot 6) true,.ptr 6 3 8,.segs [.hole (.L 2)] (.slot 7) true,.ptr 7 4 2,.slot 8 .I,.slot 50 .I,.slot 51 (.bool),.slot 55 .I],4,fun k=>u14 (q1q F k),fun k=>u14 (q5n F (q1q F k))⟩
theorem q95:(qw1 F).ok pp Tryz.f64 F:=
 oL (q37 F) aN
def qw2:TL:=⟨110,[.row .u8 1 (.cell (.slot 0) 65) false,.segs [.J,.hole (.L 64),.sl 1 1 .whole,.J] (.slot 0) true (some 1),.ptr 0 2 67,.slot 1 .I,.segs [.hole (.L 8)] (.slot 6) true,.ptr 6 3 8,.segs [.hole (.L 2)] (.slot 7) true,.ptr 7 4 2,.slot 8 .I,.slot 50 .I,.slot 51 (.bool),.slot 55 .I],[.row .u8 1 (.cell (.slot 0) 65) false,.segs [.J,.hole (.L 64),.sl 1 1 .whole,.J] (.slot 0) true (some 1),.ptr 0 2 67,.slot 1 .I,.segs [.hole (.L 8)] (.slot 6) true,.ptr 6 3 8,.segs [.hole (.L 2)] (.slot 7) true,.ptr 7 4 2,.slot 8 .I,.slot 50 .I,.slot 51 (.bool)],2,fun k=>u11 (q1r F k),fun k=>u11 (q5o F (q1r F k))⟩
theorem qfa:(qw2 F).ok pp Tryz.f64 F:=
 oL (q37 F) (aM (q95 F) aN)
def qw3:TL:=⟨110,[.row .u8 1 (.cell (.slot 0) 65) false,.segs [.J,.hole (.L 64),.sl 1 1 .whole,.J] (.slot 0) true (some 1),.ptr 0 2 67,.slot 1 .I,.segs [.hole (.L 8)] (.slot 6) true,.ptr 6 3 8,.segs [.hole (.L 2)] (.slot 7) true,.ptr 7 4 2,.slot 8 .I,.slot 50 .I,.slot 51 (.bool),.slot 89 .I],[.row .u8 1 (.cell (.slot 0) 65) false,.segs [.J,.hole (.L 64),.sl 1 1 .whole,.J] (.slot 0) true (some 1),.ptr 0 2 67,.slot 1 .I,.segs [.hole (.L 8)] (.slot 6) true,.ptr 6 3 8,.segs [.hole (.L 2)] (.slot 7) true,.ptr 7 4 2,.slot 8 .I,.slot 50 .I,.slot 51 (.bool)],6,fun k=>u11 (q1s F k),fun k=>u11 (q5p F (q1s F k))⟩
theorem qfb:(qw3 F).ok pp Tryz.f64 F:=
 oL (q37 F) aN
def qw4:TL:=⟨110,[.row .u8 1 (.cell (.slot 0) 65) false,.segs [.J,.hole (.L 64),.sl 1 1 .whole,.J] (.slot 0) true (some 1),.ptr 0 2 67,.slot 1 .I,.segs [.hole (.L 8)] (.slot 6) true,.ptr 6 3 8,.segs [.hole (.L 2)] (.slot 7) true,.ptr 7 4 2,.slot 8 .I],[.row .u8 1 (.cell (.slot 0) 65) false,.segs [.J,.hole (.L 64),.sl 1 1 .whole,.J] (.slot 0) true (some 1),.ptr 0 2 67],0,fun k=>u8 (q0t F k),fun k=>u8 (q2e F (q0t F k))⟩
theorem qw5:(qw4 F).ok pp Tryz.f64 F:=
 oL (q37 F) (aM (q95 F) (aM (qfa F) (aM (qfb F) aN)))
def qet:ToldF:=⟨64,2,[.row .u8 1 (.cell (.slot 0) 65) false,.segs [.J,.hole (.L 64),.sl 1 1 .whole,.J] (.slot 0) true (some 1),.ptr 0 2 67,.slot 1 .I],[.psegs 1 [.J,.hole (.L 64),.row .u8 1 false,.J]],u5 (q6c F)⟩
theorem qzi:(qet F).ok pp:=
 oF (q37 F) (fn:=Tryz.f64) (aM (q95 F) (aM (qfa F) (aM (qfb F) (aM (qw5 F) aN))))
def zyi:List ToldF:=[qb2 F,qls F,q5q F,qd2 F,qvd F,qzh F,qet F]
theorem z73:q01 pp (zyi F):=⟨qlo F,z6b F,qb8 F,qvz F,zsd F,zy8 F,qzi F,trivial⟩
def zyj:TL:=⟨96,[.slot 0 .I,.slot 2 .I,.segs [.hole (.L 64)] (.slot 4) true,.ptr 4 1 64,.row .u8 1 (.cell (.slot 11) 65) false,.segs [.J,.hole (.L 64),.sl 2 1 .whole,.J] (.slot 11) true,.ptr 11 3 67,.slot 12 .I],[.row .u8 1 (.cell (.slot 11) 65) false,.segs [.J,.hole (.L 64),.sl 1 1 .whole,.J] (.slot 11) true,.ptr 11 2 67],0,fun k=>u8 (q1t F k),fun k=>u8 (q16 F (q1t F k))⟩
theorem zyk:(zyj F).ok pp Tryz.f22 F:=
 oL (z73 F) aN
def qov:ToldF:=⟨22,3,[.slot 0 .I,.slot 1 (.L 64),.slot 2 .I],[.row .u8 1 false,.ty .I,.ty .I],u3 (q1e F)⟩
theorem zc6:(qov F).ok pp:=
 oF (z73 F) (fn:=Tryz.f22) (aM (zyk F) aN)
def znh:List ToldF:=[z35 F,qov F]
theorem zni:q01 pp (znh F):=⟨j2a F,zc6 F,trivial⟩
def qvg:ToldF:=⟨21,0,[],[.ty (.bool)],u0 (ql7 F)⟩
theorem zsj:(qvg F).ok pp:=
 oF (zni F) (fn:=Tryz.f21) aN
def z4h:List ToldF:=[qva F,qza F,z34 F,qov F,qvg F]
theorem z4i:q01 pp (z4h F):=⟨zs4 F,zxv F,j29 F,zc6 F,zsj F,trivial⟩
def qiz:ToldF:=⟨8,2,[.slot 0 .I,.slot 1 (.L 64)],[.ty (.bool)],u2 (ql8 F)⟩
theorem z74:(qiz F).ok pp:=
 oF (z4i F) (fn:=Tryz.f8) aN
end
end Go.Proofs.YtdnccegimipapaaGreat
