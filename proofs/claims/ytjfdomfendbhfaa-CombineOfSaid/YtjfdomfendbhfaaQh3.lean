/- Part 3 of the proof. -/
import Derived.Test.YtjfdomfendbhfaaQh2
import Derived.Laws.Concat
set_option linter.unusedVariables false
set_option linter.unusedSimpArgs false
set_option maxRecDepth 100000
set_option maxHeartbeats 16000000
namespace Go.Proofs.Ytjfdomfendbhfaa
open Go.RowKit
theorem kH:ElemOk Try.prog 26 9 (.string ⟨#[]⟩) 16:=⟨Try.underlying26,by kernel_rfl,rfl⟩
def metL (n:Nat)(l:List Nat):List Bool:=(List.range n).map fun q=>decide (q∈l)
theorem qH (n:Nat)(l:List Nat):(metL n l).length=n:=by simp[metL]
theorem metL_get {n:Nat}{l:List Nat}{q:Nat}(h:q<n):(metL n l).getD q false=decide (q∈l):=by
 rw[zG (by rw[qH];exact h)];simp[metL]
theorem qEX {n:Nat}{l:List Nat}{q:Nat}:(metL n l).set q true=metL n (l++[q]):=by
 refine List.ext_getElem (by simp[metL]) fun i h1 h2=>?_;rw[List.getElem_set];simp only[metL,List.getElem_map,List.getElem_range,List.mem_append,List.mem_singleton];by_cases e:q=i
 ·subst e;simp
 ·rw[if_neg e];congr 1;simp[Ne.symm e]
theorem metL_nil (n:Nat):metL n []=List.replicate n false:=by
 refine List.ext_getElem (by simp[metL]) fun i h1 h2=>by simp[metL]
def dV (ws:List ByteArray):Prop:=∀j,j<ws.length->(ws.getD j ⟨#[]⟩).size<=j
def strV (ws:List ByteArray):List Value:=ws.map Value.string
theorem dV.snoc {ws:List ByteArray}{x:ByteArray}(h:dV ws)(hx:x.size<=ws.length):dV (ws++[x]):=by
 intro j hj;rw[List.length_append,List.length_singleton]at hj;by_cases h1:j<ws.length
 ·have:=h j h1
  simpa [List.getD,List.getElem?_append_left h1] using this
 ·have:j=ws.length:=by omega
  subst this;simpa [List.getD] using hx
theorem strV_snoc (ws:List ByteArray)(x:ByteArray):strV (ws++[x])=strV ws++[.string x]:=by simp[strV]
def AccOk (w:World)(l:List Nat)(e:Ending)(w':World):Prop :=
 ∃(sa:Option Addr) (sc:Nat) (v:Value),e=.returned (.tuple #[.slice sa l.length sc,v])/\w'.ownsRow w.heap.size 3 1 (.slice sa l.length sc) l.length (nats l)/\w.grownBy w' none
inductive acc13I (P sa sb sc sd s a1 i0:Nat)(m:List Nat)(ws:List ByteArray)(u X:ByteArray)(F:Nat->Prop)(w5:World)(a0:Act)(l:Array Bool)(a:Act)(w:World):Prop
 | mk (x55:Value) (x56:Value) (x65:Value) (x66:Value) (x67:Value) (x68:Value) (x69:Value) (x4:Value) (x5:Value) (vA:Value) (nA:Nat) (xA:List Value) (vB:Value) (nB:Nat) (xB:List Value) (ls:List (Nat×Obj)) (ha:a=yJ a0 [(55,x55),(56,x56),(65,x65),(66,x66),(67,x67),(68,x68),(69,x69),(4,x4),(5,x5)]) (HR:∀j∈[0,1,4,5,6,7,8,9,10,11],l.getD j true=true) (H2:Hid (l.getD 2 true=true->∃g,x55=.slice (some ⟨g,0,none⟩) 1 1/\(g,Obj.cells #[Value.int .i64 (s:Int)] 3 (0,0))∈ls)) (H3n:Hid (l.getD 3 true=false->vA=.slice (some ⟨sa,0,none⟩) m.length sc/\m.length=nA/\xA=nats m)) (H3:Hid (l.getD 3 true=true->∃ra rc,vA=.slice ra (m.length+1) rc/\x56=.slice ra (m.length+1) rc/\nA=m.length+1/\xA=nats m++[Value.int .i64 (s:Int)])) (H12:Hid (l.getD 12 true=true->∃g,x65=.slice (some ⟨g,0,none⟩) 1 1/\(g,Obj.cells #[Value.int .u8 (97+(a1:Int))] 5 (0,0))∈ls)) (H13:Hid (l.getD 13 true=true->x66=.string X)) (H14:Hid (l.getD 14 true=true->x67=.string (u++X))) (H15:Hid (l.getD 15 true=true->∃g,x68=.slice (some ⟨g,0,none⟩) 1 1/\(g,Obj.cells #[Value.string (u++X)] 9 (0,0))∈ls)) (H16n:Hid (l.getD 16 true=false->vB=.slice (some ⟨sb,0,none⟩) m.length sd/\m.length=nB/\xB=strV ws)) (H16:Hid (l.getD 16 true=true->l.getD 3 true=true/\∃ra rc,vB=.slice ra (m.length+1) rc/\x69=.slice ra (m.length+1) rc/\nB=m.length+1/\xB=strV ws++[Value.string (u++X)])) (H17:Hid (l.getD 17 true=true->l.getD 3 true=true/\x4=x56)) (H18:Hid (l.getD 18 true=true->l.getD 16 true=true/\x5=x69)) (HM:(Many w5 F w [⟨P,3,vA,nA,xA,1⟩,⟨P,9,vB,nB,xB,1⟩] ls [(sb,9,strV ws)]))
theorem acc13_G {P sa sb sc sd s a1 i0:Nat}{m:List Nat}{ws:List ByteArray}{u X:ByteArray}{F:Nat->Prop}{w5:World}{a0:Act}{l:Array Bool}{a:Act}{w:World}(hpre:∀W rs ls,Many w5 F W rs ls [(sb,9,strV ws)]->W.cell? ⟨sb,i0,none⟩=some (.string u))(h:acc13I P sa sb sc sd s a1 i0 m ws u X F w5 a0 l a w):uI 99 (fun W=>W.cell? ⟨sb,i0,none⟩=some (.string u)) (fun W=>W.cell? ⟨sb,i0,none⟩=some (.string u)) l w:=by
 obtain⟨x55,x56,x65,x66,x67,x68,x69,x4,x5,vA,nA,xA,vB,nB,xB,ls,ha,HR,H2,h1,H3,h8,h7,h6,h5,h0,h4,h3,h2,HM⟩:=h;exact⟨hpre w _ _ HM,fun _=>hpre w _ _ HM⟩
theorem pQ {P sa sb sc sd s a1 i0:Nat}{m:List Nat}{ws:List ByteArray}{u X:ByteArray}{F:Nat->Prop}{w5:World}{a0:Act}{l:Array Bool}{a:Act}{w:World}(h:acc13I P sa sb sc sd s a1 i0 m ws u X F w5 a0 l a w):∀j∈[0,1,4,5,6,7,8,9,10,11],l.getD j true=true:=by
 obtain⟨x55,x56,x65,x66,x67,x68,x69,x4,x5,vA,nA,xA,vB,nB,xB,ls,ha,HR,H2,h1,H3,h8,h7,h6,h5,h0,h4,h3,h2,HM⟩:=h;exact HR
theorem acc13_steps {P sa sb sc sd s a1 i0:Nat}{m:List Nat}{ws:List ByteArray}{u X:ByteArray}{F:Nat->Prop}{w5:World}{v0 v1 v2 v3 v4 v5 v6 v7 v8 v9 v10 v11 v12 v13 v14 v15 v16 v17 v18 v19 v20 v21 v22 v23 v24 v25 v26 v27 v28 v29 v30 v31 v32 v33 v34 v35 v36 v37 v38 v39 v40 v41 v42 v43 v44 v45 v46 v47 v48 v49 v50 v51 v52 v55 v56 v65 v66 v67 v68 v69 v70 v71:Value}{dd:_}{a0:Act}(ha0:a0=⟨#[v0,v1,v2,v3,v4,v5,v6,v7,v8,v9,v10,v11,v12,v13,v14,v15,v16,v17,v18,v19,v20,v21,v22,v23,v24,v25,v26,v27,v28,v29,v30,v31,v32,v33,v34,v35,v36,v37,v38,v39,v40,v41,v42,v43,v44,v45,v46,v47,v48,v49,v50,v51,v52,.slice (some ⟨sa,0,none⟩) m.length sc,.int .i64 (s:Int),v55,v56,.slice (some ⟨sb,0,none⟩) m.length sd,.slice (some ⟨sb,0,none⟩) m.length sd,.int .i64 (i0:Int),.pointer (some ⟨sb,i0,none⟩),.string u,.int .i64 (a1:Int),.int .i64 (97+(a1:Int)),.int .u8 (97+(a1:Int)),v65,v66,v67,v68,v69,v70,v71],dd⟩)(hml:m.length<=4194304)(hbase:P<=w5.heap.size)(hcv:∀(W:World) (g:Nat),W.cell? ⟨g,0,none⟩=some (.int .u8 (97+(a1:Int)))->(convert 106 9 (.slice (some ⟨g,0,none⟩) 1 1)).run Try.prog W=.ok (.string X) W)(hcc:∀W:World,(Op.stringOp .add u X).run Try.prog W=.ok (.string (u++X)) W)(ops7:Array Oper)(Q7:Exit->Act->World->Prop):gG (qIB Try.prog .any ops7 Q7 (acc13I P sa sb sc sd s a1 i0 m ws u X F w5 a0)) 0 (qBK Try.f105 13).toList:=by
 refine⟨?s0,?s1,?s2,?s3,?s4,?s5,?s6,?s7,?s8,?s9,?s10,?s11,?s12,?s13,?s14,?s15,?s16,?s17,?s18,trivial⟩
 case s0 =>
  exact fun l a w h h3=>absurd (pQ h 0 (by simp)) (by rw[h3];simp)
 case s1 =>
  exact fun l a w h h3=>absurd (pQ h 1 (by simp)) (by rw[h3];simp)
 case s2 =>
  intro l a w h h3 h0 K hK;obtain⟨x55,x56,x65,x66,x67,x68,x69,x4,x5,vA,nA,xA,vB,nB,xB,ls,ha,HR,H2,h5,H3,H4,H1,H0,h9,h4,h8,h7,h6,HM⟩:=h;subst ha;rw[ha0];simp only[yJ,List.foldl_cons,List.foldl_nil,Act.put,sPa,sPb,sPc];go_simp;refine hK.out _ _ ?_;refine⟨(.slice (some ⟨w.heap.size,0,none⟩) 1 1),x56,x65,x66,x67,x68,x69,x4,x5,vA,nA,xA,vB,nB,xB,((w.heap.size,Obj.cells #[Value.int .i64 (s:Int)] 3 (0,0))::ls),?fa2,fun j hj=>zS (HR j hj),Kh (fun _=>⟨w.heap.size,rfl,List.Mem.head _⟩),(hsN h5),(hsP H3),Kh (fun h=>let ⟨g,h1,h2⟩:=H4.out (yS (by decide) h);⟨g,h1,List.Mem.tail _ h2⟩),(hsP H1),(hsP H0),Kh (fun h=>let ⟨g,h1,h2⟩:=h9.out (yS (by decide) h);⟨g,h1,List.Mem.tail _ h2⟩),(hsN h4),(hsQ h8),(hsQ h7),(hsQ h6),HM.alloc (.cells #[Value.int .i64 (s:Int)] 3)⟩
  case fa2=>rw[ha0];simp only[yJ,List.foldl_cons,List.foldl_nil,Act.put,sPa,sPb,sPc]
 case s3 =>
  intro l a w h h3 h0 K hK;obtain⟨x55,x56,x65,x66,x67,x68,x69,x4,x5,vA,nA,xA,vB,nB,xB,ls,ha,HR,H2,h5,H3,H4,H1,H0,h9,h4,h8,h7,h6,HM⟩:=h;have DH2:=H2.out (yH (h0 ⟨2,.data⟩ (by simp) rfl));obtain⟨g5,rfl,H5⟩:=DH2;obtain⟨rfl,rfl,rfl⟩:=h5.out h3;subst ha;rw[ha0];simp only[yJ,List.foldl_cons,List.foldl_nil,Act.put,sPa,sPb,sPc];refine mR (by simp[Region.wanted]) (.tmp 53) (.tmp 55) 34 rfl yP 0 g5 1 rfl HM rfl rfl rfl rfl ?g13 ?g23 ?g33 H5 rfl ?_
  case g13=>show m.length+1<=maxLen;unfold maxLen;omega
  case g23=>show (m.length+1)*8<=140737488355328;omega
  case g33=>exact hbase
  intro sa2 sc2 w6 H7 H8;refine hK.out _ _ ?_;refine⟨(.slice (some ⟨g5,0,none⟩) 1 1),(.slice sa2 (m.length+1) sc2),x65,x66,x67,x68,x69,x4,x5,(.slice sa2 (m.length+1) sc2),(m.length+1),(nats m++[Value.int .i64 (s:Int)]),vB,nB,xB,ls,?fa3,fun j hj=>zS (HR j hj),Kh (fun _=>⟨g5,rfl,H5⟩),Kh (fun h=>uD h),Kh (fun _=>⟨sa2,sc2,rfl,rfl,rfl,rfl⟩),(hsP H4),(hsP H1),(hsP H0),(hsP h9),(hsN h4),(hsA h8 h3),(hsA h7 h3),(hsQ h6),H7⟩
  case fa3=>rw[ha0];simp only[yJ,List.foldl_cons,List.foldl_nil,Act.put,sPa,sPb,sPc]
 case s4 =>
  exact fun l a w h h3=>absurd (pQ h 4 (by simp)) (by rw[h3];simp)
 case s5 =>
  exact fun l a w h h3=>absurd (pQ h 5 (by simp)) (by rw[h3];simp)
 case s6 =>
  exact fun l a w h h3=>absurd (pQ h 6 (by simp)) (by rw[h3];simp)
 case s7 =>
  exact fun l a w h h3=>absurd (pQ h 7 (by simp)) (by rw[h3];simp)
 case s8 =>
  exact fun l a w h h3=>absurd (pQ h 8 (by simp)) (by rw[h3];simp)
 case s9 =>
  exact fun l a w h h3=>absurd (pQ h 9 (by simp)) (by rw[h3];simp)
 case s10 =>
  exact fun l a w h h3=>absurd (pQ h 10 (by simp)) (by rw[h3];simp)
 case s11 =>
  exact fun l a w h h3=>absurd (pQ h 11 (by simp)) (by rw[h3];simp)
 case s12 =>
  intro l a w h h3 h0 K hK;obtain⟨x55,x56,x65,x66,x67,x68,x69,x4,x5,vA,nA,xA,vB,nB,xB,ls,ha,HR,H2,h5,H3,H4,H1,H0,h9,h4,h8,h7,h6,HM⟩:=h;subst ha;rw[ha0];simp only[yJ,List.foldl_cons,List.foldl_nil,Act.put,sPa,sPb,sPc];go_simp;refine hK.out _ _ ?_;refine⟨x55,x56,(.slice (some ⟨w.heap.size,0,none⟩) 1 1),x66,x67,x68,x69,x4,x5,vA,nA,xA,vB,nB,xB,((w.heap.size,Obj.cells #[Value.int .u8 (97+(a1:Int))] 5 (0,0))::ls),?fa12,fun j hj=>zS (HR j hj),Kh (fun h=>let ⟨g,h1,h2⟩:=H2.out (yS (by decide) h);⟨g,h1,List.Mem.tail _ h2⟩),(hsN h5),(hsP H3),Kh (fun _=>⟨w.heap.size,rfl,List.Mem.head _⟩),(hsP H1),(hsP H0),Kh (fun h=>let ⟨g,h1,h2⟩:=h9.out (yS (by decide) h);⟨g,h1,List.Mem.tail _ h2⟩),(hsN h4),(hsQ h8),(hsQ h7),(hsQ h6),HM.alloc (.cells #[Value.int .u8 (97+(a1:Int))] 5)⟩
  case fa12=>rw[ha0];simp only[yJ,List.foldl_cons,List.foldl_nil,Act.put,sPa,sPb,sPc]
 case s13 =>
  intro l a w h h3 h0 K hK;obtain⟨x55,x56,x65,x66,x67,x68,x69,x4,x5,vA,nA,xA,vB,nB,xB,ls,ha,HR,H2,h5,H3,H4,H1,H0,h9,h4,h8,h7,h6,HM⟩:=h;have DH12:=H4.out (yH (h0 ⟨12,.data⟩ (by simp) rfl));obtain⟨g5,rfl,H5⟩:=DH12;subst ha;rw[ha0];simp only[yJ,List.foldl_cons,List.foldl_nil,Act.put,sPa,sPb,sPc];have hq:=hcv w g5 (HM.litcell H5);go_simp;refine hK.out _ _ ?_;refine⟨x55,x56,(.slice (some ⟨g5,0,none⟩) 1 1),(.string X),x67,x68,x69,x4,x5,vA,nA,xA,vB,nB,xB,ls,?fa13,fun j hj=>zS (HR j hj),(hsP H2),(hsN h5),(hsP H3),Kh (fun _=>⟨g5,rfl,H5⟩),Kh (fun _=>rfl),(hsP H0),(hsP h9),(hsN h4),(hsQ h8),(hsQ h7),(hsQ h6),HM⟩
  case fa13=>rw[ha0];simp only[yJ,List.foldl_cons,List.foldl_nil,Act.put,sPa,sPb,sPc]
 case s14 =>
  intro l a w h h3 h0 K hK;obtain⟨x55,x56,x65,x66,x67,x68,x69,x4,x5,vA,nA,xA,vB,nB,xB,ls,ha,HR,H2,h5,H3,H4,H1,H0,h9,h4,h8,h7,h6,HM⟩:=h;have DH13:=H1.out (yH (h0 ⟨13,.data⟩ (by simp) rfl));subst DH13;subst ha;rw[ha0];simp only[yJ,List.foldl_cons,List.foldl_nil,Act.put,sPa,sPb,sPc];go_simp;refine hK.out _ _ ?_;refine⟨x55,x56,x65,(.string X),(.string (u++X)),x68,x69,x4,x5,vA,nA,xA,vB,nB,xB,ls,?fa14,fun j hj=>zS (HR j hj),(hsP H2),(hsN h5),(hsP H3),(hsP H4),Kh (fun _=>rfl),Kh (fun _=>rfl),(hsP h9),(hsN h4),(hsQ h8),(hsQ h7),(hsQ h6),HM⟩
  case fa14=>rw[ha0];simp only[yJ,List.foldl_cons,List.foldl_nil,Act.put,sPa,sPb,sPc]
 case s15 =>
  intro l a w h h3 h0 K hK;obtain⟨x55,x56,x65,x66,x67,x68,x69,x4,x5,vA,nA,xA,vB,nB,xB,ls,ha,HR,H2,h5,H3,H4,H1,H0,h9,h4,h8,h7,h6,HM⟩:=h;have DH14:=H0.out (yH (h0 ⟨14,.data⟩ (by simp) rfl));subst DH14;subst ha;rw[ha0];simp only[yJ,List.foldl_cons,List.foldl_nil,Act.put,sPa,sPb,sPc];go_simp;refine hK.out _ _ ?_;refine⟨x55,x56,x65,x66,(.string (u++X)),(.slice (some ⟨w.heap.size,0,none⟩) 1 1),x69,x4,x5,vA,nA,xA,vB,nB,xB,((w.heap.size,Obj.cells #[Value.string (u++X)] 9 (0,0))::ls),?fa15,fun j hj=>zS (HR j hj),Kh (fun h=>let ⟨g,h1,h2⟩:=H2.out (yS (by decide) h);⟨g,h1,List.Mem.tail _ h2⟩),(hsN h5),(hsP H3),Kh (fun h=>let ⟨g,h1,h2⟩:=H4.out (yS (by decide) h);⟨g,h1,List.Mem.tail _ h2⟩),(hsP H1),Kh (fun _=>rfl),Kh (fun _=>⟨w.heap.size,rfl,List.Mem.head _⟩),(hsN h4),(hsQ h8),(hsQ h7),(hsQ h6),HM.alloc (.cells #[Value.string (u++X)] 9)⟩
  case fa15=>rw[ha0];simp only[yJ,List.foldl_cons,List.foldl_nil,Act.put,sPa,sPb,sPc]
 case s16 =>
  intro l a w h h3 h0 K hK;obtain⟨x55,x56,x65,x66,x67,x68,x69,x4,x5,vA,nA,xA,vB,nB,xB,ls,ha,HR,H2,h5,H3,H4,H1,H0,h9,h4,h8,h7,h6,HM⟩:=h;have DH15:=h9.out (yH (h0 ⟨15,.data⟩ (by simp) rfl));obtain⟨g5,rfl,H5⟩:=DH15;obtain⟨rfl,rfl,rfl⟩:=h4.out h3;have a2:=yH (h0 ⟨3,.chain⟩ (by simp) rfl);subst ha;rw[ha0];simp only[yJ,List.foldl_cons,List.foldl_nil,Act.put,sPa,sPb,sPc];refine mR (by simp[Region.wanted]) (.tmp 57) (.tmp 68) 26 rfl kH 1 g5 1 rfl HM rfl rfl rfl rfl ?g116 ?g216 ?g316 H5 rfl ?_
  case g116=>show m.length+1<=maxLen;unfold maxLen;omega
  case g216=>show (m.length+1)*16<=140737488355328;omega
  case g316=>exact hbase
  intro sa2 sc2 w6 H7 H8;refine hK.out _ _ ?_;refine⟨x55,x56,x65,x66,x67,(.slice (some ⟨g5,0,none⟩) 1 1),(.slice sa2 (m.length+1) sc2),x4,x5,vA,nA,xA,(.slice sa2 (m.length+1) sc2),(m.length+1),(strV ws++[Value.string (u++X)]),ls,?fa16,fun j hj=>zS (HR j hj),(hsP H2),(hsN h5),(hsP H3),(hsP H4),(hsP H1),(hsP H0),Kh (fun _=>⟨g5,rfl,H5⟩),Kh (fun h=>uD h),Kh (fun _=>⟨zS a2,sa2,sc2,rfl,rfl,rfl,rfl⟩),(hsQ h7),(hsA h6 h3),H7⟩
  case fa16=>rw[ha0];simp only[yJ,List.foldl_cons,List.foldl_nil,Act.put,sPa,sPb,sPc]
 case s17 =>
  intro l a w h h3 h0 K hK;obtain⟨x55,x56,x65,x66,x67,x68,x69,x4,x5,vA,nA,xA,vB,nB,xB,ls,ha,HR,H2,h5,H3,H4,H1,H0,h9,h4,h8,h7,h6,HM⟩:=h;have DH3:=H3.out (yH (h0 ⟨3,.data⟩ (by simp) rfl));obtain⟨ra,rc,rfl,rfl,rfl,rfl⟩:=DH3;have H6:=yH (h0 ⟨3,.data⟩ (by simp) rfl);subst ha;rw[ha0];simp only[yJ,List.foldl_cons,List.foldl_nil,Act.put,sPa,sPb,sPc];go_simp;refine hK.out _ _ ?_;refine⟨x55,(.slice ra (m.length+1) rc),x65,x66,x67,x68,x69,(.slice ra (m.length+1) rc),x5,(.slice ra (m.length+1) rc),(m.length+1),(nats m++[Value.int .i64 (s:Int)]),vB,nB,xB,ls,?fa17,fun j hj=>zS (HR j hj),(hsP H2),Kh (fun h=>absurd (zS H6) (by rw[h];simp)),Kh (fun _=>⟨ra,rc,rfl,rfl,rfl,rfl⟩),(hsP H4),(hsP H1),(hsP H0),(hsP h9),(hsN h4),(hsQ h8),Kh (fun _=>⟨zS H6,rfl⟩),(hsQ h6),HM⟩
  case fa17=>rw[ha0];simp only[yJ,List.foldl_cons,List.foldl_nil,Act.put,sPa,sPb,sPc]
 case s18 =>
  intro l a w h h3 h0 K hK;obtain⟨x55,x56,x65,x66,x67,x68,x69,x4,x5,vA,nA,xA,vB,nB,xB,ls,ha,HR,H2,h5,H3,H4,H1,H0,h9,h4,h8,h7,h6,HM⟩:=h;have DH16:=h8.out (yH (h0 ⟨16,.data⟩ (by simp) rfl));obtain⟨H9,ra,rc,rfl,rfl,rfl,rfl⟩:=DH16;have H6:=yH (h0 ⟨16,.data⟩ (by simp) rfl);subst ha;rw[ha0];simp only[yJ,List.foldl_cons,List.foldl_nil,Act.put,sPa,sPb,sPc];go_simp;refine hK.out _ _ ?_;refine⟨x55,x56,x65,x66,x67,x68,(.slice ra (m.length+1) rc),x4,(.slice ra (m.length+1) rc),vA,nA,xA,(.slice ra (m.length+1) rc),(m.length+1),(strV ws++[Value.string (u++X)]),ls,?fa18,fun j hj=>zS (HR j hj),(hsP H2),(hsN h5),(hsP H3),(hsP H4),(hsP H1),(hsP H0),(hsP h9),Kh (fun h=>absurd (zS H6) (by rw[h];simp)),Kh (fun _=>⟨zS H9,ra,rc,rfl,rfl,rfl,rfl⟩),(hsQ h7),Kh (fun _=>⟨zS H6,rfl⟩),HM⟩
  case fa18=>rw[ha0];simp only[yJ,List.foldl_cons,List.foldl_nil,Act.put,sPa,sPb,sPc]
theorem access_any (B:Nat)(w:World)(v:Value)(d:DfaV)(n k:Nat)(hB:B<=w.heap.size)(h:tE B w v d)(hd:VD d n k):Calls Try.prog 105 #[v] w (AccOk w (zZ d k)):=by
 obtain⟨fb,fo,fc,b,off,cap,RB,RO,RC,rfl,b6⟩:=h.at hd;have hn:=hd.hn;have n3:=hd.n1;have g2:=hd.nbig;have n7:=hd.k6;have n8:=hd.k1;have o3:=b6.fcap.1;have c9:=b6.fcap.2;have o4:=b6.cap.1;have d4:=b6.cap.2;have k4:fc<=9223372036854775807:=by unfold maxLen at c9;omega
 have k3:cap<=9223372036854775807:=by unfold maxLen at d4;omega
 obtain⟨S,hS⟩:∃S,S=st0 d:=⟨_,rfl⟩;have i0:S<n:=by rw[hS];exact pU hd
 have i3:=Kh hS;rw[<-hS];obtain⟨wA,d5⟩:∃wA,wA=w.alloc (.cells #[.int .i64 (k:Int),.int .i64 (S:Int),.slice (some ⟨fb,fo,none⟩) n fc,.slice (some ⟨b,off,none⟩) n cap] 42):=⟨_,rfl⟩;have a1:wA.heap[w.heap.size]?=some (.cells #[.int .i64 (k:Int),.int .i64 (S:Int),.slice (some ⟨fb,fo,none⟩) n fc,.slice (some ⟨b,off,none⟩) n cap] 42 (0,0)):=by rw[d5];exact heap_alloc_new w _
 have e8:w.grownBy wA none:=by rw[d5];exact Ga w _ none
 have b5:wA.heap.size=w.heap.size+1:=by rw[d5,zL]
 obtain⟨c0,c1,c2,c3⟩:=zF a1;obtain⟨P,hP⟩:∃P,P=w.heap.size:=⟨_,rfl⟩;have i4:=Kh hP;rw[<-hP]at a1 c0 c1 c2 c3 b5 hB;have e5:=Kh a1;have l7:=Kh e8;have l3:=Kh d5;have m0:=Kh (b6.kept e8 (by simp));have HN:=Kh hn;have HD:=Kh hd;unfold dAgg;clear a1 e8 d5 b6 hn hd h c9 d4 hS;go_enter Try.func105,Try.ntmps105;go_upto_region 1 with fail;rw[<-l3.out,<-i4.out];clear hP;obtain⟨wB,b7⟩:∃wB,wB=(wA.alloc (.cells #[.int .i64 (S:Int)] 3)).alloc (.cells #[.string ⟨#[]⟩] 9):=⟨_,rfl⟩
 have a7:wB.ownsRow (P+1) 3 1 (.slice (some ⟨P+1,0,none⟩) 1 1) 1 (nats [S]):=by
  rw[b7];have:=yU (World.ownsRow_lit wA #[.int .i64 (S:Int)] 1 (e:=3) (size:=1) (Nat.le_refl _) (by unfold maxLen;omega) (by simp)) (Nat.le_of_eq b5.symm);rw[b5]at this;exact this.alloc _
 have a6:wB.ownsRow (P+1) 9 1 (.slice (some ⟨P+1+1,0,none⟩) 1 1) 1 (strV [⟨#[]⟩]):=by
  rw[b7];have:=yU (World.ownsRow_lit (wA.alloc (.cells #[.int .i64 (S:Int)] 3)) #[.string ⟨#[]⟩] 1 (e:=9) (size:=1) (Nat.le_refl _) (by unfold maxLen;omega) (by simp)) (base':=P+1) (by rw[zL,b5];omega);rw[zL,b5]at this;exact this
 have g3:wA.grownBy wB none:=by rw[b7];exact vO (Ga wA _ none) _
 have l2:=Kh b7;have i6:=Kh a7;have i5:=Kh a6;have f8:=Kh g3;have j5:wB.heap.size=P+1+1+1:=by rw[b7,zL,zL,b5]
 clear b7 a7 a6 g3;go_upto_region 2 with fail;rw[<-l2.out];obtain⟨d0,d1,d2,d3⟩:=zF (zB e5.out f8.out (by simp));go_upto_region 3 with (first|(at_make;refine kC rfl _ _ _ rfl xJ rfl .i64 .i64 _ _ n rfl rfl rfl rfl ?b1 ?b2 ?_;(case b1=>omega);(case b2=>(unfold maxLen;omega));intro w2 h0 e2 e7)|fail)
 clear d0 d1 d2 d3;obtain⟨d0,d1,d2,d3⟩:=zF (zB e5.out (zD f8.out e2) (by simp));obtain⟨G,hG⟩:∃G,G=P+1+1+1:=⟨_,rfl⟩;have i1:wB.heap.size=G:=by omega
 rw[i1]at h0;rw[<-hG];have o8:P+2<G:=by omega
 clear hG j5 e7;rw[<-nE,<-metL_nil]at h0;have fS:=h0.frozen S;have cS:=h0.bool S (by rw[qH];exact i0);have e9:=h0.bool_set S (by rw[qH];exact i0) true;rw[qEX,List.nil_append]at e9;have e1:wB.grownBy (w2.setCell ⟨G,S,none⟩ (.bool true)) none:=zA e2 (zC w2 ⟨G,S,none⟩ _) (fun q e=>by have h7:G=q:=Oj e;have:=e2.size;omega);have k2:G≠P+1:=by omega
 have k0:G≠P+1+1:=by omega
 have d6:AccI d n k 0 [S]:=by have:=AccI.start HD.out;rw[<-i3.out]at this;exact this
 have c7:rQ d k (n-0) 0 [S]=zZ d k:=by rw[zZ,HN.out,<-i3.out];rfl
 have h6:=Kh d6;have d8:=Kh c7;have j1:=Kh e9;have i9:=Kh (zD f8.out e1);have i7:=Kh (zY i6.out e1 (by simp));have i2:=Kh (zY i5.out e1 (by simp));have H1:Hid (dV [⟨#[]⟩]):=Kh (fun j hj=>by simp at hj;subst hj;simp[List.getD];rfl);clear h0 e2 e9 e1 d6 c7 i1;have k9:(S:Int)<n:=by omega
 go_wp2;clear d0 d1 d2 d3 fS cS c0 c1 c2 c3
 go_loopg [4,5,7] n (fun gh v4 v5 i wr=>∃(i':Nat) (l:List Nat) (ws:List ByteArray) (sa sb:Nat) (sc sd:Nat),gh+i'=n/\i=.int .i64 i'/\v4=.slice (some ⟨sa,0,none⟩) l.length sc/\v5=.slice (some ⟨sb,0,none⟩) l.length sd /\
  wr.ownsRow (P+1) 3 1 (.slice (some ⟨sa,0,none⟩) l.length sc) l.length (nats l)/\wr.ownsRow (P+1) 9 1 (.slice (some ⟨sb,0,none⟩) l.length sd) l.length (strV ws)/\Arr wr G 4 (bls (metL n l))/\AccI d n k i' l/\rQ d k (n-i') i' l=zZ d k/\i'<=l.length/\dV ws/\wA.grownBy wr none)
 case atStart=>exact⟨0,[S],[⟨#[]⟩],P+1,P+1+1,1,1,rfl,rfl,rfl,rfl,i7.out,i2.out,j1.out,h6.out,d8.out,by simp,H1.out,i9.out⟩
 case round =>
  clear i7 i2 j1 h6 d8 H1 i9 i6 i5;obtain⟨i',l,ws,sa,sb,sc,sd,hg,rfl,rfl,rfl,h2,h3,h0,a4,c7,o0,H9,H6⟩:=hrel;have n6:=mW a4.nd a4.lt;have HG:=Kh hg;have HO:=Kh h2;have HW:=Kh h3;have HA:=Kh h0;have h6:=Kh a4;have d8:=Kh c7;have H1:=Kh H9;have H8:=Kh H6;clear hg h2 h3 h0 a4 c7 H9 H6;by_cases hi:i'<l.length
  ·have o1:(i':Int)<l.length:=by omega
   have n9:i'<n:=(by omega);have a9:l.getD i' 0<n:=h6.out.lt _ (by rw[zG hi];exact List.getElem_mem _);obtain⟨q0,a8⟩:∃q0,q0=l.getD i' 0:=⟨_,rfl⟩;rw[<-a8]at a9;have f1:=Kh a8;clear a8;go_wp2
   go_loopg [4,5,8] k (fun gh v4 v5 i wr=>∃(a:Nat) (m:List Nat) (ws:List ByteArray) (sa sb:Nat) (sc sd:Nat),gh+a=k/\i=.int .i64 a/\m=wX d l i' a/\v4=.slice (some ⟨sa,0,none⟩) m.length sc/\v5=.slice (some ⟨sb,0,none⟩) m.length sd /\
    wr.ownsRow (P+1) 3 1 (.slice (some ⟨sa,0,none⟩) m.length sc) m.length (nats m)/\wr.ownsRow (P+1) 9 1 (.slice (some ⟨sb,0,none⟩) m.length sd) m.length (strV ws)/\Arr wr G 4 (bls (metL n m))/\dV ws/\wA.grownBy wr none)
   case atStart=>exact⟨0,l,ws,sa,sb,sc,sd,rfl,rfl,rfl,rfl,rfl,HO.out,HW.out,HA.out,H1.out,H8.out⟩
   case round =>
    clear HO HW HA H1 H8;obtain⟨a,m,ws,sa,sb,sc,sd,hg,rfl,hm,rfl,rfl,h2,h3,h0,H9,H6⟩:=hrel;have b4:=Kh hg;have HM:=Kh hm;have H0:=uY d l i' a;rw[<-hm]at H0;have n5:=H0.length_le;clear hg hm;by_cases ha:a<k
    ·have o6:(a:Int)<k:=by omega
     have b0:m.Nodup:=by rw[HM.out];exact mO h6.out.nd i' a
     have b3:∀q∈m,q<n:=by
      intro q hq;rw[HM.out]at hq;rcases tT.1 hq with hq|⟨b,hb,rfl⟩
      ·exact h6.out.lt q hq
      ·rw[<-f1.out];exact mA HD.out a9 (by omega)
     have n4:=mW b0 b3;have H7:=m0.out.kept H6 (by simp);obtain⟨d0,d1,d2,d3⟩:=zF (zB e5.out H6 (by simp));have cq:=(Arr.of_owns h2).nat i' (by omega);rw[qK H0 hi,<-f1.out]at cq;have ch:=H7.hd q0 a9;have ce:=H7.el q0 a a9 ha;have n2:=(H7.rcap q0 a9).1;have b9:=(H7.rcap q0 a9).2;have hs:=mA HD.out a9 ha;obtain⟨s,e6⟩:∃s,s=nx d q0 a:=⟨_,rfl⟩;rw[<-e6]at ce hs;have n0:(s:Int)<n:=(by omega);have j9:(q0:Int)<n:=(by omega);have j7:RC q0<=9223372036854775807:=by unfold maxLen at b9;omega
     have cm:=h0.bool s (by rw[qH];exact hs);rw[metL_get hs]at cm;have d7:Hid (wX d l i' (a+1)=xU m s):=Kh (by rw[wX,<-f1.out,<-e6,<-HM.out]);clear e6 b9 H7;by_cases hin2:s∈m
     ·rw[decide_eq_true hin2]at cm
      have f4:Hid (m=wX d l i' (a+1)):=Kh (by rw[d7.out,uX hin2]);have HO:=Kh h2;have HW:=Kh h3;have HA:=Kh h0;have H1:=Kh H9;have H8:=Kh H6;clear hin2 h2 h3 h0 H9 H6 b0 b3 H0;go_wp2
      go_quiet (fail)
      go_wp2;go_roundg (k-(a+1))
      case measure=>have:=b4.out;omega
      case rel =>
       have o2:=zM wr 1 none;exact⟨a+1,m,ws,sa,sb,sc,sd,by omega,by go_num,f4.out,rfl,rfl,zY HO.out (zM wr _ none) (by simp),zY HW.out (zM wr _ none) (by simp),HA.out.kept (zM wr _ none) (by simp),H1.out,zD H8.out (zM wr _ _)⟩
     ·rw[decide_eq_false hin2]at cm
      have f4:Hid (m++[s]=wX d l i' (a+1)):=Kh (by rw[d7.out,vE hin2]);have o9:=Kh hin2;have H1:=Kh H9;have H8:=Kh H6;have fm:wr.frozen? ⟨G,s,none⟩=false:=h0.frozen s;have H5:=Kh h2;have H4:=Kh h3;have h8:=Kh h0;clear hin2 h2 h3 h0 H9 H6 b0 b3 H0;go_upto_region 10 with fail
      go_quiet (fail)
      go_upto_region 13 with fail;obtain⟨w5,e0⟩:∃w5,w5=((wr.drewN nq).setCell ⟨G,s,none⟩ (.bool true)).drew:=⟨_,rfl⟩;have l5:=Kh e0;have c8:wr.grownBy w5 (some G):=by rw[e0];exact uC (zC wr ⟨G,s,none⟩ (.bool true)) rfl rfl rfl rfl
      have e3:Arr w5 G 4 (bls (metL n (m++[s]))):=by
       have h1:=h8.out.bool_set s (by rw[qH];exact hs) true;rw[qEX]at h1;rw[e0];exact h1.of_heap rfl
      have c4:w5.ownsRow (P+1) 3 1 (.slice (some ⟨sa,0,none⟩) m.length sc) m.length (nats m):=H5.out.kept c8 (.inr (by obtain⟨cur,rest,hq,_⟩:=h8.out;exact zQ H5.out hq (by decide)));have h9:w5.ownsRow (P+1) 9 1 (.slice (some ⟨sb,0,none⟩) m.length sd) m.length (strV ws):=H4.out.kept c8 (.inr (by obtain⟨cur,rest,hq,_⟩:=h8.out;exact zQ H4.out hq (by decide)))
      have c5:∀q,(Value.slice (some ⟨sa,0,none⟩) m.length sc).ownBlock=some q->(Value.slice (some ⟨sb,0,none⟩) m.length sd).ownBlock≠some q:=by
       intro q hq e;have:q=sb:=by simpa [Value.ownBlock] using e.symm
       subst this;obtain⟨cur,rest,j8,_⟩:=Arr.of_owns h9;exact zQ c4 j8 (by decide) hq
      have g1:ws.length=m.length:=by have:=h9.1;simpa [strV] using this
      obtain⟨u,hu⟩:∃u,u=ws.getD i' ⟨#[]⟩:=⟨_,rfl⟩;have m9:u.size<=i':=by rw[hu];exact H1.out i' (by omega)
      obtain⟨F,hF⟩:∃F:Nat->Prop,F=fun q=>(Value.slice (some ⟨sa,0,none⟩) m.length sc).ownBlock=some q\/(Value.slice (some ⟨sb,0,none⟩) m.length sd).ownBlock=some q:=⟨_,rfl⟩;have j0:=Kh hF
      have hM:Many w5 F w5 [⟨P+1,3,.slice (some ⟨sa,0,none⟩) m.length sc,m.length,nats m,1⟩,⟨P+1,9,.slice (some ⟨sb,0,none⟩) m.length sd,m.length,strV ws,1⟩] [] [(sb,9,strV ws)]:=by
       rw[hF];exact((Many.two (r:=⟨P+1,3,.slice (some ⟨sa,0,none⟩) m.length sc,m.length,nats m,1⟩) (s:=⟨P+1,9,.slice (some ⟨sb,0,none⟩) m.length sd,m.length,strV ws,1⟩) c4 h9 c5).see (j:=1) rfl rfl rfl)
      have a5:Hid (∀W rs ls,Many w5 F W rs ls [(sb,9,strV ws)]->W.cell? ⟨sb,i',none⟩=some (.string u)):=Kh (fun W rs ls h=>by
       have:=h.precell (List.Mem.head _) i' (by simp[strV];omega);rw[this,hu,zG (by omega)]
       simp[strV])
      have j6:P+1<=w5.heap.size:=by have:=c8.size;have:=H8.out.size;omega
      have l9:=Kh c8;have m2:=Kh e3;have l0:=Kh g1;have k8:IntKind.i64.wrap (97+(a:Int))=97+(a:Int):=IntWalk.i64_in _ (by omega);have o5:IntKind.u8.wrap (97+(a:Int))=97+(a:Int):=IntWalk.u8_in _ (by omega);obtain⟨X,hX⟩:∃X,X=strOfNums [97+(a:Int)]:=⟨_,rfl⟩;have o7:X.size=1:=by rw[hX];rfl
      have g5:∀(W:World) (g:Nat),W.cell? ⟨g,0,none⟩=some (.int .u8 (97+(a:Int)))->(convert 106 9 (.slice (some ⟨g,0,none⟩) 1 1)).run Try.prog W=.ok (.string X) W:=fun W g h=>by rw[hX];exact nU 106 5 Try.underlying106 Try.underlying5 9 Try.underlying9 h
      have g6:∀W:World,(Op.stringOp .add u X).run Try.prog W=.ok (.string (u++X)) W:=fun W=>run_string_add_sum W u X (by omega);have f3:Hid ((Value.slice (some ⟨sa,0,none⟩) m.length sc).ownBlock≠some G):=Kh (by obtain⟨cur,rest,hq,_⟩:=e3;exact zQ c4 hq (by decide));have f2:Hid ((Value.slice (some ⟨sb,0,none⟩) m.length sd).ownBlock≠some G):=Kh (by obtain⟨cur,rest,hq,_⟩:=e3;exact zQ h9 hq (by decide));have f6:Hid (∀q,(Value.slice (some ⟨sa,0,none⟩) m.length sc).ownBlock=some q->P+1<=q):=Kh (fun q hq=>(c4.lt q hq).1);have f5:Hid (∀q,(Value.slice (some ⟨sb,0,none⟩) m.length sd).ownBlock=some q->P+1<=q):=Kh (fun q hq=>(h9.lt q hq).1);clear hX;clear hF hu e0 c8 e3 c5 c4 h9 g1 cq ch ce cm fm d0 d1 d2 d3 H5 H4 h8;have k7:i'<m.length:=(by omega);have k5:(i':Int)<m.length:=(by omega);have p0:Hid (∀W rs ls,Many w5 F W rs ls [(sb,9,strV ws)]->W.cell? ⟨sb,i',none⟩=some (.string u)/\W.cell? ⟨sb,i',none⟩=some (.string u)):=Kh (fun W rs ls h=>⟨a5.out W rs ls h,a5.out W rs ls h⟩);refine wp_region_noPanic ?_;refine yY (G:=uI 99 (fun W=>W.cell? ⟨sb,i',none⟩=some (.string u)) (fun W=>W.cell? ⟨sb,i',none⟩=some (.string u))) (by kernel_rfl) ?_;rw[<-l5.out];have C:Hid (w5.cell? ⟨sb,i',none⟩=some (.string u)):=Kh (a5.out _ _ _ hM);refine zV 0 ⟨C.out,fun _=>C.out⟩ ?_;refine zV 1 ⟨C.out,fun _=>C.out⟩ ?_;refine zV 4 ⟨C.out,fun _=>C.out⟩ ?_;refine zV 5 ⟨C.out,fun _=>C.out⟩ ?_;refine zV 6 ⟨C.out,fun _=>C.out⟩ ?_;refine zV 7 ⟨C.out,fun _=>C.out⟩ ?_;refine zV 8 ⟨C.out,fun _=>C.out⟩ ?_;refine zV 9 ⟨C.out,fun _=>C.out⟩ ?_;refine zV 10 ⟨C.out,fun _=>C.out⟩ ?_;refine zV 11 ⟨C.out,fun _=>C.out⟩ ?_;refine iP (fun Wp hWp a0 ha0=>?_);subst hWp
      try simp only[Act.put,sPd,sPe,sPf,sPa,sPb,sPc]at ha0
      have m3:=Kh ha0;refine iO (I:=acc13I (P+1) sa sb sc sd s a i' m ws u X F w5 a0) (fun l a w h=>acc13_G a5.out h) (acc13_steps ha0 (by omega) j6 g5 g6) (by kernel_rfl) ?hend (by decide +kernel) ?hinit
      case hinit =>
       clear ha0;refine⟨a0.tmps.getD 55 undef,a0.tmps.getD 56 undef,a0.tmps.getD 65 undef,a0.tmps.getD 66 undef,a0.tmps.getD 67 undef,a0.tmps.getD 68 undef,a0.tmps.getD 69 undef,a0.tmps.getD 4 undef,a0.tmps.getD 5 undef,.slice (some ⟨sa,0,none⟩) m.length sc,m.length,nats m,.slice (some ⟨sb,0,none⟩) m.length sd,m.length,strV ws,[],(nT (by simp)).symm,by decide +kernel,Kh (fun h=>absurd h (by decide +kernel)),Kh (fun _=>⟨rfl,rfl,rfl⟩),Kh (fun h=>absurd h (by decide +kernel)),Kh (fun h=>absurd h (by decide +kernel)),Kh (fun h=>absurd h (by decide +kernel)),Kh (fun h=>absurd h (by decide +kernel)),Kh (fun h=>absurd h (by decide +kernel)),Kh (fun _=>⟨rfl,rfl,rfl⟩),Kh (fun h=>absurd h (by decide +kernel)),Kh (fun h=>absurd h (by decide +kernel)),Kh (fun h=>absurd h (by decide +kernel)),hM⟩
      case hend =>
       clear ha0;intro l1 a2 w6 h a3;obtain⟨x55,x56,x65,x66,x67,x68,x69,x4,x5,vA,nA,xA,vB,nB,xB,ls,ha,HR,H2,m4,H3,m8,m7,m6,m5,g0,j4,j3,j2,HM⟩:=h;obtain⟨r3,c3,rfl,rfl,rfl,rfl⟩:=H3.out (a3 3 (by decide));obtain⟨_,r16,c16,rfl,rfl,rfl,rfl⟩:=j4.out (a3 16 (by decide));obtain⟨_,rfl⟩:=j3.out (a3 17 (by decide));obtain⟨_,rfl⟩:=j2.out (a3 18 (by decide));clear H2 m4 H3 m8 m7 m6 m5 g0 j4 j3 j2 HR;subst ha;rw[m3.out];simp only[yJ,List.foldl_cons,List.foldl_nil,Act.put,sPa,sPb,sPc];refine NoPanic.normal ?_
       have g7:∀q,F q->q≠G:=fun q hq=>by
        rw[j0.out]at hq;have h1:=HM.own;rintro rfl;rcases hq with hq|hq
        ·exact f3.out hq
        ·exact f2.out hq
       have h5:=HM.own 0 _ rfl;have h4:=HM.own 1 _ rfl
       have g4:wA.grownBy w6 none:=GrownBut.grown HM.but (zA H8.out l9.out (fun q e=>by have h7:G=q:=Oj e;omega)) (fun q hq=>by
        rw[j0.out]at hq;rcases hq with hq|hq
        ·exact .inr (by have:=f6.out q hq;omega)
        ·exact .inr (by have:=f5.out q hq;omega))
       have g9:Arr w6 G 4 (bls (metL n (m++[s]))):=by
        obtain⟨cur,rest,hq,hc⟩:=m2.out;exact⟨cur,rest,HM.but.heap hq (fun hf=>g7 G hf rfl),hc⟩
       have b8:dV (ws++[u++X]):=H1.out.snoc (by rw[ByteArray.size_append];have:=l0.out;omega);simp only[]at h5 h4;rw[<-vZ]at h5;rw[<-strV_snoc]at h4;have c6:(m++[s]).length=m.length+1:=by simp
       obtain⟨ka,rfl,_,_,_⟩:=yG h5 (by omega);obtain⟨kb,rfl,_,_,_⟩:=yG h4 (by omega);have l6:=Kh h5;have l4:=Kh h4;have l8:=Kh g4;have m1:=Kh g9;have f0:=Kh b8;have e4:=Kh c6;clear HM h5 h4 g4 g9 b8 g7 c6 g5 g6;go_wp2;go_roundg (k-(a+1))
       case measure=>have:=b4.out;omega
       case rel=>exact⟨a+1,m++[s],ws++[u++X],ka,kb,_,_,by omega,by go_num,f4.out,by rw[e4.out],by rw[e4.out],by rw[e4.out];exact l6.out,by rw[e4.out];exact l4.out,m1.out,f0.out,l8.out⟩
    ·have g8:a=k:=by have:=b4.out;omega
     have i8:Hid (m=wX d l i' k):=Kh (by rw[HM.out,g8]);have d9:=Kh (h6.out.row HD.out hi)
     have f7:Hid (rQ d k (n-(i'+1)) (i'+1) (wX d l i' k)=zZ d k):=Kh (by
      have h1:=d8.out;rw[show n-i'=(n-(i'+1))+1 by omega,rQ,if_pos hi]at h1
      exact h1)
     have HO:=Kh h2;have HW:=Kh h3;have HA:=Kh h0;have H1:=Kh H9;have H8:=Kh H6;clear g8 h2 h3 h0 H9 H6 H0;obtain⟨d0,d1,d2,d3⟩:=zF (zB e5.out H8.out (by simp));go_wp2;go_roundg (n-(i'+1))
     case measure=>have:=HG.out;omega
     case rel=>exact⟨i'+1,m,ws,sa,sb,sc,sd,by omega,by go_num,rfl,rfl,HO.out,HW.out,HA.out,by rw[i8.out];exact d9.out,by rw[i8.out];exact f7.out,by omega,H1.out,H8.out⟩
  ·have f9:Hid (zZ d k=l):=Kh (by rw[<-d8.out,dU hi])
   go_wp2;refine bodyPost_ret (v:=.tuple #[.slice (some ⟨sa,0,none⟩) l.length sc,.slice (some ⟨sb,0,none⟩) l.length sd]) (by simp[results,Try.results105,go_sem]) rfl ?_;rw[f9.out];exact⟨_,_,_,rfl,yU HO.out (by have:=i4.out;omega),zD l7.out H8.out⟩
theorem RowT.shape {B:Nat}{e:TypeId}{w:World}{v:Value}{xs:List Value}(h:RowT B e w v xs):∃a cap,v=.slice a xs.length cap:=by
 rcases h with ⟨rfl,rfl⟩|⟨b,off,cap,cur,m,rfl,_⟩
 ·exact⟨none,0,rfl⟩
 ·exact⟨_,_,rfl⟩
theorem Mat.of_rows {w:World}{base e n:Nat}{v:Value}{hs:List Value}{t:List (List Int)}{B:Nat}(h:w.ownsRow base e 1 v n hs)(hr:wK B 3 ints w hs t)(hB:B<=w.heap.size):Mat w.heap.size w v t:=by
 have hl:hs.length=n:=by have:=h.1;omega
 have h3:=hr.1;rcases h.2 with ⟨rfl,rfl⟩|⟨g,cap,cur,rfl,hb,hg,hnc,hcm,hcs,htake⟩
 ·have:hs=[]:=List.eq_nil_of_length_eq_zero hl
  subst this;exact .inl ⟨_,_,rfl,List.eq_nil_of_length_eq_zero (by simpa using h3.symm)⟩
 ·have h0:∀x,∃a c,x<t.length->hs.getD x (.int .i64 0)=.slice a (t.getD x []).length c:=by
   intro x;by_cases hx:x<t.length
   ·have h1:=hr.2 x (by omega) hx
    obtain⟨a,c,e⟩:=h1.shape;refine⟨a,c,fun _=>?_⟩;rw[zG (by omega),e,yE,zG hx]
   ·exact⟨none,0,fun h=>absurd h hx⟩
  obtain⟨A,hA⟩:=Classical.axiomOfChoice h0;obtain⟨C,hC⟩:=Classical.axiomOfChoice hA;refine .inr ⟨g,0,cap,A,C,?_,by omega,hcm,zK hg,zK hg,fun x hx=>?_,fun x hx=>?_⟩
  ·rw[show n=t.length by omega]
  ·rw[Nat.zero_add,h.cellAt x (by omega),List.getElem?_eq_getElem (by omega),<-hC x hx,zG (show x<hs.length by omega)]
  ·have h1:=hr.2 x (by omega) hx
   have h2:=hC x hx;rw[zG (show x<hs.length by omega)]at h2;rw[<-h2,zG hx];exact h1.row.mono hB
theorem RowT.keptF {B:Nat}{e:TypeId}{w w':World}{v:Value}{xs:List Value}{F:Nat->Prop}(h:RowT B e w v xs)(hg:GrownBut w w' F)(hr:∀k,F k->B<=k\/zX w e k):RowT B e w' v xs:=by
 rcases h with h|⟨b,off,cap,cur,m,h1,h2,h3,h4,h5,h6⟩
 ·exact .inl h
 ·refine .inr ⟨b,off,cap,cur,m,h1,h2,h3,h4,hg.heap h5 (fun hf=>?_),h6⟩
  rcases hr b hf with hk|⟨cur',e',m',hk,hne⟩
  ·omega
  ·rw[h5]at hk;simp at hk;exact hne hk.2.1.symm
theorem wK.keptF {α:Type}{B:Nat}{e:TypeId}{f:α->List Value}{w w':World}{svs:List Value}{ps:List α}{F:Nat->Prop}(h:wK B e f w svs ps)(hg:GrownBut w w' F)(hr:∀k,F k->B<=k\/zX w e k):wK B e f w' svs ps :=
 ⟨h.1,fun i h1 h2=>(h.2 i h1 h2).keptF hg hr⟩
theorem wF {w:World}{p e:Nat}{x0 x1 x2 x3:Value}(h:w.heap[p]?=some (.cells #[x0,x1,x2,x3] e (0,0)))(y0 y1 y2 y3:Value):((((w.setCell ⟨p,0,none⟩ y0).setCell ⟨p,1,none⟩ y1).setCell ⟨p,2,none⟩ y2).setCell ⟨p,3,none⟩ y3).heap[p]?=some (.cells #[y0,y1,y2,y3] e (0,0))/\w.grownBy ((((w.setCell ⟨p,0,none⟩ y0).setCell ⟨p,1,none⟩ y1).setCell ⟨p,2,none⟩ y2).setCell ⟨p,3,none⟩ y3) (some p):=by
 have s0:=heap_setCell_same w p 0 _ _ y0 h;have s1:=heap_setCell_same _ p 1 _ _ y1 s0;have s2:=heap_setCell_same _ p 2 _ _ y2 s1;have s3:=heap_setCell_same _ p 3 _ _ y3 s2;refine⟨by rw[s3];simp,?_⟩;exact zD (zD (zD (zC w ⟨p,0,none⟩ y0) (zC (w.setCell ⟨p,0,none⟩ y0) ⟨p,1,none⟩ y1)) (zC ((w.setCell ⟨p,0,none⟩ y0).setCell ⟨p,1,none⟩ y1) ⟨p,2,none⟩ y2)) (zC (((w.setCell ⟨p,0,none⟩ y0).setCell ⟨p,1,none⟩ y1).setCell ⟨p,2,none⟩ y2) ⟨p,3,none⟩ y3)
structure Built (base:Nat)(W:World)(o:Nat)(L S:Int)(fs:List Bool)(t:List (List Int))(hs:List Value)(sf:Option Addr)(cf:Nat)(sn:Option Addr)(cn:Nat):Prop where
 box:W.heap[o]?=some (.cells #[.int .i64 L,.int .i64 S,.slice sf fs.length cf,.slice sn t.length cn] 42 (0,0))
 ownF:W.ownsRow base 4 1 (.slice sf fs.length cf) fs.length (bls fs)
 ownN:W.ownsRow base 34 1 (.slice sn t.length cn) t.length hs
 rows:wK W.heap.size 3 ints W hs t
 len:fs.length=t.length
section
variable {base o:Nat} {W W':World} {L S:Int} {fs:List Bool} {t:List (List Int)} {hs:List Value} {sf sn:Option Addr} {cf cn:Nat}
theorem Built.grow (h:Built base W o L S fs t hs sf cf sn cn)(hg:W.grownBy W' none):Built base W' o L S fs t hs sf cf sn cn where
 box:=zB h.box hg (by simp)
 ownF:=zY h.ownF hg (by simp)
 ownN:=zY h.ownN hg (by simp)
 rows:=(h.rows.kept hg (by simp)).mono hg.size
 len:=h.len
theorem Built.dfa (h:Built base W o L S fs t hs sf cf sn cn):tE W.heap.size W (.agg #[.int .i64 L,.int .i64 S,.slice sf fs.length cf,.slice sn t.length cn]) ⟨L,S,fs,t⟩ :=
 ⟨_,_,rfl,Row.of_owns h.ownF,Mat.of_rows h.ownN h.rows (Nat.le_refl _)⟩
theorem Built.far {r:Nat}{cs:Array Value}{m:Nat×Nat}(h:Built base W o L S fs t hs sf cf sn cn)(hg:W.grownBy W' (some r))(hr:W.heap[r]?=some (.cells cs 42 m))(hne:r≠o):Built base W' o L S fs t hs sf cf sn cn where
 box:=zB h.box hg (fun e=>hne (Oj e))
 ownF:=h.ownF.kept hg (.inr (zQ h.ownF hr (by decide)))
 ownN:=h.ownN.kept hg (.inr (zQ h.ownN hr (by decide)))
 rows:=(h.rows.kept hg (fun k hk=>.inr (by have:=Oj hk;subst this;exact⟨_,_,_,hr,by decide⟩))).mono hg.size
 len:=h.len
theorem Built.congr {fs':List Bool}{t':List (List Int)}(h:Built base W o L S fs t hs sf cf sn cn)(e1:fs'=fs)(e2:t'=t):Built base W o L S fs' t' hs sf cf sn cn:=by rw[e1,e2];exact h
def rN (base:Nat)(n:Nat)(hs:List Value)(sn:Option Addr)(cn:Nat):RowS:=⟨base,34,.slice sn n cn,n,hs,1⟩
def rF (base:Nat)(fs:List Bool)(sf:Option Addr)(cf:Nat):RowS:=⟨base,4,.slice sf fs.length cf,fs.length,bls fs,1⟩
theorem Built.apart (h:Built base W o L S fs t hs sf cf sn cn):∀k,(Value.slice sn t.length cn).ownBlock=some k->(Value.slice sf fs.length cf).ownBlock≠some k:=by
 intro k hk e;rcases h.ownF.2 with ⟨hv,_⟩|⟨g,cap,cur,hv,_,hg,_⟩
 ·rw[hv]at e;simp[Value.ownBlock]at e
 ·rw[hv]at e
  have:g=k:=by simpa [Value.ownBlock] using e
  subst this;exact zQ h.ownN hg (by decide) hk
def FB (sf:Option Addr)(sn:Option Addr)(k:Nat):Prop:=(Value.slice sn 0 0).ownBlock=some k\/(Value.slice sf 0 0).ownBlock=some k
theorem zR (s:Option Addr)(n c:Nat):(Value.slice s n c).ownBlock=(Value.slice s 0 0).ownBlock:=by cases s<;>rfl
theorem Built.many (h:Built base W o L S fs t hs sf cf sn cn):Many W (FB sf sn) W [rN base t.length hs sn cn,rF base fs sf cf] [] []:=by
 have:=Many.two (w:=W) (r:=rN base t.length hs sn cn) (s:=rF base fs sf cf) h.ownN h.ownF h.apart
 have e:(fun k=>(rN base t.length hs sn cn).v.ownBlock=some k\/(rF base fs sf cf).v.ownBlock=some k)=FB sf sn:=by
  funext k;simp only[rN,rF,FB,zR sn t.length,zR sf fs.length]
 rwa [e]at this
theorem Built.other (h:Built base W o L S fs t hs sf cf sn cn):∀k,FB sf sn k->zX W 3 k:=by
 intro k hk;rcases hk with hk|hk
 ·rw[<-zR sn t.length cn]at hk;exact yF h.ownN (by decide) k hk
 ·rw[<-zR sf fs.length cf]at hk;exact yF h.ownF (by decide) k hk
theorem Built.notbox (h:Built base W o L S fs t hs sf cf sn cn):¬FB sf sn o:=by
 rintro (hk|hk)
 ·rw[<-zR sn t.length cn]at hk;exact zQ h.ownN h.box (by decide) hk
 ·rw[<-zR sf fs.length cf]at hk;exact zQ h.ownF h.box (by decide) hk
theorem Built.ge (h:Built base W o L S fs t hs sf cf sn cn):∀k,FB sf sn k->base<=k:=by
 rintro k (hk|hk)
 ·rw[<-zR sn t.length cn]at hk;exact(h.ownN.lt k hk).1
 ·rw[<-zR sf fs.length cf]at hk;exact(h.ownF.lt k hk).1
theorem Built.push {m:Nat}{b:Bool}{row:List Int}{rv:Value}{sf' sn':Option Addr}{cf' cn':Nat}{ls:List (Nat×Obj)}{ps:List (Nat×TypeId×List Value)}(h:Built base W o L S fs t hs sf cf sn cn)(hm:t.length=m)(hM:Many W (FB sf sn) W' [⟨base,34,.slice sn' (m+1) cn',m+1,hs++[rv],1⟩,⟨base,4,.slice sf' (m+1) cf',m+1,bls fs++[.bool b],1⟩] ls ps)(hrow:RowT W.heap.size 3 W rv (ints row)){W2:World}(hW2:W2=(W'.setCell ⟨o,3,none⟩ (.slice sn' (m+1) cn')).setCell ⟨o,2,none⟩ (.slice sf' (m+1) cf')):Built base W2 o L S (fs++[b]) (t++[row]) (hs++[rv]) sf' cf' sn' cn'/\∀w0:World,w0.grownBy W (some o)->w0.heap.size<=base->w0.grownBy W2 (some o):=by
 have h2:fs.length=m:=h.len.trans hm;have hN:=hM.own 0 _ rfl;have hF:=hM.own 1 _ rfl;simp only[]at hN hF;have h0:=hM.but.heap h.box h.notbox;have h1:=(h.rows.snoc hrow).keptF hM.but (fun k hk=>.inr (h.other k hk));have s1:=heap_setCell_same W' o 3 _ _ (.slice sn' (m+1) cn') h0;have s2:=heap_setCell_same _ o 2 _ _ (.slice sf' (m+1) cf') s1;have g1:W'.grownBy W2 (some o):=by rw[hW2];exact zD (zC W' ⟨o,3,none⟩ _) (zC (W'.setCell ⟨o,3,none⟩ (.slice sn' (m+1) cn')) ⟨o,2,none⟩ _)
 have h3:zX W' 3 o:=⟨_,_,_,h0,by decide⟩;refine⟨⟨?_,?_,?_,?_,by simp[h.len]⟩,fun w0 hw0 hb=>?_⟩
 ·rw[hW2,s2]
  simp[h2,hm]
 ·have:=hF.kept g1 (.inr (zQ hF h0 (by decide)))
  rw[List.length_append,h2];simpa [bls] using this
 ·have:=hN.kept g1 (.inr (zQ hN h0 (by decide)))
  rw[List.length_append,hm];exact this
 ·exact(h1.kept g1 (fun k hk=>.inr (by have:=Oj hk;subst this;exact h3))).mono (Nat.le_trans hM.but.size g1.size)
 ·exact zD (hM.but.grown hw0 (fun k hk=>.inr (Nat.le_trans hb (h.ge k hk)))) g1
def oE (w w':World)(v:Value)(m:DfaV):Prop:=∃(o:Nat) (hs:List Value) (sf:Option Addr) (cf:Nat) (sn:Option Addr) (cn:Nat),
 v=.agg #[.int .i64 m.letters,.int .i64 m.start,.slice sf m.final.length cf,.slice sn m.next.length cn]/\w.heap.size<=o/\Built o w' o m.letters m.start m.final m.next hs sf cf sn cn
theorem oE.grow {w w' w'':World}{v:Value}{m:DfaV}(h:oE w w' v m)(hg:w'.grownBy w'' none):oE w w'' v m:=by
 obtain⟨o,hs,sf,cf,sn,cn,h1,h2,hb⟩:=h;exact⟨o,hs,sf,cf,sn,cn,h1,h2,hb.grow hg⟩
theorem oE.far {w w' w'':World}{v:Value}{m:DfaV}{r:Nat}{cs:Array Value}{mm:Nat×Nat}(h:oE w w' v m)(hg:w'.grownBy w'' (some r))(hr:w'.heap[r]?=some (.cells cs 42 mm))(hlt:r<w.heap.size):oE w w'' v m:=by
 obtain⟨o,hs,sf,cf,sn,cn,h1,h2,hb⟩:=h;exact⟨o,hs,sf,cf,sn,cn,h1,h2,hb.far hg hr (by omega)⟩
end
def RowX (X:Nat->Prop)(e:TypeId)(w:World)(v:Value)(xs:List Value):Prop:=RowT w.heap.size e w v xs/\∀k,v.ownBlock=some k->X k
def uN (X:Nat->Prop)(w w':World):Prop:=∀k,X k->w'.heap[k]?=w.heap[k]?
theorem uN.trans {X:Nat->Prop}{a b c:World}(h:uN X a b)(h':uN X b c):uN X a c:=fun k hk=>(h' k hk).trans (h k hk)
theorem uN.refl (X:Nat->Prop)(w:World):uN X w w:=fun _ _=>rfl
theorem RowX.kept {X:Nat->Prop}{e:TypeId}{w w':World}{v:Value}{xs:List Value}(h:RowX X e w v xs)(hk:uN X w w')(hs:w.heap.size<=w'.heap.size):RowX X e w' v xs:=by
 refine⟨?_,h.2⟩;rcases h.1 with h1|⟨b,off,cap,cur,m,h1,h2,h3,h4,h5,h6⟩
 ·exact .inl h1
 ·exact .inr ⟨b,off,cap,cur,m,h1,by omega,h3,h4,(hk b (h.2 b (by rw[h1];rfl))).trans h5,h6⟩
theorem RowX.mono {X X':Nat->Prop}{e:TypeId}{w:World}{v:Value}{xs:List Value}(h:RowX X e w v xs)(hX:∀k,X k->X' k):RowX X' e w v xs:=⟨h.1,fun k hk=>hX k (h.2 k hk)⟩
theorem RowX.row {X:Nat->Prop}{e:TypeId}{w:World}{v:Value}{xs:List Value}(h:RowX X e w v xs):Row w.heap.size w v xs:=h.1.row
theorem RowX.of_owns {X:Nat->Prop}{w:World}{base e n:Nat}{v:Value}{xs:List Value}(h:w.ownsRow base e 1 v n xs)(hX:∀k,v.ownBlock=some k->X k):RowX X e w v xs:=⟨RowT.of_owns h,hX⟩
def uP {α:Type}(X:Nat->Prop)(e:TypeId)(f:α->List Value)(w:World)(hs:List Value)(ts:List α):Prop :=
 hs.length=ts.length/\∀i (h:i<hs.length) (h':i<ts.length),RowX X e w hs[i] (f ts[i])
section
variable {α:Type} {X X':Nat->Prop} {e:TypeId} {f:α->List Value} {w w':World} {hs:List Value} {ts:List α}
theorem uP.nil:uP X e f w [] []:=⟨rfl,fun i h=>by simp at h⟩
theorem uP.kept (h:uP X e f w hs ts)(hk:uN X w w')(hs':w.heap.size<=w'.heap.size):uP X e f w' hs ts:=⟨h.1,fun i h1 h2=>(h.2 i h1 h2).kept hk hs'⟩
theorem uP.mono (h:uP X e f w hs ts)(hX:∀k,X k->X' k):uP X' e f w hs ts:=⟨h.1,fun i h1 h2=>(h.2 i h1 h2).mono hX⟩
theorem uP.snoc {v:Value}{t:α}(h:uP X e f w hs ts)(hv:RowX X e w v (f t)):uP X e f w (hs++[v]) (ts++[t]):=by
 refine⟨by simp[h.1],fun i h1 h2=>?_⟩;by_cases hi:i<hs.length
 ·rw[List.getElem_append_left hi]
  simp only[List.getElem_append_left (show i<ts.length by rw[<-h.1];exact hi)];exact h.2 i hi _
 ·have:i=hs.length:=by simp at h1;omega
  subst this;rw[List.getElem_append_right (Nat.le_refl _)];simp only[List.getElem_append_right (show ts.length<=hs.length by rw[h.1];exact Nat.le_refl _)];simpa [h.1] using hv
end
structure EMem (X:Nat->Prop)(W:World)(rs:List RowS):Prop where
 own:∀r∈rs,W.ownsRow r.base r.e r.sz r.v r.n r.xs
 apart:rs.Pairwise (fun r s=>∀k,r.v.ownBlock=some k->s.v.ownBlock≠some k)
 offX:∀r∈rs,∀k,r.v.ownBlock=some k->¬X k
 lt:∀k,X k->k<W.heap.size
def qIS (rs:List RowS)(k:Nat):Prop:=∃r∈rs,r.v.ownBlock=some k
section
variable {X:Nat->Prop} {W W':World} {rs rs':List RowS}
theorem EMem.many (h:EMem X W rs)(F:Nat->Prop)(hF:∀k,qIS rs k->F k):Many W F W rs [] []:=Many.start h.own (fun r hr k hk=>hF k ⟨r,hr,hk⟩) h.apart
theorem EMem.grow (h:EMem X W rs)(hg:W.grownBy W' none):EMem X W' rs:=⟨fun r hr=>zP (h.own r hr) hg,h.apart,h.offX,fun k hk=>Nat.lt_of_lt_of_le (h.lt k hk) hg.size⟩
theorem uN.of_grown {row:Option Nat}(hlt:∀k,X k->k<W.heap.size)(hg:W.grownBy W' row)(hr:∀k,row=some k->¬X k):uN X W W':=fun k hk=>hg.block k (hlt k hk) (fun e=>hr k e.symm hk)
theorem EMem.keep (h:EMem X W rs)(hg:W.grownBy W' none):uN X W W':=uN.of_grown h.lt hg (by simp)
theorem EMem.after {F:Nat->Prop}{ls:List (Nat×Obj)}(h:EMem X W rs)(hM:Many W F W' rs' ls [])(hF:∀k,F k->¬X k):EMem X W' rs' where
 own:=fun r hr=>by
  obtain⟨i,hi,e⟩:=List.getElem_of_mem hr
  exact hM.own i r (by rw[List.getElem?_eq_getElem hi,e])
 apart:=by
  rw[List.pairwise_iff_getElem];intro i j hi hj h0;exact hM.apart i j _ _ (by omega) (List.getElem?_eq_getElem hi) (List.getElem?_eq_getElem hj)
 offX:=fun r hr k hk hx=>by
  obtain⟨i,hi,e⟩:=List.getElem_of_mem hr;rcases hM.mine i r (by rw[List.getElem?_eq_getElem hi,e]) k hk with hf|hf
  ·exact hF k hf hx
  ·have:=h.lt k hx;omega
 lt:=fun k hk=>Nat.lt_of_lt_of_le (h.lt k hk) hM.but.size
theorem EMem.far (h:EMem X W rs){o:Nat}(hg:W.grownBy W' (some o))(hr:∀r∈rs,r.v.ownBlock≠some o):EMem X W' rs where
 own:=fun r hr'=>(h.own r hr').kept hg (.inr (hr r hr'))
 apart:=h.apart
 offX:=h.offX
 lt:=fun k hk=>Nat.lt_of_lt_of_le (h.lt k hk) hg.size
theorem EMem.retire {r:RowS}(h:EMem X W (rs++[r])):EMem (fun k=>X k\/r.v.ownBlock=some k) W rs where
 own:=fun s hs=>h.own s (List.mem_append_left _ hs)
 apart:=(List.pairwise_append.1 h.apart).1
 offX:=fun s hs k hk hx=>by
  rcases hx with hx|hx
  ·exact h.offX s (List.mem_append_left _ hs) k hk hx
  ·exact(List.pairwise_append.1 h.apart).2.2 s hs r (by simp) k hk hx
 lt:=fun k hx=>by
  rcases hx with hx|hx
  ·exact h.lt k hx
  ·exact((h.own r (by simp)).lt k hx).2
theorem EMem.fresh (h:EMem X W rs)(hg:W.grownBy W' none){Y:Nat->Prop}(hY:∀k,Y k->W.heap.size<=k/\k<W'.heap.size):EMem (fun k=>X k\/Y k) W' rs where
 own:=fun r hr=>zP (h.own r hr) hg
 apart:=h.apart
 offX:=fun r hr k hk hx=>by
  rcases hx with hx|hx
  ·exact h.offX r hr k hk hx
  ·have:=((h.own r hr).lt k hk).2
   have:=(hY k hx).1
   omega
 lt:=fun k hx=>by
  rcases hx with hx|hx
  ·exact Nat.lt_of_lt_of_le (h.lt k hx) hg.size
  ·exact(hY k hx).2
theorem EMem.add (h:EMem X W rs)(hg:W.grownBy W' none){r:RowS}(ho:W'.ownsRow r.base r.e r.sz r.v r.n r.xs)(hn:∀k,r.v.ownBlock=some k->W.heap.size<=k):EMem X W' (rs++[r]) where
 own:=fun s hs=>by
  rcases List.mem_append.1 hs with hs|hs
  ·exact zP (h.own s hs) hg
  ·rw[List.mem_singleton]at hs;subst hs;exact ho
 apart:=by
  rw[List.pairwise_append];refine⟨h.apart,by simp,fun s hs t ht k hk e=>?_⟩;rw[List.mem_singleton]at ht;subst ht;have:=((h.own s hs).lt k hk).2;have:=hn k e;omega
 offX:=fun s hs k hk hx=>by
  rcases List.mem_append.1 hs with hs|hs
  ·exact h.offX s hs k hk hx
  ·rw[List.mem_singleton]at hs;subst hs
   have:=h.lt k hx;have:=hn k hk;omega
 lt:=fun k hk=>Nat.lt_of_lt_of_le (h.lt k hk) hg.size
end
theorem uP.rowsT {α:Type}{X:Nat->Prop}{e:TypeId}{f:α->List Value}{w:World}{hs:List Value}{ts:List α}(h:uP X e f w hs ts):wK w.heap.size e f w hs ts:=⟨h.1,fun i h3 h4=>(h.2 i h3 h4).1⟩
theorem EMem.appAt {X:Nat->Prop}{W W':World}{rs:List RowS}(h:EMem X W rs){j:Nat}{r:RowS}(hr:rs[j]?=some r){v':Value}{n':Nat}{us:List Value}(ho:W'.ownsRow r.base r.e r.sz v' n' (r.xs++us))(hg:W.grownBy W' r.v.ownBlock)(hm:qS W W' r.v v'):EMem X W' (rs.set j ⟨r.base,r.e,v',n',r.xs++us,r.sz⟩) :=
 h.after ((h.many (qIS rs) (fun _ h=>h)).append hr ho hg hm) (fun k hk=>by obtain⟨r,hr,hk⟩:=hk;exact h.offX r hr k hk)
theorem Arr.rowT' {w:World}{g cap:Nat}{e:TypeId}{xs:List Value}(h:Arr w g e xs)(hc:xs.length<=cap)(hm:cap<=maxLen):RowT w.heap.size e w (.slice (some ⟨g,0,none⟩) xs.length cap) xs:=by
 have h1:=h.lt;obtain⟨cur,rest,hg,h0⟩:=h;refine .inr ⟨g,0,cap,cur,(0,0),rfl,h1,hc,hm,hg,fun i hi=>?_⟩;rw[Nat.zero_add,<-Array.getElem?_toList,h0,List.getElem?_append_left hi,List.getElem?_eq_getElem hi]
theorem iK {w:World}{p e:Nat}{x0 x1 x2 x3 x4 x5:Value}(h:w.heap[p]?=some (.cells #[x0,x1,x2,x3,x4,x5] e (0,0))):w.cell? ⟨p,0,none⟩=some x0/\w.cell? ⟨p,1,none⟩=some x1/\w.cell? ⟨p,2,none⟩=some x2/\w.cell? ⟨p,3,none⟩=some x3/\w.cell? ⟨p,4,none⟩=some x4/\w.cell? ⟨p,5,none⟩=some x5:=by
 have c0:=zI h 0 (by simp);have c1:=zI h 1 (by simp);have c2:=zI h 2 (by simp);have c3:=zI h 3 (by simp);have c4:=zI h 4 (by simp);have c5:=zI h 5 (by simp);exact⟨by simpa using c0,by simpa using c1,by simpa using c2,by simpa using c3,by simpa using c4,by simpa using c5⟩
structure BoxS (B:Nat)(X:Nat->Prop)(o ty:Nat)(w0 wk:World)(rs:List RowS)(c:Array Value)(w:World):Prop where
 mem:EMem X w rs
 typ:∀r∈rs,r.base=B/\r.e≠ty
 box:w.heap[o]?=some (.cells c ty (0,0))
 off:¬X o
 size:w0.heap.size<=B
 old:w0.heap.size<=o
 base:B<=wk.heap.size
 grown:w0.grownBy w none
 kept:uN X wk w
 wk:wk.heap.size<=w.heap.size
section
variable {B:Nat} {X:Nat->Prop} {o ty:Nat} {w0 wk w:World} {rs:List RowS} {c:Array Value}
theorem BoxS.grow (h:BoxS B X o ty w0 wk rs c w){w':World}(hg:w.grownBy w' none):BoxS B X o ty w0 wk rs c w' :=
 ⟨h.mem.grow hg,h.typ,zB h.box hg (by simp),h.off,h.size,h.old,h.base,zA h.grown hg (by simp),h.kept.trans (h.mem.keep hg),Nat.le_trans h.wk hg.size⟩
theorem BoxS.set (h:BoxS B X o ty w0 wk rs c w)(f:Nat)(u:Value):BoxS B X o ty w0 wk rs (c.setIfInBounds f u) (w.setCell ⟨o,f,none⟩ u):=by
 have hs:=heap_setCell_same w o f _ _ u h.box;have hg:=zC w ⟨o,f,none⟩ u;exact⟨h.mem.far hg (fun r hr=>zQ (h.mem.own r hr) h.box (h.typ r hr).2),h.typ,hs,h.off,h.size,h.old,h.base,zA h.grown hg (fun j e=>by have e:o=j:=Oj e;have:=h.old;omega),h.kept.trans (uN.of_grown h.mem.lt hg (fun j e hx=>by have e:o=j:=Oj e;subst e;exact h.off hx)),Nat.le_trans h.wk hg.size⟩
theorem BoxS.own (h:BoxS B X o ty w0 wk rs c w){r:RowS}(hr:r∈rs):w.ownsRow r.base r.e r.sz r.v r.n r.xs:=h.mem.own r hr
theorem BoxS.add (h:BoxS B X o ty w0 wk rs c w){w':World}(hg:w.grownBy w' none){e sz n:Nat}{v:Value}{xs:List Value}(ho:w'.ownsRow w.heap.size e sz v n xs)(he:e≠ty):BoxS B X o ty w0 wk (rs++[⟨B,e,v,n,xs,sz⟩]) c w' :=
 ⟨h.mem.add hg (yU ho (Nat.le_trans h.base h.wk)) (fun k hk=>(ho.lt k hk).1),fun r hr=>by
  rcases List.mem_append.1 hr with hr|hr
  ·exact h.typ r hr
  ·rw[List.mem_singleton]at hr;subst hr;exact⟨rfl,he⟩,zB h.box hg (by simp),h.off,h.size,h.old,h.base,zA h.grown hg (by simp),h.kept.trans (h.mem.keep hg),Nat.le_trans h.wk hg.size⟩
theorem qBR {w:World}{b e n g cap i:Nat}{xs:List Value}(h:w.ownsRow b e 1 (.slice (some ⟨g,0,none⟩) n cap) n xs)(hi:i<n)(u:Value):(w.setCell ⟨g,i,none⟩ u).ownsRow b e 1 (.slice (some ⟨g,0,none⟩) n cap) n (xs.set i u):=by
 refine⟨by rw[List.length_set];exact h.1,?_⟩;rcases h.2 with ⟨hv,_⟩|⟨g',cap',cur,hv,hb,hg,hnc,hcm,hcs,htake⟩
 ·simp at hv
 ·simp only[Value.slice.injEq,Option.some.injEq,Addr.mk.injEq]at hv
  obtain⟨⟨rfl,_⟩,_,rfl⟩:=hv;have hs:=heap_setCell_same w g i _ _ u hg;refine .inr ⟨g,cap,_,rfl,hb,hs,hnc,hcm,by simpa using hcs,?_⟩;rw[<-htake];simp[List.take_set]
theorem BoxS.put (h:BoxS B X o ty w0 wk rs c w){j g n cap b e i:Nat}{xs:List Value}(hr:rs[j]?=some ⟨b,e,.slice (some ⟨g,0,none⟩) n cap,n,xs,1⟩)(hi:i<n)(u:Value):BoxS B X o ty w0 wk (rs.set j ⟨b,e,.slice (some ⟨g,0,none⟩) n cap,n,xs.set i u,1⟩) c (w.setCell ⟨g,i,none⟩ u):=by
 have h0:=List.mem_of_getElem? hr;have ho:=h.mem.own _ h0;have ht:=h.typ _ h0;simp only at ho ht;have hg:=zC w ⟨g,i,none⟩ u;have h7:g≠o:=fun e1=>by subst e1;exact zQ ho h.box ht.2 rfl
 obtain⟨h4,h2⟩:=List.getElem?_eq_some_iff.1 hr;have h3:=List.pairwise_iff_getElem.1 h.mem.apart;refine⟨⟨fun r hr'=>?_,?_,fun r hr' k hk=>?_,fun k hk=>Nat.lt_of_lt_of_le (h.mem.lt k hk) hg.size⟩,fun r hr'=>?_,zB h.box hg (fun e1=>h7 (Oj e1)),h.off,h.size,h.old,h.base,zA h.grown hg (fun k e1=>?_),h.kept.trans (uN.of_grown h.mem.lt hg (fun k e1 hx=>?_)),Nat.le_trans h.wk hg.size⟩
 ·obtain⟨q,hq,rfl⟩:=List.getElem_of_mem hr'
  rw[List.getElem_set];have h1:q<rs.length:=by simpa using hq
  split
  ·exact qBR ho hi u
  ·rename_i hne
   refine(h.mem.own _ (List.getElem_mem h1)).kept hg (.inr (fun e1=>?_));rcases Nat.lt_or_gt_of_ne hne with hlt|hlt
   ·exact h3 j q h4 h1 hlt g (by rw[h2];rfl) e1
   ·exact h3 q j h1 h4 hlt g e1 (by rw[h2];rfl)
 ·rw[List.pairwise_iff_getElem]
  intro p q hp hq h5;have h6:p<rs.length:=by simpa using hp
  have h1:q<rs.length:=by simpa using hq
  have:=h3 p q h6 h1 h5;rw[List.getElem_set,List.getElem_set]
  split<;>split
  ·omega
  ·rename_i e1 e2;subst e1;rw[h2]at this;exact this
  ·rename_i e1 e2;subst e2;rw[h2]at this;exact this
  ·exact this
 ·rcases List.mem_or_eq_of_mem_set hr' with hr'|rfl
  ·exact h.mem.offX r hr' k hk
  ·exact h.mem.offX _ h0 k hk
 ·rcases List.mem_or_eq_of_mem_set hr' with hr'|rfl
  ·exact h.typ r hr'
  ·exact ht
 ·have e1:g=k:=Oj e1
  have:=(ho.lt g rfl).1;have:=h.size;omega
 ·have e1:g=k:=Oj e1
  subst e1;exact h.mem.offX _ h0 g rfl hx
end
theorem pT {P:Program}{ops:Array Oper}{o:Oper}{a:Act}{w:World}{K:Act->World->Prop}{Q:Exit->Act->World->Prop}{R:Prop}(hgd:o.guard=none)(s x:Operand)(t:TypeId)(ho:o.op=.call { callee:=.builtin .append,args:=#[s,x],argTypes:=#[t,t] }){e:TypeId}{z:Value}{bytes:Nat}(E:ElemOk P t e z bytes)(base:Nat)(v:Value)(n:Nat)(xs:List Value)(hs:a.eval s=v)(hown:w.ownsRow base e 1 v n xs)(u:Value)(blk:Nat)(m:Nat×Nat)(hx:a.eval x=.slice (some ⟨blk,0,none⟩) 1 1)(hblk:w.heap[blk]?=some (.cells #[u] e m))(h1:u.oneCell'=true)(h63:n+1<=maxLen)(hbytes:(n+1)*bytes<=140737488355328)(hbase:base<=w.heap.size)(h:∀sa sc w',w'.ownsRow base e 1 (.slice sa (n+1) sc) (n+1) (xs++[u])->w.grownBy w' v.ownBlock->K (a.put o.dst (.slice sa (n+1) sc)) w'):
  if Region.wanted o (yielded ops a.tmps)=true then Oper.wp P o a w K Q else R:=by
 have hw:Region.wanted o (yielded ops a.tmps)=true:=by simp[Region.wanted,hgd]
 rw[if_pos hw];obtain⟨i,hi,hz,h0,h3⟩:=info_parts E.hi;refine wp_append_own w s x t ho base e i z 1 bytes E.ht hi hz h0 h3 E.hz (by decide) v n xs hs hown ⟨blk,0,none⟩ 1 1 [u] hx rfl ?_ ?_ h63 hbytes hbase ?_
 ·intro j u' hj
  match j,hj with
  | 0,hj=>simp at hj;subst hj;simpa [Addr.add] using zI hblk 0 (by simp)
 ·intro u' hu;simp at hu;subst hu;exact h1
 ·intro v' w' h1 h2 _
  obtain⟨sa,sc,rfl⟩:=sV h1;exact h sa sc w' h1 h2
theorem qDB {P:Program}{w:World}{o:Oper}{a:Act}{K:Act->World->Prop}{Q:Exit->Act->World->Prop}(s x:Operand)(t:TypeId)(ho:o.op=.call { callee:=.builtin .append,args:=#[s,x],argTypes:=#[t,t] }){e:TypeId}{sz:Nat}{z:Value}{bytes:Nat}(E:ElemN P t e sz z bytes)(base:Nat)(v:Value)(n:Nat)(xs:List Value)(hs:a.eval s=v)(hown:w.ownsRow base e sz v n xs)(us:List Value)(g:Nat)(hx:a.eval x=.slice (some ⟨g,0,none⟩) 1 1)(m:Nat×Nat)(hus:us.length=sz)(hg:w.heap[g]?=some (.cells us.toArray e m))(h1:∀u∈us,u.oneCell'=true)(h63:n+1<=maxLen)(hbytes:(n+1)*bytes<=140737488355328)(hbase:base<=w.heap.size)(h:∀sa sc w',w'.ownsRow base e sz (.slice sa (n+1) sc) (n+1) (xs++us)->w.grownBy w' v.ownBlock->qS w w' v (.slice sa (n+1) sc)->K (a.put o.dst (.slice sa (n+1) sc)) w'):o.wp P a w K Q:=by
 have h5:∀j,(⟨g,0,none⟩:Addr).add j=⟨g,j,none⟩:=fun j=>by unfold Addr.add;split<;>simp_all
 have h0:qJE w sz (.slice (some ⟨g,0,none⟩) 1 1) 1 us:=.inr ⟨g,0,1,rfl,by omega,by unfold maxLen;omega,fun i u hi=>by
  obtain⟨hl,e⟩:=List.getElem?_eq_some_iff.1 hi;have:=zI hg i (by simpa using hl)
  rw[Nat.zero_add,this];simpa using e⟩
 obtain⟨v',w',hr,h2,h3,h4⟩:=run_append_movedR (P:=P) base t o.type E v n xs hown _ 1 us h0 h1 h63 hbytes hbase;obtain⟨sa,sc,rfl⟩:=qV h2;unfold Oper.wp execOp;simp only[ho,resolve,invoke,builtin,Sem.run_bind,Sem.run_pure,Result.andThen_ok,List.map_toArray,List.map_cons,List.map_nil,hs,hx,hr];exact h sa sc w' h2 h3 h4
theorem tY {P:Program}{ops:Array Oper}{w:World}{o:Oper}{a:Act}{K:Act->World->Prop}{Q:Exit->Act->World->Prop}{R:Prop}(hgd:o.guard=none)(s x:Operand)(t:TypeId)(ho:o.op=.call { callee:=.builtin .append,args:=#[s,x],argTypes:=#[t,t] }){e:TypeId}{sz:Nat}{z:Value}{bytes:Nat}(E:ElemN P t e sz z bytes)(base:Nat)(v:Value)(n:Nat)(xs:List Value)(hs:a.eval s=v)(hown:w.ownsRow base e sz v n xs)(us:List Value)(g:Nat)(hx:a.eval x=.slice (some ⟨g,0,none⟩) 1 1)(m:Nat×Nat)(hus:us.length=sz)(hg:w.heap[g]?=some (.cells us.toArray e m))(h1:∀u∈us,u.oneCell'=true)(h63:n+1<=maxLen)(hbytes:(n+1)*bytes<=140737488355328)(hbase:base<=w.heap.size)(h:∀sa sc w',w'.ownsRow base e sz (.slice sa (n+1) sc) (n+1) (xs++us)->w.grownBy w' v.ownBlock->qS w w' v (.slice sa (n+1) sc)->K (a.put o.dst (.slice sa (n+1) sc)) w'):if Region.wanted o (yielded ops a.tmps)=true then Oper.wp P o a w K Q else R:=by
 have hw:Region.wanted o (yielded ops a.tmps)=true:=by simp[Region.wanted,hgd]
 rw[if_pos hw];exact qDB s x t ho E base v n xs hs hown us g hx m hus hg h1 h63 hbytes hbase h
theorem dR {P:Program}{w:World}{ops:Array Oper}{rest:List Oper}{o:Oper}{a:Act}{Q:Exit->Act->World->Prop}(hgd:o.guard=none)(s x:Operand)(t:TypeId)(ho:o.op=.call { callee:=.builtin .append,args:=#[s,x],argTypes:=#[t,t] }){e:TypeId}{sz:Nat}{z:Value}{bytes:Nat}(E:ElemN P t e sz z bytes)(base:Nat)(v:Value)(n:Nat)(xs:List Value)(hs:a.eval s=v)(hown:w.ownsRow base e sz v n xs)(us:List Value)(hx:a.eval x=.slice (some ⟨w.heap.size,0,none⟩) 1 1)(hus:us.length=sz)(h1:∀u∈us,u.oneCell'=true)(h63:n+1<=maxLen)(hbytes:(n+1)*bytes<=140737488355328)(hbase:base<=w.heap.size)(h:∀sa sc w',w'.ownsRow base e sz (.slice sa (n+1) sc) (n+1) (xs++us)->w.grownBy w' v.ownBlock->wpList P ops Q rest (a.put o.dst (.slice sa (n+1) sc)) w'):
  wpList P ops Q (o::rest) a (w.alloc (.cells us.toArray e)) :=
 wpList_plain hgd fun _ hK=>qDB s x t ho E base v n xs hs (hown.alloc _) us w.heap.size hx (0,0) hus (heap_alloc_new w _) h1 h63 hbytes (by simp;omega) fun sa sc w' h2 h3 _=>hK _ _ (h sa sc w' h2 (zD (Ga w _ _) h3))
theorem vV {P:Program}{w:World}{ops:Array Oper}{rest:List Oper}{o:Oper}{a:Act}{Q:Exit->Act->World->Prop}(hgd:o.guard=none)(s x:Operand)(t:TypeId)(ho:o.op=.call { callee:=.builtin .append,args:=#[s,x],argTypes:=#[t,t] }){e:TypeId}{sz:Nat}{z:Value}{bytes:Nat}(E:ElemN P t e sz z bytes)(base:Nat)(v:Value)(n:Nat)(xs:List Value)(hs:a.eval s=v)(hown:w.ownsRow base e sz v n xs)(us:List Value)(hx:a.eval x=.slice (some ⟨w.heap.size,0,none⟩) 1 1)(hus:us.length=sz)(h1:∀u∈us,u.oneCell'=true)(h63:n+1<=maxLen)(hbytes:(n+1)*bytes<=140737488355328)(hbase:base<=w.heap.size)(h:∀sa sc w',w'.ownsRow base e sz (.slice sa (n+1) sc) (n+1) (xs++us)->w.grownBy w' v.ownBlock->qS w w' v (.slice sa (n+1) sc)->wpList P ops Q rest (a.put o.dst (.slice sa (n+1) sc)) w'):
  wpList P ops Q (o::rest) a (w.alloc (.cells us.toArray e)) :=
 wpList_plain hgd fun _ hK=>qDB s x t ho E base v n xs hs (hown.alloc _) us w.heap.size hx (0,0) hus (heap_alloc_new w _) h1 h63 hbytes (by simp;omega) fun sa sc w' h2 h3 h4=>hK _ _ (h sa sc w' h2 (zD (Ga w _ _) h3) (by
  rcases h4 with h4|⟨h4,h5⟩
  ·exact .inl h4
  ·exact .inr ⟨zD (Ga w _ none) h4,fun k hk=>by have:=h5 k hk;rw[zL]at this;omega⟩))
open Go.Maps
structure KeyK {α:Type}(mt kt:TypeId)(V:α->Prop)(kv:α->Value):Prop where
 key:Keyed Try.prog kt
 und:Try.prog.underlying mt=some (.map kt 3)
 of:∀a,V a->(keyOf Try.prog kt (kv a)).isSome=true
 inj:∀a b,V a->V b->kv a=kv b->a=b
section
variable {α:Type} {mt kt:TypeId} {V:α->Prop} {kv:α->Value}
def MapK (kt:TypeId)(V:α->Prop)(kv:α->Value)(w:World)(b n c:Nat)(f:α->Option Nat):Prop :=
 ∃D:DataW Unit,w.ownsMap Try.prog kt (plainElem Try.prog 3) b n D/\size D=c /\
  ∀a l,V a->keyOf Try.prog kt (kv a)=some l->has D l=(f a).isSome/\D.atKey l (.lit (.int .i64 0))=.lit (.int .i64 (((f a).getD 0:Nat):Int))
theorem MapK.made (kt:TypeId)(V:α->Prop)(kv:α->Value)(w:World):MapK kt V kv (w.alloc (.map #[] 0)) w.heap.size 0 0 (fun _=>none):=by
 refine⟨.map [],World.ownsMap_made _ _ _ _,rfl,fun x _ _ _=>⟨by simp[has_eq],?_⟩⟩;rw[WideAt.atKey_none _ (by simp)];simp
variable {w w':World} {b n c:Nat} {f:α->Option Nat}
theorem MapK.kept {row:Option Nat}(h:MapK kt V kv w b n c f)(hg:w.grownBy w' row)(hne:row≠some b):MapK kt V kv w' b n c f:=by
 obtain⟨D,h1,h2,h3⟩:=h;exact⟨D,h1.kept hg (fun e=>hne e.symm),h2,h3⟩
theorem MapK.mono {n':Nat}(h:MapK kt V kv w b n c f)(hn:n<=n'):MapK kt V kv w b n' c f:=by
 obtain⟨D,h1,h2,h3⟩:=h;exact⟨D,h1.mono hn,h2,h3⟩
theorem MapK.lt (h:MapK kt V kv w b n c f):b<w.heap.size:=by
 obtain⟨D,h1,_⟩:=h;exact h1.lt
theorem MapK.obj (h:MapK kt V kv w b n c f):∃es clock,w.heap[b]?=some (.map es clock):=by
 obtain⟨D,⟨es,clock,hb,_⟩,_⟩:=h;exact⟨es,clock,hb⟩
theorem MapK.lookup (h:MapK kt V kv w b n c f)(K:KeyK mt kt V kv){x:α}(hx:V x):(Instr.lookup mt (.map (some b)) (kv x) true).run Try.prog w=.ok (.tuple #[.int .i64 (((f x).getD 0:Nat):Int),.bool (f x).isSome]) w:=by
 obtain⟨D,h1,h2,h3⟩:=h;obtain⟨kl,h4⟩:=Option.isSome_iff_exists.1 (K.of x hx);obtain⟨v,ps,h0,hv⟩:=h1.look_ok K.key K.und (gL w) (plainElem_int sG (by decide)) h4;obtain⟨c,rfl,hc,_⟩:=plainElem_int_inv sG hv;obtain⟨e1,e2⟩:=h3 x kl hx h4;have e3:=congrArg Prod.fst hc;simp only[e2]at e3;rw[h0,e1]
 have e4:(((f x).getD 0:Nat):Int)=c:=by
  simp only[Lit.int.injEq,DataW.lit.injEq,true_and]at e3;exact e3
 rw[e4]
theorem MapK.look1 (h:MapK kt V kv w b n c f)(K:KeyK mt kt V kv){x:α}(hx:V x):(Instr.lookup mt (.map (some b)) (kv x) false).run Try.prog w=.ok (.int .i64 (((f x).getD 0:Nat):Int)) w:=by
 obtain⟨D,h1,h2,h3⟩:=h;obtain⟨kl,h5⟩:=Option.isSome_iff_exists.1 (K.of x hx);obtain⟨c,h0,h4,_⟩:=h1.lookup_int K.key K.und sG (gL w) h5;rw[h0];rw[(h3 x kl hx h5).2]at h4
 have e4:(((f x).getD 0:Nat):Int)=c:=by
  simp only[Lit.int.injEq,DataW.lit.injEq,true_and]at h4;exact h4
 rw[e4]
theorem MapK.len (h:MapK kt V kv w b n c f)(K:KeyK mt kt V kv):(Builtin.len_ #[mt] 3 #[.map (some b)]).run Try.prog w=.ok (.int .i64 (c:Nat)) w:=by
 obtain⟨D,h1,h2,h3⟩:=h;have h0:=h1.len K.und 3;rw[h2]at h0;exact h0
theorem pS [DecidableEq α]{ops:Array Oper}{rest:List Oper}{o:Oper}{a:Act}{Q:Exit->Act->World->Prop}(K:KeyK mt kt V kv)(hg:o.guard=none)(m x v:Operand)(hop:o.op=Op.mapUpdate mt m x v)(b n c:Nat)(f:α->Option Nat)(z:α)(y:Nat)(hm:a.eval m=.map (some b))(hx:a.eval x=kv z)(hv:a.eval v=.int .i64 (y:Int))(h:MapK kt V kv w b n c f)(hn:n<maxLen)(hz:V z)(hy:y<4611686018427387904)(hK:∀w',MapK kt V kv w' b (n+1) (if (f z).isSome then c else c+1) (fun q=>if q=z then some y else f q)->w.grownBy w' (some b)->wpList Try.prog ops Q rest (a.put o.dst undef) w'):wpList Try.prog ops Q (o::rest) a w:=by
 obtain⟨D,h1,h2,h3⟩:=h;obtain⟨kl,h0⟩:=Option.isSome_iff_exists.1 (K.of z hz);obtain⟨w',h4,h5,h7⟩:=h1.update K.key K.und hn h0 (plainElem_int sG (qBZ (x:=(y:Int)) ⟨by omega,by omega⟩));refine wpList_plain hg fun K' hK'=>?_;unfold Oper.wp;simp[execOp,hop,hm,hx,hv,h4,Result.andThen];refine hK' _ _ (hK w' ⟨_,h5,?_,fun q ql hq hql=>?_⟩ h7)
 ·rw[size_put (h1.tidy K.key),(h3 z kl hz h0).1,h2]
 ·by_cases e:q=z
  ·subst e
   rw[h0]at hql;cases hql;refine⟨by rw[has_put_same h1.isMap (K.key.key h0)];simp,?_⟩;simp only[if_pos];rw[atKey_put_same h1.isMap (K.key.key h0)];rfl
  ·have h6:ql≠kl:=fun h=>e (K.inj q z hq hz (K.key.inj (hql.trans (congrArg some h)) h0))
   obtain⟨e1,e2⟩:=h3 q ql hq hql;simp only[if_neg e];exact⟨by rw[has_put_other h6,e1],by rw[atKey_put_other h6,e2]⟩
end
section
variable {B:Nat} {X:Nat->Prop} {o ty:Nat} {w0 wk w w':World} {rs:List RowS} {c:Array Value}
theorem BoxS.rebase (h:BoxS B X o ty w0 wk rs c w):BoxS B X o ty w0 w rs c w :=
 ⟨h.mem,h.typ,h.box,h.off,h.size,h.old,Nat.le_trans h.base h.wk,h.grown,uN.refl _ _,Nat.le_refl _⟩
theorem BoxS.fresh (h:BoxS B X o ty w0 wk rs c w)(hg:w.grownBy w' none){Y:Nat->Prop}(hY:∀k,Y k->w.heap.size<=k/\k<w'.heap.size):BoxS B (fun k=>X k\/Y k) o ty w0 w' rs c w' :=
 ⟨h.mem.fresh hg hY,h.typ,zB h.box hg (by simp),fun e=>by
  rcases e with e|e
  ·exact h.off e
  ·have:=(hY o e).1
   have:=zK h.box
   omega,h.size,h.old,Nat.le_trans (Nat.le_trans h.base h.wk) hg.size,zA h.grown hg (by simp),uN.refl _ _,Nat.le_refl _⟩
theorem BoxS.far (h:BoxS B X o ty w0 wk rs c w){mb:Nat}(hg:w.grownBy w' (some mb))(hr:∀r∈rs,r.v.ownBlock≠some mb)(hx:¬X mb)(ho:o≠mb)(hold:w0.heap.size<=mb):BoxS B X o ty w0 wk rs c w' :=
 ⟨h.mem.far hg hr,h.typ,zB h.box hg (fun e=>ho (Oj e).symm),h.off,h.size,h.old,h.base,zA h.grown hg (fun j e=>by have e:mb=j:=Oj e;omega),h.kept.trans (uN.of_grown h.mem.lt hg (fun j e hxx=>by have e:mb=j:=Oj e;subst e;exact hx hxx)),Nat.le_trans h.wk hg.size⟩
theorem BoxS.appAt (h:BoxS B X o ty w0 wk rs c w){j:Nat}{r:RowS}(hr:rs[j]?=some r){v':Value}{n':Nat}{us:List Value}(ho:w'.ownsRow r.base r.e r.sz v' n' (r.xs++us))(hg:w.grownBy w' r.v.ownBlock)(hm:qS w w' r.v v'):BoxS B X o ty w0 wk (rs.set j ⟨r.base,r.e,v',n',r.xs++us,r.sz⟩) c w':=by
 have h0:=List.mem_of_getElem? hr;have h1:=h.mem.own _ h0;have ht:=h.typ _ h0;have h2:∀k,r.v.ownBlock=some k->B<=k/\k≠o/\¬X k:=fun k hk=>⟨by have:=(h1.lt k hk).1;rw[ht.1]at this;exact this,fun e=>by subst e;exact zQ h1 h.box ht.2 hk,h.mem.offX r h0 k hk⟩;refine⟨h.mem.appAt hr ho hg hm,fun s hs=>?_,zB h.box hg (fun e=>(h2 o e).2.1 rfl),h.off,h.size,h.old,h.base,zA h.grown hg (fun k e=>Nat.le_trans h.size (h2 k e).1),h.kept.trans (uN.of_grown h.mem.lt hg (fun k e=>(h2 k e).2.2)),Nat.le_trans h.wk hg.size⟩;rcases List.mem_or_eq_of_mem_set hs with hs|rfl
 ·exact h.typ s hs
 ·exact ht
theorem BoxS.stand (h:BoxS B X o ty w0 wk rs c w){mb:Nat}(hb:mb<w.heap.size)(hr:∀r∈rs,r.v.ownBlock≠some mb)(ho:o≠mb):BoxS B (fun q=>X q\/q=mb) o ty w0 w rs c w :=
  ⟨⟨h.mem.own,h.mem.apart,fun r hr' k hk hx=>by
    rcases hx with hx|hx
    · exact h.mem.offX r hr' k hk hx
    · subst hx;exact hr r hr' hk,fun k hk=>by
    rcases hk with hk|hk
    · exact h.mem.lt k hk
    · subst hk;exact hb⟩,h.typ,h.box,fun e=>by
    rcases e with e|e
    · exact h.off e
    · exact ho e,h.size,h.old,Nat.le_trans h.base h.wk,h.grown,uN.refl _ _,Nat.le_refl _⟩
theorem BoxS.less {X':Nat->Prop}(h:BoxS B X' o ty w0 wk rs c w)(hX:∀q,X q->X' q):BoxS B X o ty w0 wk rs c w :=
 ⟨⟨h.mem.own,h.mem.apart,fun r hr k hk hx=>h.mem.offX r hr k hk (hX k hx),fun k hk=>h.mem.lt k (hX k hk)⟩,h.typ,h.box,fun e=>h.off (hX o e),h.size,h.old,h.base,h.grown,fun k hk=>h.kept k (hX k hk),h.wk⟩
end
theorem MapK.of_block {α:Type}{kt:TypeId}{V:α->Prop}{kv:α->Value}{w w':World}{b n c:Nat}{f:α->Option Nat}(h:MapK kt V kv w b n c f)(hb:w'.heap[b]?=w.heap[b]?):MapK kt V kv w' b n c f:=by
 obtain⟨D,⟨es,clock,h1,h2⟩,h3⟩:=h;exact⟨D,⟨es,clock,hb.trans h1,h2⟩,h3⟩
theorem yL {w:World}{base e sz n b:Nat}{v:Value}{xs:List Value}{es:Array (Value×Value)}{clock:Nat}(h:w.ownsRow base e sz v n xs)(hb:∃es clock,w.heap[b]?=some (.map es clock)):v.ownBlock≠some b:=by
 obtain⟨es,clock,hb⟩:=hb;rcases h.2 with ⟨h1,_⟩|⟨g,cap,cur,h1,_,hg,_⟩
 ·rw[h1];simp[Value.ownBlock]
 ·rw[h1]
  intro e;have e:g=b:=by simpa [Value.ownBlock] using e
  subst e;rw[hb]at hg;simp at hg
theorem RowX.of_new {X:Nat->Prop}{w:World}{g n c:Nat}{f:List Nat}(h:Arr w g 3 (nats f))(hn:f.length=n)(hc:n<=c)(hm:c<=maxLen)(hX:X g):RowX X 3 w (.slice (some ⟨g,0,none⟩) n c) (nats f):=by
 subst hn;have:=h.rowT' (cap:=c) (by rw[zW];exact hc) hm;rw[zW]at this;exact⟨this,fun k hk=>by simp[Value.ownBlock]at hk;subst hk;exact hX⟩
def numE (els:List (List Nat))(f:List Nat):Option Nat:=if f∈els then some (els.idxOf f) else none
theorem qBX {els:List (List Nat)}{f:List Nat}(h:f ∉ els):(fun q=>if q=f then some els.length else numE els q)=numE (els++[f]):=by
 funext q;unfold numE;by_cases e:q=f
 ·subst e
  rw[if_pos rfl,if_pos (by simp),List.idxOf_append,if_neg h];simp
 ·rw[if_neg e]
  by_cases hq:q∈els
  ·rw[if_pos hq,if_pos (by simp[hq]),List.idxOf_append,if_pos hq]
  ·rw[if_neg hq,if_neg (by simp[hq,e])]
theorem make1o {P:Program}{w:World}{ops:Array Oper}{rest:List Oper}{o:Oper}{a:Act}{Q:Exit->Act->World->Prop}(hgd:o.guard=none)(l c:Operand)(t:TypeId)(ho:o.op=.makeSlice t l c){e:TypeId}{z:Value}{bytes:Nat}(E:ElemOk P t e z bytes)(hz:z.cells=#[z])(kl kc:IntKind)(L C:Int)(n:Nat)(hl:a.eval l=.int kl L)(hc:a.eval c=.int kc C)(hL:L=(n:Int))(hC:C=(n:Int))(hb:bytes*n<=281474976710656)(h63:n<=maxLen)(h:∀w',w'.ownsRow w.heap.size e 1 (.slice (some ⟨w.heap.size,0,none⟩) n n) n (List.replicate n z)->w.grownBy w' none->w.heap.size<w'.heap.size->wpList P ops Q rest (a.put o.dst (.slice (some ⟨w.heap.size,0,none⟩) n n)) w'):wpList P ops Q (o::rest) a w:=by
 obtain⟨i,hi,h1,h2,h3⟩:=info_parts E.hi;refine wpList_make_full w hgd l c t ho w.heap.size e i z 1 E.ht hi h1 h2 kl kc L C n hl hc hL hC (by rw[h3];exact hb) h63 (Nat.le_refl _) ?_;intro w' h0 hg;have ha:=Arr.of_owns h0;rw[mE hz]at h0;exact h w' h0 hg ha.lt
end Go.Proofs.Ytjfdomfendbhfaa
namespace Go.Proofs.Ytjfdomfendbhfaa
open Go.RowKit
def zb (l:List Nat):List Int:=l.map fun(x:Nat)=>(x:Int)
def txtT (f:List Nat):ByteArray:=strOfNums (zb f)
theorem qAV (l:List Nat):(zb l).length=l.length:=by simp[zb]
def u8s (l:List Nat):List Value:=(zb l).map (Value.int .u8)
theorem cO (l:List Nat):(u8s l).length=l.length:=by simp[u8s,zb]
theorem fD (l:List Nat)(i x:Nat):(u8s l).set i (.int .u8 (x:Int))=u8s (l.set i x):=by simp[u8s,zb,List.map_set]
theorem u8s_replicate (n:Nat):u8s (List.replicate n 0)=List.replicate n (.int .u8 0):=by simp[u8s,zb]
theorem aH {w:World}{g:Nat}{l:List Nat}(h:Arr w g 5 (u8s l))(i:Nat)(hi:i<l.length):w.cell? ⟨g,i,none⟩=some (.int .u8 ((l.getD i 0:Nat):Int)):=by
 rw[h.cell i (by rw[cO];exact hi),zG hi];simp[u8s,zb]
theorem qDU {f g:List Nat}(hf:∀x∈f,x<256)(hg:∀x∈g,x<256)(h:txtT f=txtT g):f=g:=by
 have h1:(zb f).map (fun n=>UInt8.ofNat n.toNat)=(zb g).map (fun n=>UInt8.ofNat n.toNat):=by
  have:=congrArg (fun s:ByteArray=>s.data.toList) h;simpa [txtT,strOfNums] using this
 simp only[zb,List.map_map]at h1;refine List.ext_getElem (by have:=congrArg List.length h1;simpa using this) fun i h2 h3=>?_;have h4:=congrArg (fun l=>l[i]?) h1;simp only[List.getElem?_map,List.getElem?_eq_getElem h2,List.getElem?_eq_getElem h3,Option.map_some,Option.some.injEq,Function.comp,Int.toNat_natCast]at h4;have h5:=congrArg UInt8.toNat h4;have h6:=hf _ (List.getElem_mem h2);have h7:=hg _ (List.getElem_mem h3);simp only[UInt8.toNat_ofNat']at h5;omega
theorem aI (x n:Int)(hn:1<=n):-n<x.tmod n/\x.tmod n<n:=by
 constructor
 ·by_cases h:0<=x
  ·have:=Int.tmod_nonneg n h;omega
  ·have h1:=Int.tmod_lt_of_pos (-x) (show (0:Int)<n by omega)
   rw[Int.neg_tmod]at h1;omega
 ·exact Int.tmod_lt_of_pos x (by omega)
def modI (x n:Int):Int:=if n<1 then 0 else if x.tmod n<0 then x.tmod n+n else x.tmod n
theorem modI_nonneg (x n:Int):0<=modI x n:=by
 unfold modI;split
 ·omega
 ·have:=aI x n (by omega);split<;>omega
theorem modI_lt (x n:Int)(h:1<=n):modI x n<n:=by
 have:=aI x n h;unfold modI;rw[if_neg (by omega)];split<;>omega
theorem modI_zero (x n:Int)(h:n<1):modI x n=0:=by
 unfold modI;rw[if_pos h]
theorem qHC (x n:Int)(w:World)(hn:n<=9223372036854775807):Calls Try.prog 30 #[.int .i64 x,.int .i64 n] w fun e w'=>e=.returned (.int .i64 (modI x n))/\w=w':=by
 by_cases h1:n<1
 ·go_enter Try.func30,Try.ntmps30
  go_wp2;go_ret;exact⟨yB (modI_zero x n (by omega)).symm,rfl⟩
 ·have h2:=(aI x n (by omega)).1
  have h0:=(aI x n (by omega)).2;go_enter Try.func30,Try.ntmps30;go_wp2
  all_goals (go_ret;exact⟨yB (by unfold modI;rw[if_neg (by omega)];first|rw[if_pos (by omega)]|rw[if_neg (by omega)]),rfl⟩)
def xL (B:Nat)(w:World)(tb:Nat):Prop :=
 ∃(sl:Value) (zs:List Int) (n:Nat),w.heap[tb]?=some (.cells #[sl,.int .i64 n] 82 (0,0))/\Row B w sl (zs.map (Value.int .i64))/\B<=tb/\n<=zs.length
theorem xL.lt {B:Nat}{w:World}{tb:Nat}(h:xL B w tb):tb<w.heap.size:=by
 obtain⟨_,_,_,h,_⟩:=h;exact(Array.getElem?_eq_some_iff.1 h).1
theorem xL.ge {B:Nat}{w:World}{tb:Nat}(h:xL B w tb):B<=tb:=by
 obtain⟨_,_,_,_,_,h,_⟩:=h;exact h
theorem xL.kept {B:Nat}{w w':World}{tb:Nat}{row:Option Nat}(h:xL B w tb)(hg:w.grownBy w' row)(hr:∀k,row=some k->B<=k/\k≠tb):xL B w' tb:=by
 have hl:=h.lt;obtain⟨sl,zs,n,h1,h2,h3,h4⟩:=h;exact⟨sl,zs,n,(hg.block tb hl (fun e=>(hr tb e.symm).2 rfl)).trans h1,h2.kept hg (fun k e=>(hr k e).1),h3,h4⟩
theorem xL.of_heap {B:Nat}{w w':World}{tb:Nat}(h:xL B w tb)(e:w'.heap=w.heap):xL B w' tb:=by
 obtain⟨sl,zs,n,h1,h2,h3,h4⟩:=h;exact⟨sl,zs,n,by rw[e];exact h1,h2.of_heap e,h3,h4⟩
theorem tape_step {B:Nat}{w:World}{tb:Nat}{sl:Value}{zs:List Int}{n:Nat}(h1:w.heap[tb]?=some (.cells #[sl,.int .i64 n] 82 (0,0)))(h2:Row B w sl (zs.map (Value.int .i64)))(h3:B<=tb)(h4:n<zs.length):
  xL B (w.setCell ⟨tb,1,none⟩ (.int .i64 ((n:Int)+1))) tb :=
 ⟨sl,zs,n+1,heap_setCell_same w tb 1 _ _ _ h1,h2.kept (zC w ⟨tb,1,none⟩ _) (by simp;omega),h3,h4⟩
def Dealt (B tb:Nat)(w:World)(n:Int)(e:Ending)(w':World):Prop :=
 ∃r:Int,e=.returned (.int .i64 r)/\0<=r/\(1<=n->r<n)/\xL B w' tb/\w.grownBy w' (some tb)
theorem wW (B tb:Nat)(w:World)(n:Int)(hn:n<=9223372036854775807)(hT:xL B w tb):Calls Try.prog 15 #[.pointer (some ⟨tb,0,none⟩),.int .i64 n] w (Dealt B tb w n):=by
 have HT:=Kh hT;obtain⟨sl,zs,at_,h0,h1,hB,h3⟩:=hT;have c0:w.cell? ⟨tb,0,none⟩=some sl:=by rw[cell_of_row w tb 0 _ _ _ h0];rfl
 have c1:w.cell? ⟨tb,1,none⟩=some (.int .i64 at_):=by rw[cell_of_row w tb 1 _ _ _ h0];rfl
 have f1:w.frozen? ⟨tb,1,none⟩=false:=frozen_of_row w tb 1 _ _ h0;rcases h1 with ⟨sa,sc,rfl,hz⟩|⟨b,off,cap,rfl,hbB,hlc,hcm,hra⟩
 ·have HR:=Kh hz;have:zs=[]:=by simpa using hz
  subst this;have:at_=0:=by simpa using h3
  subst this;clear h0 hz;go_enter Try.func15,Try.ntmps15;go_wp2
  go_quiet (fail)
  go_wp2;go_ret;exact⟨0,rfl,by omega,by omega,HT.out.kept (zM _ _ none) (by simp),zM _ _ _⟩
 ·rw[List.length_map]at hlc c0
  by_cases hlt:at_<zs.length
  ·have hc:=hra.2 at_ (by simpa using hlt)
   have h4:b≠tb:=(by omega);have h2:zs.length<=9223372036854775807:=by unfold maxLen at hcm;omega
   simp only[List.getElem_map]at hc;have HB:=Kh h0;have HR:=Kh hra;clear h0 hra;go_enter Try.func15,Try.ntmps15;go_wp2
   go_quiet (fail)
   go_wp2;have e1:IntKind.i64.wrap (at_:Int)=at_:=IntWalk.i64_in _ (by omega);have e2:(at_:Int)<zs.length:=by omega
   go_quiet ((go_at_call 30;first|exact quiet_left (qHC _ _ _ hn)|exact sX (qHC _ _ _ hn)))
   go_wp2;go_ret;refine⟨modI zs[at_] n,rfl,modI_nonneg _ _,modI_lt _ _,?_,?_⟩
   ·exact xL.of_heap (tape_step HB.out (.inr ⟨b,off,cap,by rw[List.length_map],hbB,by simpa using hlc,hcm,HR.out⟩) hB hlt) rfl
   ·exact uC (zC w ⟨tb,1,none⟩ _) rfl rfl rfl rfl
  ·have h2:zs.length<=9223372036854775807:=by unfold maxLen at hcm;omega
   clear h0 hra;go_enter Try.func15,Try.ntmps15;go_wp2
   go_quiet (fail)
   go_wp2;go_ret;exact⟨0,rfl,by omega,by omega,HT.out.kept (zM _ _ none) (by simp),zM _ _ _⟩
def qIE (B:Nat)(w:World)(e:Ending)(w':World):Prop :=
 e=.returned (.pointer (some ⟨w.heap.size,0,none⟩))/\xL B w' w.heap.size/\w.grownBy w' none
theorem aX {B:Nat}{w:World}{sl:Value}{zs:List Int}(h:Row B w sl (zs.map (Value.int .i64)))(hB:B<=w.heap.size):
  qIE B w (.returned (.pointer (some ⟨w.heap.size,0,none⟩))) (w.alloc (.cells #[sl,.int .i64 0] 82)) :=
 ⟨rfl,⟨sl,zs,0,heap_alloc_new w _,h.kept (Ga w _ none) (by simp),hB,Nat.zero_le _⟩,Ga w _ none⟩
theorem Row.cut {B:Nat}{w:World}{b off cap:Nat}{xs:List Value}(n:Nat)(hn:n<=xs.length)(hb:b<B)(hc:xs.length<=cap)(hm:cap<=maxLen)(h:uJ w b off xs):
  Row B w (.slice (some ⟨b,off,none⟩) n cap) (xs.take n) :=
 .inr ⟨b,off,cap,by rw[List.length_take,Nat.min_eq_left hn],hb,by rw[List.length_take];omega,hm,h.1,fun i hi=>by
  rw[List.length_take]at hi
  rw[h.2 i (by omega),List.getElem_take]⟩
theorem new_any (B:Nat)(w:World)(sl:Value)(zs:List Int)(h:Row B w sl (zs.map (Value.int .i64)))(hB:B<=w.heap.size):Calls Try.prog 14 #[sl] w (qIE B w):=by
 have HH:=Kh h;rcases h with ⟨sa,sc,rfl,hz⟩|⟨b,off,cap,rfl,hbB,hlc,hcm,hra⟩
 ·have HZ:=Kh hz;clear hz
  go_enter Try.func14,Try.ntmps14;go_wp2;go_ret;exact aX HH.out hB
 ·rw[List.length_map]at *
  have h0:cap<=9223372036854775807:=by unfold maxLen at hcm;omega
  by_cases h80:80<zs.length
  ·go_enter Try.func14,Try.ntmps14
   go_wp2;go_ret;refine aX (zs:=zs.take 80) ?_ hB;rw[List.map_take];exact Row.cut 80 (by simp;omega) hbB (by simpa using hlc) hcm hra
  ·go_enter Try.func14,Try.ntmps14
   go_wp2;go_ret;exact aX HH.out hB
theorem qDM:ElemOk Try.prog 106 5 (.int .u8 0) 1:=⟨Try.underlying106,by kernel_rfl,rfl⟩
def qGC (letters:Int)(n:Int):Prop:=97<=n/\n<97+letters
def qW (letters:Int)(c:UInt8):Bool:=decide (97<=(c.toNat:Int)/\(c.toNat:Int)-97<letters)
def zU (s:ByteArray)(letters:Int):Bool:=decide (1<=letters/\letters<=6/\s.size<=2048) && s.data.toList.all (qW letters)
theorem qT (s:ByteArray)(letters:Int)(k:Nat)(hk:k<s.size)(h:(s[k].toNat:Int)<97\/letters<=((s[k].toNat:Int)-97) % 256):zU s letters=false:=by
 have hm:s[k]∈s.data.toList:=by
  have:s[k]=s.data[k]'(by simpa using hk):=rfl;rw[this];simp
 have h2:qW letters s[k]=false:=by
  have:=UInt8.toNat_lt s[k];simp[qW];omega
 unfold zU;rw[Bool.and_eq_false_iff];right;rw[List.all_eq_false];exact⟨_,hm,by simp[h2]⟩
theorem qFW (s:ByteArray)(letters:Int)(k:Nat)(hk:k<s.size)(h:(s.data.toList.take k).all (qW letters)=true)(h1:97<=(s[k].toNat:Int)/\((s[k].toNat:Int)-97) % 256<letters):(s.data.toList.take (k+1)).all (qW letters)=true:=by
 rw[List.take_succ_eq_append_getElem (by simpa using hk),List.all_append,h];have:s.data.toList[k]'(by simpa using hk)=s[k]:=rfl;have h3:=UInt8.toNat_lt s[k];simp[this,qW];omega
theorem kN (s:ByteArray)(letters:Int)(k:Nat)(hk:s.size<=k)(h:1<=letters/\letters<=6/\s.size<=2048)(ha:(s.data.toList.take k).all (qW letters)=true):zU s letters=true:=by
 rw[List.take_of_length_le (by simpa using hk)]at ha;simp[zU,ha,h]
theorem oF (s:ByteArray)(letters:Int)(w:World)(hs:s.size<=maxLen):Calls Try.prog 39 #[.string s,.int .i64 letters] w fun e w'=>e=.returned (.bool (zU s letters))/\w=w':=by
 unfold maxLen at hs;by_cases h1:letters<1
 ·go_enter Try.func39,Try.ntmps39
  go_wp2;go_ret;exact⟨yA (by simp[zU];omega),rfl⟩
 by_cases h2:6<letters
 ·go_enter Try.func39,Try.ntmps39
  go_wp2;go_ret;exact⟨yA (by simp[zU];omega),rfl⟩
 by_cases h3:2048<s.size
 ·go_enter Try.func39,Try.ntmps39
  go_wp2;go_ret;exact⟨yA (by simp[zU];omega),rfl⟩
 go_enter Try.func39,Try.ntmps39;go_wp2
 go_loop [19] (fun i=>∃k:Nat,k<=s.size/\i=.int .i64 k/\(s.data.toList.take k).all (qW letters)=true) (fun i=>s.size-(intOf i).toNat)
 case atStart=>exact⟨0,Nat.zero_le _,rfl,rfl⟩
 case round =>
  obtain⟨k,hk,rfl,h0⟩:=hrel;have HA:=Kh h0;clear h0;by_cases hlt:k<s.size
  ·go_wp2
   ·go_ret
    exact⟨yA (by rw[eq_comm];exact qT s letters k hlt (by omega)),rfl⟩
   ·go_round
    case rel=>exact⟨k+1,by omega,by go_num,qFW s letters k hlt HA.out (by omega)⟩
    case measure=>simp[intOf];omega
   ·go_ret
    exact⟨yA (by rw[eq_comm];exact qT s letters k hlt (by omega)),rfl⟩
  ·go_wp2
   go_ret;exact⟨yA (by rw[eq_comm];exact kN s letters k (by omega) (by omega) HA.out),rfl⟩
def lex (letters:Nat):Nat->List (List Int)
 | 0=>[[]]
 | n+1=>(lex letters n).flatMap fun w=>(List.range letters).map fun(c:Nat)=>w++[97+(c:Int)]
def block (letters:Nat)(w:List Int)(c:Nat):List (List Int):=(List.range' c (letters-c)).map fun(c:Nat)=>w++[97+(c:Int)]
theorem qAB (letters n:Nat):lex letters (n+1)=(lex letters n).flatMap fun w=>block letters w 0:=by
 simp[lex,block,List.range_eq_range']
theorem qI {letters:Nat}:∀ {n:Nat} {w:List Int},w∈lex letters n->w.length=n/\∀x∈w,qGC letters x
 | 0,w,h=>by simp[lex]at h;subst h;simp
 | n+1,w,h=>by
  simp only[lex,List.mem_flatMap,List.mem_map,List.mem_range]at h
  obtain⟨v,hv,c,hc,rfl⟩:=h
  obtain⟨h1,h2⟩:=qI hv
  refine⟨by simp[h1],fun x hx=>?_⟩
  rcases List.mem_append.1 hx with hx|hx
  ·exact h2 x hx
  ·simp at hx;subst hx;unfold qGC;omega
theorem tU (letters:Nat):∀n,(lex letters n).length=letters ^ n
 | 0=>rfl
 | n+1=>by
  rw[qAB,List.length_flatMap]
  have:(lex letters n).map (fun w=>(block letters w 0).length)=List.replicate (letters ^ n) letters:=by
   rw[<-tU letters n,<-List.map_const'];refine List.map_congr_left fun w _=>?_;simp[block]
  rw[this,List.sum_replicate_nat,Nat.pow_succ]
end Go.Proofs.Ytjfdomfendbhfaa
