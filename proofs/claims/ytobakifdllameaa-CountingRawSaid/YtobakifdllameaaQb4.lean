/- Part 4 of the proof. -/
import Derived.Test.YtobakifdllameaaQb3
import Derived.Laws.Concat
set_option linter.unusedVariables false
set_option linter.unusedSimpArgs false
set_option maxRecDepth 100000
set_option maxHeartbeats 16000000
namespace Go.Proofs.Ytobakifdllameaa
open Go.RowKit
theorem pD:ElemOk Try.prog 42 9 (.string ⟨#[]⟩) 16:=⟨Try.underlying42,by kernel_rfl,rfl⟩
def metL (n:Nat)(l:List Nat):List Bool:=(List.range n).map fun q=>decide (q∈l)
theorem xQ (n:Nat)(l:List Nat):(metL n l).length=n:=by simp[metL]
theorem lS {n:Nat}{l:List Nat}{q:Nat}(h:q<n):(metL n l).getD q false=decide (q∈l):=by
 rw[zN (by rw[xQ];exact h)];simp[metL]
theorem jG {n:Nat}{l:List Nat}{q:Nat}:(metL n l).set q true=metL n (l++[q]):=by
 refine List.ext_getElem (by simp[metL]) fun i h1 h2=>?_;rw[List.getElem_set];simp only[metL,List.getElem_map,List.getElem_range,List.mem_append,List.mem_singleton];by_cases e:q=i
 ·subst e;simp
 rw[if_neg e];congr 1;simp[Ne.symm e]
theorem aK (n:Nat):metL n []=List.replicate n false:=by
 refine List.ext_getElem (by simp[metL]) fun i h1 h2=>by simp[metL]
def eR (ws:List ByteArray):Prop:=∀j,j<ws.length->(ws.getD j ⟨#[]⟩).size<=j
def strV (ws:List ByteArray):List Value:=ws.map Value.string
theorem eR.snoc {ws:List ByteArray}{x:ByteArray}(h:eR ws)(hx:x.size<=ws.length):eR (ws++[x]):=by
 intro j hj;rw[List.length_append,List.length_singleton]at hj;by_cases h1:j<ws.length
 ·have:=h j h1
  simpa [List.getD,List.getElem?_append_left h1] using this
 have:j=ws.length:=by omega
 subst this;simpa [List.getD] using hx
theorem qHX (ws:List ByteArray)(x:ByteArray):strV (ws++[x])=strV ws++[.string x]:=by simp[strV]
def qTI (w:World)(l:List Nat)(e:Ending)(w':World):Prop :=
 ∃(sa:Option Addr) (sc:Nat) (v:Value),e=.returned (.tuple #[.slice sa l.length sc,v])/\w'.ownsRow w.heap.size 3 1 (.slice sa l.length sc) l.length (nats l)/\w.grownBy w' none
inductive acc13I (P sa sb sc sd s a1 i0:Nat)(m:List Nat)(ws:List ByteArray)(u X:ByteArray)(F:Nat->Prop)(w5:World)(a0:Act)(l:Array Bool)(a:Act)(w:World):Prop
 | mk (x55:Value) (x56:Value) (x65:Value) (x66:Value) (x67:Value) (x68:Value) (x69:Value) (x4:Value) (x5:Value) (vA:Value) (nA:Nat) (xA:List Value) (vB:Value) (nB:Nat) (xB:List Value) (ls:List (Nat×Obj)) (ha:a=zP a0 [(55,x55),(56,x56),(65,x65),(66,x66),(67,x67),(68,x68),(69,x69),(4,x4),(5,x5)]) (HR:∀j∈[0,1,4,5,6,7,8,9,10,11],l.getD j true=true) (H2:Hid (l.getD 2 true=true->∃g,x55=.slice (some ⟨g,0,none⟩) 1 1/\(g,Obj.cells #[Value.int .i64 (s:Int)] 3 (0,0))∈ls)) (H3n:Hid (l.getD 3 true=false->vA=.slice (some ⟨sa,0,none⟩) m.length sc/\m.length=nA/\xA=nats m)) (H3:Hid (l.getD 3 true=true->∃ra rc,vA=.slice ra (m.length+1) rc/\x56=.slice ra (m.length+1) rc/\nA=m.length+1/\xA=nats m++[Value.int .i64 (s:Int)])) (H12:Hid (l.getD 12 true=true->∃g,x65=.slice (some ⟨g,0,none⟩) 1 1/\(g,Obj.cells #[Value.int .u8 (97+(a1:Int))] 5 (0,0))∈ls)) (H13:Hid (l.getD 13 true=true->x66=.string X)) (H14:Hid (l.getD 14 true=true->x67=.string (u++X))) (H15:Hid (l.getD 15 true=true->∃g,x68=.slice (some ⟨g,0,none⟩) 1 1/\(g,Obj.cells #[Value.string (u++X)] 9 (0,0))∈ls)) (H16n:Hid (l.getD 16 true=false->vB=.slice (some ⟨sb,0,none⟩) m.length sd/\m.length=nB/\xB=strV ws)) (H16:Hid (l.getD 16 true=true->l.getD 3 true=true/\∃ra rc,vB=.slice ra (m.length+1) rc/\x69=.slice ra (m.length+1) rc/\nB=m.length+1/\xB=strV ws++[Value.string (u++X)])) (H17:Hid (l.getD 17 true=true->l.getD 3 true=true/\x4=x56)) (H18:Hid (l.getD 18 true=true->l.getD 16 true=true/\x5=x69)) (HM:(Many w5 F w [⟨P,3,vA,nA,xA,1⟩,⟨P,9,vB,nB,xB,1⟩] ls [(sb,9,strV ws)]))
theorem qQX {P sa sb sc sd s a1 i0:Nat}{m:List Nat}{ws:List ByteArray}{u X:ByteArray}{F:Nat->Prop}{w5:World}{a0:Act}{l:Array Bool}{a:Act}{w:World}(a9:∀W rs ls,Many w5 F W rs ls [(sb,9,strV ws)]->W.cell? ⟨sb,i0,none⟩=some (.string u))(h:acc13I P sa sb sc sd s a1 i0 m ws u X F w5 a0 l a w):wH 99 (fun W=>W.cell? ⟨sb,i0,none⟩=some (.string u)) (fun W=>W.cell? ⟨sb,i0,none⟩=some (.string u)) l w:=by
 obtain⟨x55,x56,x65,x66,x67,x68,x69,x4,x5,vA,nA,xA,vB,nB,xB,ls,ha,HR,H2,h1,H3,h8,h7,h6,h5,h0,h4,h3,h2,HM⟩:=h;exact⟨a9 w _ _ HM,fun _=>a9 w _ _ HM⟩
theorem pS {P sa sb sc sd s a1 i0:Nat}{m:List Nat}{ws:List ByteArray}{u X:ByteArray}{F:Nat->Prop}{w5:World}{a0:Act}{l:Array Bool}{a:Act}{w:World}(h:acc13I P sa sb sc sd s a1 i0 m ws u X F w5 a0 l a w):∀j∈[0,1,4,5,6,7,8,9,10,11],l.getD j true=true:=by
 obtain⟨x55,x56,x65,x66,x67,x68,x69,x4,x5,vA,nA,xA,vB,nB,xB,ls,ha,HR,H2,h1,H3,h8,h7,h6,h5,h0,h4,h3,h2,HM⟩:=h;exact HR
theorem qEH {P sa sb sc sd s a1 i0:Nat}{m:List Nat}{ws:List ByteArray}{u X:ByteArray}{F:Nat->Prop}{w5:World}{v0 v1 v2 v3 v4 v5 v6 v7 v8 v9 f3 f4 f5 f6 f7 f8 f9 e0 e1 e2 e3 e4 e5 e6 e7 e8 e9 d0 d1 d2 d3 d4 d5 d6 d7 d8 d9 c0 c1 c2 c3 c4 c5 c6 c7 c8 c9 b0 b1 b2 b3 b4 b5 b6 b7 b8 b9 a2 a3 a4 a5 a6:Value}{dd:_}{a0:Act}(a9:a0=⟨#[v0,v1,v2,v3,v4,v5,v6,v7,v8,v9,f3,f4,f5,f6,f7,f8,f9,e0,e1,e2,e3,e4,e5,e6,e7,e8,e9,d0,d1,d2,d3,d4,d5,d6,d7,d8,d9,c0,c1,c2,c3,c4,c5,c6,c7,c8,c9,b0,b1,b2,b3,b4,b5,.slice (some ⟨sa,0,none⟩) m.length sc,.int .i64 (s:Int),b6,b7,.slice (some ⟨sb,0,none⟩) m.length sd,.slice (some ⟨sb,0,none⟩) m.length sd,.int .i64 (i0:Int),.pointer (some ⟨sb,i0,none⟩),.string u,.int .i64 (a1:Int),.int .i64 (97+(a1:Int)),.int .u8 (97+(a1:Int)),b8,b9,a2,a3,a4,a5,a6],dd⟩)(f1:m.length<=4194304)(a8:P<=w5.heap.size)(f2:∀(W:World) (g:Nat),W.cell? ⟨g,0,none⟩=some (.int .u8 (97+(a1:Int)))->(convert 30 9 (.slice (some ⟨g,0,none⟩) 1 1)).run Try.prog W=.ok (.string X) W)(f0:∀W:World,(Op.stringOp .add u X).run Try.prog W=.ok (.string (u++X)) W)(a7:Array Oper)(Q7:Exit->Act->World->Prop):pO (jX Try.prog .any a7 Q7 (acc13I P sa sb sc sd s a1 i0 m ws u X F w5 a0)) 0 (rZ Try.f81 13).toList:=by
 refine⟨?s0,?s1,?s2,?s3,?s4,?s5,?s6,?s7,?s8,?s9,?s10,?s11,?s12,?s13,?s14,?s15,?s16,?s17,?s18,trivial⟩
 case s0 =>
  exact fun l a w h h3=>absurd (pS h 0 (by simp)) (by rw[h3];simp)
 case s1 =>
  exact fun l a w h h3=>absurd (pS h 1 (by simp)) (by rw[h3];simp)
 case s2 =>
  intro l a w h h3 h0 K hK;obtain⟨x55,x56,x65,x66,x67,x68,x69,x4,x5,vA,nA,xA,vB,nB,xB,ls,ha,HR,H2,h5,H3,H4,H1,H0,h9,h4,h8,h7,h6,HM⟩:=h;subst ha;rw[a9];simp only[zP,List.foldl_cons,List.foldl_nil,Act.put,sPa,sPb,sPc];go_simp;refine hK.out _ _ ?_;refine⟨(.slice (some ⟨w.heap.size,0,none⟩) 1 1),x56,x65,x66,x67,x68,x69,x4,x5,vA,nA,xA,vB,nB,xB,((w.heap.size,Obj.cells #[Value.int .i64 (s:Int)] 3 (0,0))::ls),?fa2,fun j hj=>zD (HR j hj),Kh (fun _=>⟨w.heap.size,rfl,List.Mem.head _⟩),(hs7N h5),(hs7P H3),Kh (fun h=>let ⟨g,h1,h2⟩:=H4.out (zE (by decide) h);⟨g,h1,List.Mem.tail _ h2⟩),(hs7P H1),(hs7P H0),Kh (fun h=>let ⟨g,h1,h2⟩:=h9.out (zE (by decide) h);⟨g,h1,List.Mem.tail _ h2⟩),(hs7N h4),(hs7Q h8),(hs7Q h7),(hs7Q h6),HM.alloc (.cells #[Value.int .i64 (s:Int)] 3)⟩
  case fa2=>rw[a9];simp only[zP,List.foldl_cons,List.foldl_nil,Act.put,sPa,sPb,sPc]
 case s3 =>
  intro l a w h h3 h0 K hK;obtain⟨x55,x56,x65,x66,x67,x68,x69,x4,x5,vA,nA,xA,vB,nB,xB,ls,ha,HR,H2,h5,H3,H4,H1,H0,h9,h4,h8,h7,h6,HM⟩:=h;have DH2:=H2.out (zM (h0 ⟨2,.data⟩ (by simp) rfl));obtain⟨g5,rfl,H5⟩:=DH2;obtain⟨rfl,rfl,rfl⟩:=h5.out h3;subst ha;rw[a9];simp only[zP,List.foldl_cons,List.foldl_nil,Act.put,sPa,sPb,sPc];refine sC (by simp[Region.wanted]) (.tmp 53) (.tmp 55) 22 rfl yJ 0 g5 1 rfl HM rfl rfl rfl rfl ?g13 ?g23 ?g33 H5 rfl ?_
  case g13=>show m.length+1<=maxLen;unfold maxLen;omega
  case g23=>show (m.length+1)*8<=140737488355328;omega
  case g33=>exact a8
  intro sa2 sc2 w6 H7 H8;refine hK.out _ _ ?_;refine⟨(.slice (some ⟨g5,0,none⟩) 1 1),(.slice sa2 (m.length+1) sc2),x65,x66,x67,x68,x69,x4,x5,(.slice sa2 (m.length+1) sc2),(m.length+1),(nats m++[Value.int .i64 (s:Int)]),vB,nB,xB,ls,?fa3,fun j hj=>zD (HR j hj),Kh (fun _=>⟨g5,rfl,H5⟩),Kh (fun h=>yF h),Kh (fun _=>⟨sa2,sc2,rfl,rfl,rfl,rfl⟩),(hs7P H4),(hs7P H1),(hs7P H0),(hs7P h9),(hs7N h4),(hs7A h8 h3),(hs7A h7 h3),(hs7Q h6),H7⟩
  case fa3=>rw[a9];simp only[zP,List.foldl_cons,List.foldl_nil,Act.put,sPa,sPb,sPc]
 case s4 =>
  exact fun l a w h h3=>absurd (pS h 4 (by simp)) (by rw[h3];simp)
 case s5 =>
  exact fun l a w h h3=>absurd (pS h 5 (by simp)) (by rw[h3];simp)
 case s6 =>
  exact fun l a w h h3=>absurd (pS h 6 (by simp)) (by rw[h3];simp)
 case s7 =>
  exact fun l a w h h3=>absurd (pS h 7 (by simp)) (by rw[h3];simp)
 case s8 =>
  exact fun l a w h h3=>absurd (pS h 8 (by simp)) (by rw[h3];simp)
 case s9 =>
  exact fun l a w h h3=>absurd (pS h 9 (by simp)) (by rw[h3];simp)
 case s10 =>
  exact fun l a w h h3=>absurd (pS h 10 (by simp)) (by rw[h3];simp)
 case s11 =>
  exact fun l a w h h3=>absurd (pS h 11 (by simp)) (by rw[h3];simp)
 case s12 =>
  intro l a w h h3 h0 K hK;obtain⟨x55,x56,x65,x66,x67,x68,x69,x4,x5,vA,nA,xA,vB,nB,xB,ls,ha,HR,H2,h5,H3,H4,H1,H0,h9,h4,h8,h7,h6,HM⟩:=h;subst ha;rw[a9];simp only[zP,List.foldl_cons,List.foldl_nil,Act.put,sPa,sPb,sPc];go_simp;refine hK.out _ _ ?_;refine⟨x55,x56,(.slice (some ⟨w.heap.size,0,none⟩) 1 1),x66,x67,x68,x69,x4,x5,vA,nA,xA,vB,nB,xB,((w.heap.size,Obj.cells #[Value.int .u8 (97+(a1:Int))] 5 (0,0))::ls),?fa12,fun j hj=>zD (HR j hj),Kh (fun h=>let ⟨g,h1,h2⟩:=H2.out (zE (by decide) h);⟨g,h1,List.Mem.tail _ h2⟩),(hs7N h5),(hs7P H3),Kh (fun _=>⟨w.heap.size,rfl,List.Mem.head _⟩),(hs7P H1),(hs7P H0),Kh (fun h=>let ⟨g,h1,h2⟩:=h9.out (zE (by decide) h);⟨g,h1,List.Mem.tail _ h2⟩),(hs7N h4),(hs7Q h8),(hs7Q h7),(hs7Q h6),HM.alloc (.cells #[Value.int .u8 (97+(a1:Int))] 5)⟩
  case fa12=>rw[a9];simp only[zP,List.foldl_cons,List.foldl_nil,Act.put,sPa,sPb,sPc]
 case s13 =>
  intro l a w h h3 h0 K hK;obtain⟨x55,x56,x65,x66,x67,x68,x69,x4,x5,vA,nA,xA,vB,nB,xB,ls,ha,HR,H2,h5,H3,H4,H1,H0,h9,h4,h8,h7,h6,HM⟩:=h;have DH12:=H4.out (zM (h0 ⟨12,.data⟩ (by simp) rfl));obtain⟨g5,rfl,H5⟩:=DH12;subst ha;rw[a9];simp only[zP,List.foldl_cons,List.foldl_nil,Act.put,sPa,sPb,sPc];have hq:=f2 w g5 (HM.litcell H5);go_simp;refine hK.out _ _ ?_;refine⟨x55,x56,(.slice (some ⟨g5,0,none⟩) 1 1),(.string X),x67,x68,x69,x4,x5,vA,nA,xA,vB,nB,xB,ls,?fa13,fun j hj=>zD (HR j hj),(hs7P H2),(hs7N h5),(hs7P H3),Kh (fun _=>⟨g5,rfl,H5⟩),Kh (fun _=>rfl),(hs7P H0),(hs7P h9),(hs7N h4),(hs7Q h8),(hs7Q h7),(hs7Q h6),HM⟩
  case fa13=>rw[a9];simp only[zP,List.foldl_cons,List.foldl_nil,Act.put,sPa,sPb,sPc]
 case s14 =>
  intro l a w h h3 h0 K hK;obtain⟨x55,x56,x65,x66,x67,x68,x69,x4,x5,vA,nA,xA,vB,nB,xB,ls,ha,HR,H2,h5,H3,H4,H1,H0,h9,h4,h8,h7,h6,HM⟩:=h;have DH13:=H1.out (zM (h0 ⟨13,.data⟩ (by simp) rfl));subst DH13;subst ha;rw[a9];simp only[zP,List.foldl_cons,List.foldl_nil,Act.put,sPa,sPb,sPc];go_simp;refine hK.out _ _ ?_;refine⟨x55,x56,x65,(.string X),(.string (u++X)),x68,x69,x4,x5,vA,nA,xA,vB,nB,xB,ls,?fa14,fun j hj=>zD (HR j hj),(hs7P H2),(hs7N h5),(hs7P H3),(hs7P H4),Kh (fun _=>rfl),Kh (fun _=>rfl),(hs7P h9),(hs7N h4),(hs7Q h8),(hs7Q h7),(hs7Q h6),HM⟩
  case fa14=>rw[a9];simp only[zP,List.foldl_cons,List.foldl_nil,Act.put,sPa,sPb,sPc]
 case s15 =>
  intro l a w h h3 h0 K hK;obtain⟨x55,x56,x65,x66,x67,x68,x69,x4,x5,vA,nA,xA,vB,nB,xB,ls,ha,HR,H2,h5,H3,H4,H1,H0,h9,h4,h8,h7,h6,HM⟩:=h;have DH14:=H0.out (zM (h0 ⟨14,.data⟩ (by simp) rfl));subst DH14;subst ha;rw[a9];simp only[zP,List.foldl_cons,List.foldl_nil,Act.put,sPa,sPb,sPc];go_simp;refine hK.out _ _ ?_;refine⟨x55,x56,x65,x66,(.string (u++X)),(.slice (some ⟨w.heap.size,0,none⟩) 1 1),x69,x4,x5,vA,nA,xA,vB,nB,xB,((w.heap.size,Obj.cells #[Value.string (u++X)] 9 (0,0))::ls),?fa15,fun j hj=>zD (HR j hj),Kh (fun h=>let ⟨g,h1,h2⟩:=H2.out (zE (by decide) h);⟨g,h1,List.Mem.tail _ h2⟩),(hs7N h5),(hs7P H3),Kh (fun h=>let ⟨g,h1,h2⟩:=H4.out (zE (by decide) h);⟨g,h1,List.Mem.tail _ h2⟩),(hs7P H1),Kh (fun _=>rfl),Kh (fun _=>⟨w.heap.size,rfl,List.Mem.head _⟩),(hs7N h4),(hs7Q h8),(hs7Q h7),(hs7Q h6),HM.alloc (.cells #[Value.string (u++X)] 9)⟩
  case fa15=>rw[a9];simp only[zP,List.foldl_cons,List.foldl_nil,Act.put,sPa,sPb,sPc]
 case s16 =>
  intro l a w h h3 h0 K hK;obtain⟨x55,x56,x65,x66,x67,x68,x69,x4,x5,vA,nA,xA,vB,nB,xB,ls,ha,HR,H2,h5,H3,H4,H1,H0,h9,h4,h8,h7,h6,HM⟩:=h;have DH15:=h9.out (zM (h0 ⟨15,.data⟩ (by simp) rfl));obtain⟨g5,rfl,H5⟩:=DH15;obtain⟨rfl,rfl,rfl⟩:=h4.out h3;have g0:=zM (h0 ⟨3,.chain⟩ (by simp) rfl);subst ha;rw[a9];simp only[zP,List.foldl_cons,List.foldl_nil,Act.put,sPa,sPb,sPc];refine sC (by simp[Region.wanted]) (.tmp 57) (.tmp 68) 42 rfl pD 1 g5 1 rfl HM rfl rfl rfl rfl ?g116 ?g216 ?g316 H5 rfl ?_
  case g116=>show m.length+1<=maxLen;unfold maxLen;omega
  case g216=>show (m.length+1)*16<=140737488355328;omega
  case g316=>exact a8
  intro sa2 sc2 w6 H7 H8;refine hK.out _ _ ?_;refine⟨x55,x56,x65,x66,x67,(.slice (some ⟨g5,0,none⟩) 1 1),(.slice sa2 (m.length+1) sc2),x4,x5,vA,nA,xA,(.slice sa2 (m.length+1) sc2),(m.length+1),(strV ws++[Value.string (u++X)]),ls,?fa16,fun j hj=>zD (HR j hj),(hs7P H2),(hs7N h5),(hs7P H3),(hs7P H4),(hs7P H1),(hs7P H0),Kh (fun _=>⟨g5,rfl,H5⟩),Kh (fun h=>yF h),Kh (fun _=>⟨zD g0,sa2,sc2,rfl,rfl,rfl,rfl⟩),(hs7Q h7),(hs7A h6 h3),H7⟩
  case fa16=>rw[a9];simp only[zP,List.foldl_cons,List.foldl_nil,Act.put,sPa,sPb,sPc]
 case s17 =>
  intro l a w h h3 h0 K hK;obtain⟨x55,x56,x65,x66,x67,x68,x69,x4,x5,vA,nA,xA,vB,nB,xB,ls,ha,HR,H2,h5,H3,H4,H1,H0,h9,h4,h8,h7,h6,HM⟩:=h;have DH3:=H3.out (zM (h0 ⟨3,.data⟩ (by simp) rfl));obtain⟨ra,rc,rfl,rfl,rfl,rfl⟩:=DH3;have H6:=zM (h0 ⟨3,.data⟩ (by simp) rfl);subst ha;rw[a9];simp only[zP,List.foldl_cons,List.foldl_nil,Act.put,sPa,sPb,sPc];go_simp;refine hK.out _ _ ?_;refine⟨x55,(.slice ra (m.length+1) rc),x65,x66,x67,x68,x69,(.slice ra (m.length+1) rc),x5,(.slice ra (m.length+1) rc),(m.length+1),(nats m++[Value.int .i64 (s:Int)]),vB,nB,xB,ls,?fa17,fun j hj=>zD (HR j hj),(hs7P H2),Kh (fun h=>absurd (zD H6) (by rw[h];simp)),Kh (fun _=>⟨ra,rc,rfl,rfl,rfl,rfl⟩),(hs7P H4),(hs7P H1),(hs7P H0),(hs7P h9),(hs7N h4),(hs7Q h8),Kh (fun _=>⟨zD H6,rfl⟩),(hs7Q h6),HM⟩
  case fa17=>rw[a9];simp only[zP,List.foldl_cons,List.foldl_nil,Act.put,sPa,sPb,sPc]
 intro l a w h h3 h0 K hK;obtain⟨x55,x56,x65,x66,x67,x68,x69,x4,x5,vA,nA,xA,vB,nB,xB,ls,ha,HR,H2,h5,H3,H4,H1,H0,h9,h4,h8,h7,h6,HM⟩:=h;have DH16:=h8.out (zM (h0 ⟨16,.data⟩ (by simp) rfl));obtain⟨H9,ra,rc,rfl,rfl,rfl,rfl⟩:=DH16;have H6:=zM (h0 ⟨16,.data⟩ (by simp) rfl);subst ha;rw[a9];simp only[zP,List.foldl_cons,List.foldl_nil,Act.put,sPa,sPb,sPc];go_simp;refine hK.out _ _ ?_;refine⟨x55,x56,x65,x66,x67,x68,(.slice ra (m.length+1) rc),x4,(.slice ra (m.length+1) rc),vA,nA,xA,(.slice ra (m.length+1) rc),(m.length+1),(strV ws++[Value.string (u++X)]),ls,?fa18,fun j hj=>zD (HR j hj),(hs7P H2),(hs7N h5),(hs7P H3),(hs7P H4),(hs7P H1),(hs7P H0),(hs7P h9),Kh (fun h=>absurd (zD H6) (by rw[h];simp)),Kh (fun _=>⟨zD H9,ra,rc,rfl,rfl,rfl,rfl⟩),(hs7Q h7),Kh (fun _=>⟨zD H6,rfl⟩),HM⟩
 case fa18=>rw[a9];simp only[zP,List.foldl_cons,List.foldl_nil,Act.put,sPa,sPb,sPc]
theorem qHJ (B:Nat)(w:World)(v:Value)(d:DfaV)(n k:Nat)(hB:B<=w.heap.size)(h:tO B w v d)(hd:VD d n k):Calls Try.prog 81 #[v] w (qTI w (yH d k)):=by
 obtain⟨fb,fo,fc,b,off,cap,RB,RO,RC,rfl,b6⟩:=h.at hd;have hn:=hd.hn;have n3:=hd.n1;have g2:=hd.nbig;have n7:=hd.k6;have n8:=hd.k1;have o3:=b6.fcap.1;have c9:=b6.fcap.2;have o4:=b6.cap.1;have d4:=b6.cap.2;have k4:fc<=9223372036854775807:=by unfold maxLen at c9;omega
 have k3:cap<=9223372036854775807:=by unfold maxLen at d4;omega
 obtain⟨S,hS⟩:=Nm (st0 d);have i0:S<n:=by rw[hS];exact mJ hd
 have i3:=Kh hS;rw[<-hS];obtain⟨wA,d5⟩:=Nm (w.alloc (.cells #[.int .i64 (k:Int),.int .i64 (S:Int),.slice (some ⟨fb,fo,none⟩) n fc,.slice (some ⟨b,off,none⟩) n cap] 37));have a1:wA.heap[w.heap.size]?=some (.cells #[.int .i64 (k:Int),.int .i64 (S:Int),.slice (some ⟨fb,fo,none⟩) n fc,.slice (some ⟨b,off,none⟩) n cap] 37 (0,0)):=by rw[d5];exact heap_alloc_new w _
 have e8:w.grownBy wA none:=by rw[d5];exact Ga w _ none
 have b5:wA.heap.size=w.heap.size+1:=by rw[d5,zU]
 obtain⟨c0,c1,c2,c3⟩:=zL a1;obtain⟨P,hP⟩:=Nm w.heap.size;have i4:=Kh hP;rw[<-hP]at a1 c0 c1 c2 c3 b5 hB;obtain⟨e5,l7,l3⟩:=K3 a1 e8 d5;have m0:=Kh (b6.kept e8 (by simp));have HN:=Kh hn;have HD:=Kh hd;unfold dAgg;clear a1 e8 d5 b6 hn hd h c9 d4 hS;go_enter Try.func81,Try.ntmps81;go_upto_region 1 with fail;rw[<-l3.out,<-i4.out];clear hP;obtain⟨wB,b7⟩:=Nm ((wA.alloc (.cells #[.int .i64 (S:Int)] 3)).alloc (.cells #[.string ⟨#[]⟩] 9))
 have a7:wB.ownsRow (P+1) 3 1 (.slice (some ⟨P+1,0,none⟩) 1 1) 1 (nats [S]):=by
  rw[b7];have:=wS (World.ownsRow_lit wA #[.int .i64 (S:Int)] 1 (e:=3) (size:=1) (Nat.le_refl _) (by unfold maxLen;omega) (by simp)) (Nat.le_of_eq b5.symm);rw[b5]at this;exact this.alloc _
 have a6:wB.ownsRow (P+1) 9 1 (.slice (some ⟨P+1+1,0,none⟩) 1 1) 1 (strV [⟨#[]⟩]):=by
  rw[b7];have:=wS (World.ownsRow_lit (wA.alloc (.cells #[.int .i64 (S:Int)] 3)) #[.string ⟨#[]⟩] 1 (e:=9) (size:=1) (Nat.le_refl _) (by unfold maxLen;omega) (by simp)) (base':=P+1) (by rw[zU,b5];omega);rw[zU,b5]at this;exact this
 have g3:wA.grownBy wB none:=by rw[b7];exact nM (Ga wA _ none) _
 obtain⟨l2,i6,i5,f8⟩:=K4 b7 a7 a6 g3;have j5:wB.heap.size=P+1+1+1:=by rw[b7,zU,zU,b5]
 clear b7 a7 a6 g3;go_upto_region 2 with fail;rw[<-l2.out];obtain⟨d0,d1,d2,d3⟩:=zL (zB e5.out f8.out);go_upto_region 3 with (first|(at_make;refine qC rfl _ _ _ rfl wF rfl .i64 .i64 _ _ n rfl rfl rfl rfl ?b1 ?b2 ?_;(case b1=>omega);(case b2=>(unfold maxLen;omega));intro w2 h0 e2 e7)|fail);clear d0 d1 d2 d3;obtain⟨d0,d1,d2,d3⟩:=zL (zB e5.out (zH f8.out e2));obtain⟨G,hG⟩:=Nm (P+1+1+1);have i1:wB.heap.size=G:=by omega
 rw[i1]at h0;rw[<-hG];have o8:P+2<G:=by omega
 clear hG j5 e7;rw[<-qM,<-aK]at h0;have fS:=h0.frozen S;have cS:=h0.bool S (by rw[xQ];exact i0);have e9:=h0.bool_set S (by rw[xQ];exact i0) true;rw[jG,List.nil_append]at e9;have e1:wB.grownBy (w2.setCell ⟨G,S,none⟩ (.bool true)) none:=zC e2 (zF w2 ⟨G,S,none⟩ _) (fun q e=>by have h7:G=q:=Oj e;have:=e2.size;omega);have k2:G≠P+1:=by omega
 have k0:G≠P+1+1:=by omega
 have d6:AccI d n k 0 [S]:=by have:=AccI.start HD.out;rw[<-i3.out]at this;exact this
 have c7:qG d k (n-0) 0 [S]=yH d k:=by rw[yH,HN.out,<-i3.out];rfl
 obtain⟨h6,d8,j1⟩:=K3 d6 c7 e9;have i9:=Kh (zH f8.out e1);have i7:=Kh (wR i6.out e1 (by simp));have i2:=Kh (wR i5.out e1 (by simp));have H1:Hid (eR [⟨#[]⟩]):=Kh (fun j hj=>by simp at hj;subst hj;simp[List.getD];rfl);clear h0 e2 e9 e1 d6 c7 i1;have k9:(S:Int)<n:=by omega
 go_wp2;clear d0 d1 d2 d3 fS cS c0 c1 c2 c3
 go_loopg [4,5,7] n (fun gh v4 v5 i wr=>∃(i':Nat) (l:List Nat) (ws:List ByteArray) (sa sb:Nat) (sc sd:Nat),gh+i'=n/\i=.int .i64 i'/\v4=.slice (some ⟨sa,0,none⟩) l.length sc/\v5=.slice (some ⟨sb,0,none⟩) l.length sd /\
  wr.ownsRow (P+1) 3 1 (.slice (some ⟨sa,0,none⟩) l.length sc) l.length (nats l)/\wr.ownsRow (P+1) 9 1 (.slice (some ⟨sb,0,none⟩) l.length sd) l.length (strV ws)/\Arr wr G 4 (bls (metL n l))/\AccI d n k i' l/\qG d k (n-i') i' l=yH d k/\i'<=l.length/\eR ws/\wA.grownBy wr none)
 case atStart=>exact⟨0,[S],[⟨#[]⟩],P+1,P+1+1,1,1,rfl,rfl,rfl,rfl,i7.out,i2.out,j1.out,h6.out,d8.out,by simp,H1.out,i9.out⟩
 clear i7 i2 j1 h6 d8 H1 i9 i6 i5;obtain⟨i',l,ws,sa,sb,sc,sd,hg,rfl,rfl,rfl,h2,h3,h0,a4,c7,o0,H9,H6⟩:=hrel;have n6:=qK a4.nd a4.lt;obtain⟨HG,HO,HW,HA,h6,d8⟩:=K6 hg h2 h3 h0 a4 c7;have H1:=Kh H9;have H8:=Kh H6;clear hg h2 h3 h0 a4 c7 H9 H6;by_cases hi:i'<l.length
 ·have o1:(i':Int)<l.length:=by omega
  have n9:i'<n:=(by omega);have a9:l.getD i' 0<n:=h6.out.lt _ (by rw[zN hi];exact List.getElem_mem _);obtain⟨q0,a8⟩:=Nm (l.getD i' 0);rw[<-a8]at a9;have f1:=Kh a8;clear a8;go_wp2
  go_loopg [4,5,8] k (fun gh v4 v5 i wr=>∃(a:Nat) (m:List Nat) (ws:List ByteArray) (sa sb:Nat) (sc sd:Nat),gh+a=k/\i=.int .i64 a/\m=vN d l i' a/\v4=.slice (some ⟨sa,0,none⟩) m.length sc/\v5=.slice (some ⟨sb,0,none⟩) m.length sd /\
   wr.ownsRow (P+1) 3 1 (.slice (some ⟨sa,0,none⟩) m.length sc) m.length (nats m)/\wr.ownsRow (P+1) 9 1 (.slice (some ⟨sb,0,none⟩) m.length sd) m.length (strV ws)/\Arr wr G 4 (bls (metL n m))/\eR ws/\wA.grownBy wr none)
  case atStart=>exact⟨0,l,ws,sa,sb,sc,sd,rfl,rfl,rfl,rfl,rfl,HO.out,HW.out,HA.out,H1.out,H8.out⟩
  clear HO HW HA H1 H8;obtain⟨a,m,ws,sa,sb,sc,sd,hg,rfl,hm,rfl,rfl,h2,h3,h0,H9,H6⟩:=hrel;have b4:=Kh hg;have HM:=Kh hm;have H0:=tM d l i' a;rw[<-hm]at H0;have n5:=H0.length_le;clear hg hm;by_cases ha:a<k
  ·have o6:(a:Int)<k:=by omega
   have b0:m.Nodup:=by rw[HM.out];exact lE h6.out.nd i' a
   have b3:∀q∈m,q<n:=by
    intro q hq;rw[HM.out]at hq;rcases sK.1 hq with hq|⟨b,hb,rfl⟩
    ·exact h6.out.lt q hq
    rw[<-f1.out];exact qV HD.out a9 (by omega)
   have n4:=qK b0 b3;have H7:=m0.out.kept H6 (by simp);obtain⟨d0,d1,d2,d3⟩:=zL (zB e5.out H6);have cq:=(Arr.of_owns h2).nat i' (by omega);rw[qY H0 hi,<-f1.out]at cq;have ch:=H7.hd q0 a9;have ce:=H7.el q0 a a9 ha;have n2:=(H7.rcap q0 a9).1;have b9:=(H7.rcap q0 a9).2;have hs:=qV HD.out a9 ha;obtain⟨s,e6⟩:=Nm (nx d q0 a);rw[<-e6]at ce hs;have n0:(s:Int)<n:=(by omega);have j9:(q0:Int)<n:=(by omega);have j7:RC q0<=9223372036854775807:=by unfold maxLen at b9;omega
   have cm:=h0.bool s (by rw[xQ];exact hs);rw[lS hs]at cm;have d7:Hid (vN d l i' (a+1)=wK m s):=Kh (by rw[vN,<-f1.out,<-e6,<-HM.out]);clear e6 b9 H7;by_cases hin2:s∈m
   ·rw[decide_eq_true hin2]at cm
    have f4:Hid (m=vN d l i' (a+1)):=Kh (by rw[d7.out,uZ hin2]);obtain⟨HO,HW,HA,H1,H8⟩:=K5 h2 h3 h0 H9 H6;clear hin2 h2 h3 h0 H9 H6 b0 b3 H0;go_wp2
    go_quiet (fail)
    go_wp2;go_roundg (k-(a+1))
    case measure=>have:=b4.out;omega
    have o2:=zS wr 1 none;exact⟨a+1,m,ws,sa,sb,sc,sd,by omega,by go_num,f4.out,rfl,rfl,wR HO.out (zS wr _ none) (by simp),wR HW.out (zS wr _ none) (by simp),HA.out.kept (zS wr _ none) (by simp),H1.out,zH H8.out (zS wr _ _)⟩
   rw[decide_eq_false hin2]at cm;have f4:Hid (m++[s]=vN d l i' (a+1)):=Kh (by rw[d7.out,vK hin2]);obtain⟨o9,H1,H8⟩:=K3 hin2 H9 H6;have fm:wr.frozen? ⟨G,s,none⟩=false:=h0.frozen s;obtain⟨H5,H4,h8⟩:=K3 h2 h3 h0;clear hin2 h2 h3 h0 H9 H6 b0 b3 H0;go_upto_region 10 with fail
   go_quiet (fail)
   go_upto_region 13 with fail;obtain⟨w5,e0⟩:=Nm (((wr.drewN nq).setCell ⟨G,s,none⟩ (.bool true)).drew);have l5:=Kh e0;have c8:wr.grownBy w5 (some G):=by rw[e0];exact vJ (zF wr ⟨G,s,none⟩ (.bool true)) rfl rfl rfl rfl
   have e3:Arr w5 G 4 (bls (metL n (m++[s]))):=by
    have h1:=h8.out.bool_set s (by rw[xQ];exact hs) true;rw[jG]at h1;rw[e0];exact h1.of_heap rfl
   have c4:w5.ownsRow (P+1) 3 1 (.slice (some ⟨sa,0,none⟩) m.length sc) m.length (nats m):=H5.out.kept c8 (.inr (by obtain⟨cur,rest,hq,_⟩:=h8.out;exact zV H5.out hq (by decide)));have h9:w5.ownsRow (P+1) 9 1 (.slice (some ⟨sb,0,none⟩) m.length sd) m.length (strV ws):=H4.out.kept c8 (.inr (by obtain⟨cur,rest,hq,_⟩:=h8.out;exact zV H4.out hq (by decide)))
   have c5:∀q,(Value.slice (some ⟨sa,0,none⟩) m.length sc).ownBlock=some q->(Value.slice (some ⟨sb,0,none⟩) m.length sd).ownBlock≠some q:=by
    intro q hq e;have:q=sb:=by simpa [Value.ownBlock] using e.symm
    subst this;obtain⟨cur,rest,j8,_⟩:=Arr.of_owns h9;exact zV c4 j8 (by decide) hq
   have g1:ws.length=m.length:=by have:=h9.1;simpa [strV] using this
   obtain⟨u,hu⟩:=Nm (ws.getD i' ⟨#[]⟩);have m9:u.size<=i':=by rw[hu];exact H1.out i' (by omega)
   obtain⟨F,hF⟩:∃F:Nat->Prop,F=fun q=>(Value.slice (some ⟨sa,0,none⟩) m.length sc).ownBlock=some q\/(Value.slice (some ⟨sb,0,none⟩) m.length sd).ownBlock=some q:=⟨_,rfl⟩;have j0:=Kh hF
   have hM:Many w5 F w5 [⟨P+1,3,.slice (some ⟨sa,0,none⟩) m.length sc,m.length,nats m,1⟩,⟨P+1,9,.slice (some ⟨sb,0,none⟩) m.length sd,m.length,strV ws,1⟩] [] [(sb,9,strV ws)]:=by
    rw[hF];exact((Many.two (r:=⟨P+1,3,.slice (some ⟨sa,0,none⟩) m.length sc,m.length,nats m,1⟩) (s:=⟨P+1,9,.slice (some ⟨sb,0,none⟩) m.length sd,m.length,strV ws,1⟩) c4 h9 c5).see (j:=1) rfl rfl rfl)
   have a5:Hid (∀W rs ls,Many w5 F W rs ls [(sb,9,strV ws)]->W.cell? ⟨sb,i',none⟩=some (.string u)):=Kh (fun W rs ls h=>by
    have:=h.precell (List.Mem.head _) i' (by simp[strV];omega);rw[this,hu,zN (by omega)]
    simp[strV])
   have j6:P+1<=w5.heap.size:=by have:=c8.size;have:=H8.out.size;omega
   obtain⟨l9,m2,l0⟩:=K3 c8 e3 g1;have k8:IntKind.i64.wrap (97+(a:Int))=97+(a:Int):=IntWalk.i64_in _ (by omega);have o5:IntKind.u8.wrap (97+(a:Int))=97+(a:Int):=IntWalk.u8_in _ (by omega);obtain⟨X,hX⟩:=Nm (strOfNums [97+(a:Int)]);have o7:X.size=1:=by rw[hX];rfl
   have g5:∀(W:World) (g:Nat),W.cell? ⟨g,0,none⟩=some (.int .u8 (97+(a:Int)))->(convert 30 9 (.slice (some ⟨g,0,none⟩) 1 1)).run Try.prog W=.ok (.string X) W:=fun W g h=>by rw[hX];exact fQ 30 5 Try.underlying30 Try.underlying5 9 Try.underlying9 h
   have g6:∀W:World,(Op.stringOp .add u X).run Try.prog W=.ok (.string (u++X)) W:=fun W=>run_string_add_sum W u X (by omega);have f3:Hid ((Value.slice (some ⟨sa,0,none⟩) m.length sc).ownBlock≠some G):=Kh (by obtain⟨cur,rest,hq,_⟩:=e3;exact zV c4 hq (by decide));have f2:Hid ((Value.slice (some ⟨sb,0,none⟩) m.length sd).ownBlock≠some G):=Kh (by obtain⟨cur,rest,hq,_⟩:=e3;exact zV h9 hq (by decide));have f6:Hid (∀q,(Value.slice (some ⟨sa,0,none⟩) m.length sc).ownBlock=some q->P+1<=q):=Kh (fun q hq=>(c4.lt q hq).1);have f5:Hid (∀q,(Value.slice (some ⟨sb,0,none⟩) m.length sd).ownBlock=some q->P+1<=q):=Kh (fun q hq=>(h9.lt q hq).1);clear hX;clear hF hu e0 c8 e3 c5 c4 h9 g1 cq ch ce cm fm d0 d1 d2 d3 H5 H4 h8;have k7:i'<m.length:=(by omega);have k5:(i':Int)<m.length:=(by omega);have p0:Hid (∀W rs ls,Many w5 F W rs ls [(sb,9,strV ws)]->W.cell? ⟨sb,i',none⟩=some (.string u)/\W.cell? ⟨sb,i',none⟩=some (.string u)):=Kh (fun W rs ls h=>⟨a5.out W rs ls h,a5.out W rs ls h⟩);refine wp_region_noPanic ?_;refine yQ (G:=wH 99 (fun W=>W.cell? ⟨sb,i',none⟩=some (.string u)) (fun W=>W.cell? ⟨sb,i',none⟩=some (.string u))) (by kernel_rfl) ?_;rw[<-l5.out];have C:Hid (w5.cell? ⟨sb,i',none⟩=some (.string u)):=Kh (a5.out _ _ _ hM);refine zO 0 ⟨C.out,fun _=>C.out⟩ ?_;refine zO 1 ⟨C.out,fun _=>C.out⟩ ?_;refine zO 4 ⟨C.out,fun _=>C.out⟩ ?_;refine zO 5 ⟨C.out,fun _=>C.out⟩ ?_;refine zO 6 ⟨C.out,fun _=>C.out⟩ ?_;refine zO 7 ⟨C.out,fun _=>C.out⟩ ?_;refine zO 8 ⟨C.out,fun _=>C.out⟩ ?_;refine zO 9 ⟨C.out,fun _=>C.out⟩ ?_;refine zO 10 ⟨C.out,fun _=>C.out⟩ ?_;refine zO 11 ⟨C.out,fun _=>C.out⟩ ?_;refine uQ (fun Wp hWp a0 ha0=>?_);subst hWp
   try simp only[Act.put,sPd,sPe,sPf,sPa,sPb,sPc]at ha0
   have m3:=Kh ha0;refine uP (I:=acc13I (P+1) sa sb sc sd s a i' m ws u X F w5 a0) (fun l a w h=>qQX a5.out h) (qEH ha0 (by omega) j6 g5 g6) (by kernel_rfl) ?hend (by decide +kernel) ?hinit
   case hinit =>
    clear ha0;refine⟨a0.tmps.getD 55 undef,a0.tmps.getD 56 undef,a0.tmps.getD 65 undef,a0.tmps.getD 66 undef,a0.tmps.getD 67 undef,a0.tmps.getD 68 undef,a0.tmps.getD 69 undef,a0.tmps.getD 4 undef,a0.tmps.getD 5 undef,.slice (some ⟨sa,0,none⟩) m.length sc,m.length,nats m,.slice (some ⟨sb,0,none⟩) m.length sd,m.length,strV ws,[],(vQ (by simp)).symm,by decide +kernel,Kh (fun h=>absurd h (by decide +kernel)),Kh (fun _=>⟨rfl,rfl,rfl⟩),Kh (fun h=>absurd h (by decide +kernel)),Kh (fun h=>absurd h (by decide +kernel)),Kh (fun h=>absurd h (by decide +kernel)),Kh (fun h=>absurd h (by decide +kernel)),Kh (fun h=>absurd h (by decide +kernel)),Kh (fun _=>⟨rfl,rfl,rfl⟩),Kh (fun h=>absurd h (by decide +kernel)),Kh (fun h=>absurd h (by decide +kernel)),Kh (fun h=>absurd h (by decide +kernel)),hM⟩
   clear ha0;intro l1 a2 w6 h a3;obtain⟨x55,x56,x65,x66,x67,x68,x69,x4,x5,vA,nA,xA,vB,nB,xB,ls,ha,HR,H2,m4,H3,m8,m7,m6,m5,g0,j4,j3,j2,HM⟩:=h;obtain⟨r3,c3,rfl,rfl,rfl,rfl⟩:=H3.out (a3 3 (by decide));obtain⟨_,r16,c16,rfl,rfl,rfl,rfl⟩:=j4.out (a3 16 (by decide));obtain⟨_,rfl⟩:=j3.out (a3 17 (by decide));obtain⟨_,rfl⟩:=j2.out (a3 18 (by decide));clear H2 m4 H3 m8 m7 m6 m5 g0 j4 j3 j2 HR;subst ha;rw[m3.out];simp only[zP,List.foldl_cons,List.foldl_nil,Act.put,sPa,sPb,sPc];refine NoPanic.normal ?_
   have g7:∀q,F q->q≠G:=fun q hq=>by
    rw[j0.out]at hq;have h1:=HM.own;rintro rfl;rcases hq with hq|hq
    ·exact f3.out hq
    exact f2.out hq
   have h5:=HM.own 0 _ rfl;have h4:=HM.own 1 _ rfl
   have g4:wA.grownBy w6 none:=GrownBut.grown HM.but (zC H8.out l9.out (fun q e=>by have h7:G=q:=Oj e;omega)) (fun q hq=>by
    rw[j0.out]at hq;rcases hq with hq|hq
    ·exact .inr (by have:=f6.out q hq;omega)
    exact .inr (by have:=f5.out q hq;omega))
   have g9:Arr w6 G 4 (bls (metL n (m++[s]))):=by
    obtain⟨cur,rest,hq,hc⟩:=m2.out;exact⟨cur,rest,HM.but.heap hq (fun hf=>g7 G hf rfl),hc⟩
   have b8:eR (ws++[u++X]):=H1.out.snoc (by rw[ByteArray.size_append];have:=l0.out;omega);simp only[]at h5 h4;rw[<-qB]at h5;rw[<-qHX]at h4;have c6:(m++[s]).length=m.length+1:=by simp
   obtain⟨ka,rfl,_,_,_⟩:=xD h5 (by omega);obtain⟨kb,rfl,_,_,_⟩:=xD h4 (by omega);obtain⟨l6,l4,l8,m1,f0,e4⟩:=K6 h5 h4 g4 g9 b8 c6;clear HM h5 h4 g4 g9 b8 g7 c6 g5 g6;go_wp2;go_roundg (k-(a+1))
   case measure=>have:=b4.out;omega
   exact⟨a+1,m++[s],ws++[u++X],ka,kb,_,_,by omega,by go_num,f4.out,by rw[e4.out],by rw[e4.out],by rw[e4.out];exact l6.out,by rw[e4.out];exact l4.out,m1.out,f0.out,l8.out⟩
  have g8:a=k:=by have:=b4.out;omega
  have i8:Hid (m=vN d l i' k):=Kh (by rw[HM.out,g8]);have d9:=Kh (h6.out.row HD.out hi)
  have f7:Hid (qG d k (n-(i'+1)) (i'+1) (vN d l i' k)=yH d k):=Kh (by
   have h1:=d8.out;rw[show n-i'=(n-(i'+1))+1 by omega,qG,if_pos hi]at h1
   exact h1)
  obtain⟨HO,HW,HA,H1,H8⟩:=K5 h2 h3 h0 H9 H6;clear g8 h2 h3 h0 H9 H6 H0;obtain⟨d0,d1,d2,d3⟩:=zL (zB e5.out H8.out);go_wp2;go_roundg (n-(i'+1))
  case measure=>have:=HG.out;omega
  exact⟨i'+1,m,ws,sa,sb,sc,sd,by omega,by go_num,rfl,rfl,HO.out,HW.out,HA.out,by rw[i8.out];exact d9.out,by rw[i8.out];exact f7.out,by omega,H1.out,H8.out⟩
 have f9:Hid (yH d k=l):=Kh (by rw[<-d8.out,eQ hi]);go_wp2;refine bodyPost_ret (v:=.tuple #[.slice (some ⟨sa,0,none⟩) l.length sc,.slice (some ⟨sb,0,none⟩) l.length sd]) (by simp[results,Try.results81,go_sem]) rfl ?_;rw[f9.out];exact⟨_,_,_,rfl,wS HO.out (by have:=i4.out;omega),zH l7.out H8.out⟩
theorem RowT.shape {B:Nat}{e:TypeId}{w:World}{v:Value}{xs:List Value}(h:RowT B e w v xs):∃a cap,v=.slice a xs.length cap:=by
 rcases h with ⟨rfl,rfl⟩|⟨b,off,cap,cur,m,rfl,_⟩
 ·exact⟨none,0,rfl⟩
 exact⟨_,_,rfl⟩
theorem Mat.of_rows {w:World}{base e n:Nat}{v:Value}{hs:List Value}{t:List (List Int)}{B:Nat}(h:w.ownsRow base e 1 v n hs)(hr:tN B 3 ints w hs t)(hB:B<=w.heap.size):Mat w.heap.size w v t:=by
 have hl:hs.length=n:=by have:=h.1;omega
 have h3:=hr.1;rcases h.2 with ⟨rfl,rfl⟩|⟨g,cap,cur,rfl,hb,hg,hnc,hcm,hcs,htake⟩
 ·have:hs=[]:=List.eq_nil_of_length_eq_zero hl
  subst this;exact .inl ⟨_,_,rfl,List.eq_nil_of_length_eq_zero (by simpa using h3.symm)⟩
 have h0:∀x,∃a c,x<t.length->hs.getD x (.int .i64 0)=.slice a (t.getD x []).length c:=by
  intro x;by_cases hx:x<t.length
  ·have h1:=hr.2 x (by omega) hx
   obtain⟨a,c,e⟩:=h1.shape;refine⟨a,c,fun _=>?_⟩;rw[zN (by omega),e,zK,zN hx]
  exact⟨none,0,fun h=>absurd h hx⟩
 obtain⟨A,hA⟩:=Classical.axiomOfChoice h0;obtain⟨C,hC⟩:=Classical.axiomOfChoice hA;refine .inr ⟨g,0,cap,A,C,?_,by omega,hcm,zQ hg,zQ hg,fun x hx=>?_,fun x hx=>?_⟩
 ·rw[show n=t.length by omega]
 ·rw[Nat.zero_add,h.cellAt x (by omega),List.getElem?_eq_getElem (by omega),<-hC x hx,zN (show x<hs.length by omega)]
 have h1:=hr.2 x (by omega) hx;have h2:=hC x hx;rw[zN (show x<hs.length by omega)]at h2;rw[<-h2,zN hx];exact h1.row.mono hB
theorem RowT.keptF {B:Nat}{e:TypeId}{w w':World}{v:Value}{xs:List Value}{F:Nat->Prop}(h:RowT B e w v xs)(hg:GrownBut w w' F)(hr:∀k,F k->B<=k\/yZ w e k):RowT B e w' v xs:=by
 rcases h with h|⟨b,off,cap,cur,m,h1,h2,h3,h4,h5,h6⟩
 ·exact .inl h
 refine .inr ⟨b,off,cap,cur,m,h1,h2,h3,h4,hg.heap h5 (fun hf=>?_),h6⟩;rcases hr b hf with hk|⟨cur',e',m',hk,hne⟩
 ·omega
 rw[h5]at hk;simp at hk;exact hne hk.2.1.symm
theorem tN.keptF {α:Type}{B:Nat}{e:TypeId}{f:α->List Value}{w w':World}{a9:List Value}{ps:List α}{F:Nat->Prop}(h:tN B e f w a9 ps)(hg:GrownBut w w' F)(hr:∀k,F k->B<=k\/yZ w e k):tN B e f w' a9 ps :=
 ⟨h.1,fun i h1 h2=>(h.2 i h1 h2).keptF hg hr⟩
theorem uB {w:World}{p e:Nat}{x0 x1 x2 x3:Value}(h:w.heap[p]?=some (.cells #[x0,x1,x2,x3] e (0,0)))(y0 y1 y2 y3:Value):((((w.setCell ⟨p,0,none⟩ y0).setCell ⟨p,1,none⟩ y1).setCell ⟨p,2,none⟩ y2).setCell ⟨p,3,none⟩ y3).heap[p]?=some (.cells #[y0,y1,y2,y3] e (0,0))/\w.grownBy ((((w.setCell ⟨p,0,none⟩ y0).setCell ⟨p,1,none⟩ y1).setCell ⟨p,2,none⟩ y2).setCell ⟨p,3,none⟩ y3) (some p):=by
 have s0:=heap_setCell_same w p 0 _ _ y0 h;have s1:=heap_setCell_same _ p 1 _ _ y1 s0;have s2:=heap_setCell_same _ p 2 _ _ y2 s1;have s3:=heap_setCell_same _ p 3 _ _ y3 s2;refine⟨by rw[s3];simp,?_⟩;exact zH (zH (zH (zF w ⟨p,0,none⟩ y0) (zF (w.setCell ⟨p,0,none⟩ y0) ⟨p,1,none⟩ y1)) (zF ((w.setCell ⟨p,0,none⟩ y0).setCell ⟨p,1,none⟩ y1) ⟨p,2,none⟩ y2)) (zF (((w.setCell ⟨p,0,none⟩ y0).setCell ⟨p,1,none⟩ y1).setCell ⟨p,2,none⟩ y2) ⟨p,3,none⟩ y3)
structure Built (base:Nat)(W:World)(o:Nat)(L S:Int)(fs:List Bool)(t:List (List Int))(hs:List Value)(sf:Option Addr)(cf:Nat)(sn:Option Addr)(cn:Nat):Prop where
 box:W.heap[o]?=some (.cells #[.int .i64 L,.int .i64 S,.slice sf fs.length cf,.slice sn t.length cn] 37 (0,0))
 ownF:W.ownsRow base 4 1 (.slice sf fs.length cf) fs.length (bls fs)
 ownN:W.ownsRow base 22 1 (.slice sn t.length cn) t.length hs
 rows:tN W.heap.size 3 ints W hs t
 len:fs.length=t.length
section
variable {base o:Nat} {W W':World} {L S:Int} {fs:List Bool} {t:List (List Int)} {hs:List Value} {sf sn:Option Addr} {cf cn:Nat}
theorem Built.grow (h:Built base W o L S fs t hs sf cf sn cn)(hg:W.grownBy W' none):Built base W' o L S fs t hs sf cf sn cn where
 box:=zB h.box hg
 ownF:=wR h.ownF hg (by simp)
 ownN:=wR h.ownN hg (by simp)
 rows:=(h.rows.kept hg (by simp)).mono hg.size
 len:=h.len
theorem Built.dfa (h:Built base W o L S fs t hs sf cf sn cn):tO W.heap.size W (.agg #[.int .i64 L,.int .i64 S,.slice sf fs.length cf,.slice sn t.length cn]) ⟨L,S,fs,t⟩ :=
 ⟨_,_,rfl,Row.of_owns h.ownF,Mat.of_rows h.ownN h.rows (Nat.le_refl _)⟩
theorem Built.far {r:Nat}{cs:Array Value}{m:Nat×Nat}(h:Built base W o L S fs t hs sf cf sn cn)(hg:W.grownBy W' (some r))(hr:W.heap[r]?=some (.cells cs 37 m))(a9:r≠o):Built base W' o L S fs t hs sf cf sn cn where
 box:=zB h.box hg (fun e=>a9 (Oj e))
 ownF:=h.ownF.kept hg (.inr (zV h.ownF hr (by decide)))
 ownN:=h.ownN.kept hg (.inr (zV h.ownN hr (by decide)))
 rows:=(h.rows.kept hg (fun k hk=>.inr (by have:=Oj hk;subst this;exact⟨_,_,_,hr,by decide⟩))).mono hg.size
 len:=h.len
theorem Built.congr {a9:List Bool}{t':List (List Int)}(h:Built base W o L S fs t hs sf cf sn cn)(e1:a9=fs)(e2:t'=t):Built base W o L S a9 t' hs sf cf sn cn:=by rw[e1,e2];exact h
def rN (base:Nat)(n:Nat)(hs:List Value)(sn:Option Addr)(cn:Nat):RowS:=⟨base,22,.slice sn n cn,n,hs,1⟩
def rF (base:Nat)(fs:List Bool)(sf:Option Addr)(cf:Nat):RowS:=⟨base,4,.slice sf fs.length cf,fs.length,bls fs,1⟩
theorem Built.apart (h:Built base W o L S fs t hs sf cf sn cn):∀k,(Value.slice sn t.length cn).ownBlock=some k->(Value.slice sf fs.length cf).ownBlock≠some k:=by
 intro k hk e;rcases h.ownF.2 with ⟨hv,_⟩|⟨g,cap,cur,hv,_,hg,_⟩
 ·rw[hv]at e;simp[Value.ownBlock]at e
 rw[hv]at e;have:g=k:=by simpa [Value.ownBlock] using e
 subst this;exact zV h.ownN hg (by decide) hk
def FB (sf:Option Addr)(sn:Option Addr)(k:Nat):Prop:=(Value.slice sn 0 0).ownBlock=some k\/(Value.slice sf 0 0).ownBlock=some k
theorem yG (s:Option Addr)(n c:Nat):(Value.slice s n c).ownBlock=(Value.slice s 0 0).ownBlock:=by cases s<;>rfl
theorem Built.many (h:Built base W o L S fs t hs sf cf sn cn):Many W (FB sf sn) W [rN base t.length hs sn cn,rF base fs sf cf] [] []:=by
 have:=Many.two (w:=W) (r:=rN base t.length hs sn cn) (s:=rF base fs sf cf) h.ownN h.ownF h.apart
 have e:(fun k=>(rN base t.length hs sn cn).v.ownBlock=some k\/(rF base fs sf cf).v.ownBlock=some k)=FB sf sn:=by
  funext k;simp only[rN,rF,FB,yG sn t.length,yG sf fs.length]
 rwa [e]at this
theorem Built.other (h:Built base W o L S fs t hs sf cf sn cn):∀k,FB sf sn k->yZ W 3 k:=by
 intro k hk;rcases hk with hk|hk
 ·rw[<-yG sn t.length cn]at hk;exact vO h.ownN (by decide) k hk
 rw[<-yG sf fs.length cf]at hk;exact vO h.ownF (by decide) k hk
theorem Built.notbox (h:Built base W o L S fs t hs sf cf sn cn):¬FB sf sn o:=by
 rintro (hk|hk)
 ·rw[<-yG sn t.length cn]at hk;exact zV h.ownN h.box (by decide) hk
 rw[<-yG sf fs.length cf]at hk;exact zV h.ownF h.box (by decide) hk
theorem Built.ge (h:Built base W o L S fs t hs sf cf sn cn):∀k,FB sf sn k->base<=k:=by
 rintro k (hk|hk)
 ·rw[<-yG sn t.length cn]at hk;exact(h.ownN.lt k hk).1
 rw[<-yG sf fs.length cf]at hk;exact(h.ownF.lt k hk).1
theorem Built.push {m:Nat}{b:Bool}{row:List Int}{rv:Value}{a7 a9:Option Addr}{a6 a8:Nat}{ls:List (Nat×Obj)}{ps:List (Nat×TypeId×List Value)}(h:Built base W o L S fs t hs sf cf sn cn)(hm:t.length=m)(hM:Many W (FB sf sn) W' [⟨base,22,.slice a9 (m+1) a8,m+1,hs++[rv],1⟩,⟨base,4,.slice a7 (m+1) a6,m+1,bls fs++[.bool b],1⟩] ls ps)(a5:RowT W.heap.size 3 W rv (ints row)){W2:World}(a4:W2=(W'.setCell ⟨o,3,none⟩ (.slice a9 (m+1) a8)).setCell ⟨o,2,none⟩ (.slice a7 (m+1) a6)):Built base W2 o L S (fs++[b]) (t++[row]) (hs++[rv]) a7 a6 a9 a8/\∀w0:World,w0.grownBy W (some o)->w0.heap.size<=base->w0.grownBy W2 (some o):=by
 have h2:fs.length=m:=h.len.trans hm;have hN:=hM.own 0 _ rfl;have hF:=hM.own 1 _ rfl;simp only[]at hN hF;have h0:=hM.but.heap h.box h.notbox;have h1:=(h.rows.snoc a5).keptF hM.but (fun k hk=>.inr (h.other k hk));have s1:=heap_setCell_same W' o 3 _ _ (.slice a9 (m+1) a8) h0;have s2:=heap_setCell_same _ o 2 _ _ (.slice a7 (m+1) a6) s1;have g1:W'.grownBy W2 (some o):=by rw[a4];exact zH (zF W' ⟨o,3,none⟩ _) (zF (W'.setCell ⟨o,3,none⟩ (.slice a9 (m+1) a8)) ⟨o,2,none⟩ _)
 have h3:yZ W' 3 o:=⟨_,_,_,h0,by decide⟩;refine⟨⟨?_,?_,?_,?_,by simp[h.len]⟩,fun w0 hw0 hb=>?_⟩
 ·rw[a4,s2]
  simp[h2,hm]
 ·have:=hF.kept g1 (.inr (zV hF h0 (by decide)))
  rw[List.length_append,h2];simpa [bls] using this
 ·have:=hN.kept g1 (.inr (zV hN h0 (by decide)))
  rw[List.length_append,hm];exact this
 ·exact(h1.kept g1 (fun k hk=>.inr (by have:=Oj hk;subst this;exact h3))).mono (Nat.le_trans hM.but.size g1.size)
 exact zH (hM.but.grown hw0 (fun k hk=>.inr (Nat.le_trans hb (h.ge k hk)))) g1
def tT (w w':World)(v:Value)(m:DfaV):Prop:=∃(o:Nat) (hs:List Value) (sf:Option Addr) (cf:Nat) (sn:Option Addr) (cn:Nat),
 v=.agg #[.int .i64 m.letters,.int .i64 m.start,.slice sf m.final.length cf,.slice sn m.next.length cn]/\w.heap.size<=o/\Built o w' o m.letters m.start m.final m.next hs sf cf sn cn
theorem tT.dfa {w w':World}{v:Value}{m:DfaV}(h:tT w w' v m):tO w'.heap.size w' v m:=by
 obtain⟨o,hs,sf,cf,sn,cn,rfl,_,hb⟩:=h;exact hb.dfa
theorem tT.grow {w w' a9:World}{v:Value}{m:DfaV}(h:tT w w' v m)(hg:w'.grownBy a9 none):tT w a9 v m:=by
 obtain⟨o,hs,sf,cf,sn,cn,h1,h2,hb⟩:=h;exact⟨o,hs,sf,cf,sn,cn,h1,h2,hb.grow hg⟩
theorem tT.old {w0 w w':World}{v:Value}{m:DfaV}(h:tT w w' v m)(hg:w0.heap.size<=w.heap.size):tT w0 w' v m:=by
 obtain⟨o,hs,sf,cf,sn,cn,h1,h2,hb⟩:=h;exact⟨o,hs,sf,cf,sn,cn,h1,Nat.le_trans hg h2,hb⟩
theorem tT.far {w w' a9:World}{v:Value}{m:DfaV}{r:Nat}{cs:Array Value}{mm:Nat×Nat}(h:tT w w' v m)(hg:w'.grownBy a9 (some r))(hr:w'.heap[r]?=some (.cells cs 37 mm))(a8:r<w.heap.size):tT w a9 v m:=by
 obtain⟨o,hs,sf,cf,sn,cn,h1,h2,hb⟩:=h;exact⟨o,hs,sf,cf,sn,cn,h1,h2,hb.far hg hr (by omega)⟩
end
def RowX (X:Nat->Prop)(e:TypeId)(w:World)(v:Value)(xs:List Value):Prop:=RowT w.heap.size e w v xs/\∀k,v.ownBlock=some k->X k
def xX (X:Nat->Prop)(w w':World):Prop:=∀k,X k->w'.heap[k]?=w.heap[k]?
theorem xX.trans {X:Nat->Prop}{a b c:World}(h:xX X a b)(h':xX X b c):xX X a c:=fun k hk=>(h' k hk).trans (h k hk)
theorem xX.refl (X:Nat->Prop)(w:World):xX X w w:=fun _ _=>rfl
theorem xX.cell {X:Nat->Prop}{w w':World}(h:xX X w w'){b i:Nat}(hb:X b){u:Value}(hc:w.cell? ⟨b,i,none⟩=some u):w'.cell? ⟨b,i,none⟩=some u:=(World.cell?_of_block (h b hb)).trans hc
theorem RowX.kept {X:Nat->Prop}{e:TypeId}{w w':World}{v:Value}{xs:List Value}(h:RowX X e w v xs)(hk:xX X w w')(hs:w.heap.size<=w'.heap.size):RowX X e w' v xs:=by
 refine⟨?_,h.2⟩;rcases h.1 with h1|⟨b,off,cap,cur,m,h1,h2,h3,h4,h5,h6⟩
 ·exact .inl h1
 exact .inr ⟨b,off,cap,cur,m,h1,by omega,h3,h4,(hk b (h.2 b (by rw[h1];rfl))).trans h5,h6⟩
theorem RowX.mono {X X':Nat->Prop}{e:TypeId}{w:World}{v:Value}{xs:List Value}(h:RowX X e w v xs)(hX:∀k,X k->X' k):RowX X' e w v xs:=⟨h.1,fun k hk=>hX k (h.2 k hk)⟩
theorem RowX.row {X:Nat->Prop}{e:TypeId}{w:World}{v:Value}{xs:List Value}(h:RowX X e w v xs):Row w.heap.size w v xs:=h.1.row
theorem RowX.of_owns {X:Nat->Prop}{w:World}{base e n:Nat}{v:Value}{xs:List Value}(h:w.ownsRow base e 1 v n xs)(hX:∀k,v.ownBlock=some k->X k):RowX X e w v xs:=⟨RowT.of_owns h,hX⟩
def xU {α:Type}(X:Nat->Prop)(e:TypeId)(f:α->List Value)(w:World)(hs:List Value)(ts:List α):Prop :=
 hs.length=ts.length/\∀i (h:i<hs.length) (h':i<ts.length),RowX X e w hs[i] (f ts[i])
section
variable {α:Type} {X X':Nat->Prop} {e:TypeId} {f:α->List Value} {w w':World} {hs:List Value} {ts:List α}
theorem xU.nil:xU X e f w [] []:=⟨rfl,fun i h=>by simp at h⟩
theorem xU.kept (h:xU X e f w hs ts)(hk:xX X w w')(a9:w.heap.size<=w'.heap.size):xU X e f w' hs ts:=⟨h.1,fun i h1 h2=>(h.2 i h1 h2).kept hk a9⟩
theorem xU.mono (h:xU X e f w hs ts)(hX:∀k,X k->X' k):xU X' e f w hs ts:=⟨h.1,fun i h1 h2=>(h.2 i h1 h2).mono hX⟩
theorem xU.snoc {v:Value}{t:α}(h:xU X e f w hs ts)(hv:RowX X e w v (f t)):xU X e f w (hs++[v]) (ts++[t]):=by
 refine⟨by simp[h.1],fun i h1 h2=>?_⟩;by_cases hi:i<hs.length
 ·rw[List.getElem_append_left hi]
  simp only[List.getElem_append_left (show i<ts.length by rw[<-h.1];exact hi)];exact h.2 i hi _
 have:i=hs.length:=by simp at h1;omega
 subst this;rw[List.getElem_append_right (Nat.le_refl _)];simp only[List.getElem_append_right (show ts.length<=hs.length by rw[h.1];exact Nat.le_refl _)];simpa [h.1] using hv
end
structure EMem (X:Nat->Prop)(W:World)(rs:List RowS):Prop where
 own:∀r∈rs,W.ownsRow r.base r.e r.sz r.v r.n r.xs
 apart:rs.Pairwise (fun r s=>∀k,r.v.ownBlock=some k->s.v.ownBlock≠some k)
 offX:∀r∈rs,∀k,r.v.ownBlock=some k->¬X k
 lt:∀k,X k->k<W.heap.size
def qA (rs:List RowS)(k:Nat):Prop:=∃r∈rs,r.v.ownBlock=some k
section
variable {X:Nat->Prop} {W W':World} {rs rs':List RowS}
theorem EMem.many (h:EMem X W rs)(F:Nat->Prop)(hF:∀k,qA rs k->F k):Many W F W rs [] []:=Many.start h.own (fun r hr k hk=>hF k ⟨r,hr,hk⟩) h.apart
theorem EMem.grow (h:EMem X W rs)(hg:W.grownBy W' none):EMem X W' rs:=⟨fun r hr=>yB (h.own r hr) hg,h.apart,h.offX,fun k hk=>Nat.lt_of_lt_of_le (h.lt k hk) hg.size⟩
theorem xX.of_grown {row:Option Nat}(a9:∀k,X k->k<W.heap.size)(hg:W.grownBy W' row)(hr:∀k,row=some k->¬X k):xX X W W':=fun k hk=>hg.block k (a9 k hk) (fun e=>hr k e.symm hk)
theorem EMem.keep (h:EMem X W rs)(hg:W.grownBy W' none):xX X W W':=xX.of_grown h.lt hg (by simp)
theorem EMem.after {F:Nat->Prop}{ls:List (Nat×Obj)}(h:EMem X W rs)(hM:Many W F W' rs' ls [])(hF:∀k,F k->¬X k):EMem X W' rs' where
 own:=fun r hr=>by
  obtain⟨i,hi,e⟩:=List.getElem_of_mem hr
  exact hM.own i r (by rw[List.getElem?_eq_getElem hi,e])
 apart:=by
  rw[List.pairwise_iff_getElem];intro i j hi hj h0;exact hM.apart i j _ _ (by omega) (List.getElem?_eq_getElem hi) (List.getElem?_eq_getElem hj)
 offX:=fun r hr k hk hx=>by
  obtain⟨i,hi,e⟩:=List.getElem_of_mem hr;rcases hM.mine i r (by rw[List.getElem?_eq_getElem hi,e]) k hk with hf|hf
  ·exact hF k hf hx
  ·have:=h.lt k hx;omega
 lt:=fun k hk=>Nat.lt_of_lt_of_le (h.lt k hk) hM.but.size
theorem EMem.keepMany {F:Nat->Prop}{ls:List (Nat×Obj)}(h:EMem X W rs)(hM:Many W F W' rs' ls [])(hF:∀k,F k->¬X k):xX X W W':=fun k hk=>hM.but.block k (h.lt k hk) (fun hf=>hF k hf hk)
theorem EMem.far (h:EMem X W rs){o:Nat}(hg:W.grownBy W' (some o))(hr:∀r∈rs,r.v.ownBlock≠some o):EMem X W' rs where
 own:=fun r hr'=>(h.own r hr').kept hg (.inr (hr r hr'))
 apart:=h.apart
 offX:=h.offX
 lt:=fun k hk=>Nat.lt_of_lt_of_le (h.lt k hk) hg.size
theorem EMem.retire {r:RowS}(h:EMem X W (rs++[r])):EMem (fun k=>X k\/r.v.ownBlock=some k) W rs where
 own:=fun s hs=>h.own s (List.mem_append_left _ hs)
 apart:=(List.pairwise_append.1 h.apart).1
 offX:=fun s hs k hk hx=>by
  rcases hx with hx|hx
  ·exact h.offX s (List.mem_append_left _ hs) k hk hx
  ·exact(List.pairwise_append.1 h.apart).2.2 s hs r (by simp) k hk hx
 lt:=fun k hx=>by
  rcases hx with hx|hx
  ·exact h.lt k hx
  ·exact((h.own r (by simp)).lt k hx).2
theorem EMem.fresh (h:EMem X W rs)(hg:W.grownBy W' none){Y:Nat->Prop}(hY:∀k,Y k->W.heap.size<=k/\k<W'.heap.size):EMem (fun k=>X k\/Y k) W' rs where
 own:=fun r hr=>yB (h.own r hr) hg
 apart:=h.apart
 offX:=fun r hr k hk hx=>by
  rcases hx with hx|hx
  ·exact h.offX r hr k hk hx
  ·have:=((h.own r hr).lt k hk).2
   have:=(hY k hx).1
   omega
 lt:=fun k hx=>by
  rcases hx with hx|hx
  ·exact Nat.lt_of_lt_of_le (h.lt k hx) hg.size
  ·exact(hY k hx).2
theorem EMem.add (h:EMem X W rs)(hg:W.grownBy W' none){r:RowS}(ho:W'.ownsRow r.base r.e r.sz r.v r.n r.xs)(hn:∀k,r.v.ownBlock=some k->W.heap.size<=k):EMem X W' (rs++[r]) where
 own:=fun s hs=>by
  rcases List.mem_append.1 hs with hs|hs
  ·exact yB (h.own s hs) hg
  ·rw[List.mem_singleton]at hs;subst hs;exact ho
 apart:=by
  rw[List.pairwise_append];refine⟨h.apart,by simp,fun s hs t ht k hk e=>?_⟩;rw[List.mem_singleton]at ht;subst ht;have:=((h.own s hs).lt k hk).2;have:=hn k e;omega
 offX:=fun s hs k hk hx=>by
  rcases List.mem_append.1 hs with hs|hs
  ·exact h.offX s hs k hk hx
  ·rw[List.mem_singleton]at hs;subst hs
   have:=h.lt k hx;have:=hn k hk;omega
 lt:=fun k hk=>Nat.lt_of_lt_of_le (h.lt k hk) hg.size
theorem EMem.nil (w:World):EMem (fun _=>False) w []:=⟨fun r hr=>by simp at hr,List.Pairwise.nil,fun r hr=>by simp at hr,fun k hk=>hk.elim⟩
end
theorem xU.rowsT {α:Type}{X:Nat->Prop}{e:TypeId}{f:α->List Value}{w:World}{hs:List Value}{ts:List α}(h:xU X e f w hs ts):tN w.heap.size e f w hs ts:=⟨h.1,fun i h3 h4=>(h.2 i h3 h4).1⟩
theorem EMem.appAt {X:Nat->Prop}{W W':World}{rs:List RowS}(h:EMem X W rs){j:Nat}{r:RowS}(hr:rs[j]?=some r){v':Value}{n':Nat}{us:List Value}(ho:W'.ownsRow r.base r.e r.sz v' n' (r.xs++us))(hg:W.grownBy W' r.v.ownBlock)(hm:jY W W' r.v v'):EMem X W' (rs.set j ⟨r.base,r.e,v',n',r.xs++us,r.sz⟩) :=
 h.after ((h.many (qA rs) (fun _ h=>h)).append hr ho hg hm) (fun k hk=>by obtain⟨r,hr,hk⟩:=hk;exact h.offX r hr k hk)
theorem EMem.dropLast {X:Nat->Prop}{W:World}{rs:List RowS}{r:RowS}(h:EMem X W (rs++[r])):EMem X W rs:=⟨fun s hs=>h.own s (List.mem_append_left _ hs),(List.pairwise_append.1 h.apart).1,fun s hs=>h.offX s (List.mem_append_left _ hs),h.lt⟩
theorem Arr.rowT' {w:World}{g cap:Nat}{e:TypeId}{xs:List Value}(h:Arr w g e xs)(hc:xs.length<=cap)(hm:cap<=maxLen):RowT w.heap.size e w (.slice (some ⟨g,0,none⟩) xs.length cap) xs:=by
 have h1:=h.lt;obtain⟨cur,rest,hg,h0⟩:=h;refine .inr ⟨g,0,cap,cur,(0,0),rfl,h1,hc,hm,hg,fun i hi=>?_⟩;rw[Nat.zero_add,<-Array.getElem?_toList,h0,List.getElem?_append_left hi,List.getElem?_eq_getElem hi]
end Go.Proofs.Ytobakifdllameaa
namespace Go.Proofs.Ytobakifdllameaa
def acc (d:DfaV)(q:Nat)(w:List Nat):Bool:=d.final.getD (run d q w) false
theorem qNR {a b:Bool}(h:finB a=finB b):a=b:=by cases a<;>cases b<;>simp[finB]at h<;>rfl
section
variable {d:DfaV} {n k:Nat}
theorem pZ (hd:VD d n k){q q':Nat}(hq:q<n)(a9:q'<n):(oZ d).getD q 0=(oZ d).getD q' 0↔d.final.getD q false=d.final.getD q' false:=by
 have hn:=hd.hn;rw[oZ,nD (by rw[List.length_map];omega) (by rw[List.length_map];omega),List.getElem_map,List.getElem_map,<-zN (d:=false),<-zN (d:=false)];exact⟨qNR,fun h=>by rw[h]⟩
theorem kR (hd:VD d n k):∀m {q q':Nat},q<n->q'<n->(xI d k m).getD q 0=(xI d k m).getD q' 0->d.final.getD q false=d.final.getD q' false
 | 0,q,q',hq,hq',h=>(pZ hd hq hq').1 h
 | m+1,q,q',hq,hq',h=>kR hd m hq hq' ((rB hd (by rw[xH,hd.hn]) (by rw[<-hd.hn];exact aV d k m) hq hq' k (Nat.le_refl _)).1 h).1
theorem eM (hd:VD d n k):∀m {q q':Nat},q<n->q'<n->(xI d k m).getD q 0≠(xI d k m).getD q' 0->∃w,tP k w/\acc d q w≠acc d q' w
 | 0,q,q',hq,hq',h=>⟨[],fun a ha=>by simp at ha,fun e=>h ((pZ hd hq hq').2 e)⟩
 | m+1,q,q',hq,hq',h=>by
  by_cases h1:(xI d k m).getD q 0=(xI d k m).getD q' 0
  ·have hx:¬∀a,a<k->(xI d k m).getD (nx d q a) 0=(xI d k m).getD (nx d q' a) 0:=fun ha=>h ((rB hd (by rw[xH,hd.hn]) (by rw[<-hd.hn];exact aV d k m) hq hq' k (Nat.le_refl _)).2 ⟨h1,ha⟩)
   obtain⟨a,ha⟩:=Classical.not_forall.1 hx
   obtain⟨ha,hne⟩:=Classical.not_imp.1 ha
   obtain⟨w,hw,e⟩:=eM hd m (qV hd hq ha) (qV hd hq' ha) hne
   exact⟨a::w,fun b hb=>by
    rcases List.mem_cons.1 hb with rfl|hb
    ·exact ha
    ·exact hw b hb,e⟩
  ·exact eM hd m hq hq' h1
theorem gW (d:DfaV)(p:List Nat):st0 (uI d p)=p.getD (st0 d) 0:=by simp[st0,uI]
theorem jD (hd:VD d n k){q:Nat}(hq:q<n){w:List Nat}(hw:tP k w):acc (uI d (yI d k)) ((yI d k).getD q 0) w=acc d q w:=by
 have hl:(yI d k).length=n:=by rw[wU,hd.hn]
 have hN:=uD d k;have hr:=qIJ hd w hq hw;unfold acc;rw[bW hd hl hN (mW hd) w hq hw];have hc:=tX hN (show run d q w<(yI d k).length by omega);have hg:=pH hN hc;show ((reps (yI d k)).map fun q=>d.final.getD q false).getD _ false=_;rw[xW (x:=0) (by rw[qU hN];exact hc)];exact kR hd _ (by omega) hr hg.1
theorem qEU (hd:VD d n k){c c':Nat}(hc:c<cls (yI d k))(a9:c'<cls (yI d k))(h:∀w,tP k w->acc (uI d (yI d k)) c w=acc (uI d (yI d k)) c' w):c=c':=by
 have hl:(yI d k).length=n:=by rw[wU,hd.hn]
 have hN:=uD d k;obtain⟨h1,h2⟩:=pH hN hc;obtain⟨h3,h4⟩:=pH hN a9;rw[hl]at h2 h4;rcases Decidable.em (c=c') with e|e
 ·exact e
 exfalso;obtain⟨w,hw,h0⟩:=eM hd d.final.length h2 h4 (by rw[show xI d k d.final.length=yI d k from rfl,h1,h3];exact e);have a1:=jD hd h2 hw;have a2:=jD hd h4 hw;rw[h1]at a1;rw[h3]at a2;exact h0 (a1.symm.trans ((h w hw).trans a2))
theorem qLS (hd:VD d n k){w:List Nat}(hw:tP k w):acc (wO d k) 0 w=acc d (st0 d) w:=by
 have hA:=(wG hd).1;have hr:=qIJ (kF hd) w (kF hd).n1 hw;unfold acc;rw[jZ hd hr,qEM hd w hA.hd.1 hw,hA.hd.2]
end
inductive Side (R:Nat->Nat->Prop):List Nat->List Nat->Prop
 | nil:Side R [] []
 | snoc {l l':List Nat} {q q':Nat}:Side R l l'->R q q'->Side R (l++[q]) (l'++[q'])
theorem Side.len {R:Nat->Nat->Prop}{l l':List Nat}(h:Side R l l'):l.length=l'.length:=by
 induction h with
 | nil=>rfl
 | snoc _ _ ih=>simp[ih]
theorem Side.get {R:Nat->Nat->Prop}{l l':List Nat}(h:Side R l l'):∀i,i<l.length->R (l.getD i 0) (l'.getD i 0):=by
 induction h with
 | nil=>intro i hi;simp at hi
 | @snoc l l' q q' hs hr ih =>
  intro i hi;have hl:=hs.len;simp at hi;by_cases e:i<l.length
  ·rw[qY (List.prefix_append _ _) e,qY (List.prefix_append _ _) (by omega)];exact ih i e
  have e1:i=l.length:=by omega
  subst e1;have a1:(l++[q]).getD l.length 0=q:=by simp[List.getD]
  have a2:(l'++[q']).getD l.length 0=q':=by rw[hl];simp[List.getD]
  rw[a1,a2];exact hr
structure One (R:Nat->Nat->Prop):Prop where
 l:∀ {q q' r'},R q q'->R q r'->q'=r'
 r:∀ {q r q'},R q q'->R r q'->q=r
theorem Side.mem {R:Nat->Nat->Prop}(hR:One R){l l':List Nat}(h:Side R l l'){q q':Nat}(hq:R q q'):q∈l↔q'∈l':=by
 have hl:=h.len;constructor
 ·intro hm
  obtain⟨i,hi,rfl⟩:=List.getElem_of_mem hm;have:=h.get i hi;rw[zN hi]at this;rw[hR.l hq this,zN (by omega)];exact List.getElem_mem _
 intro hm;obtain⟨i,hi,rfl⟩:=List.getElem_of_mem hm;have:=h.get i (by omega);rw[zN hi,zN (show i<l.length by omega)]at this;rw[hR.r hq this];exact List.getElem_mem _
theorem Side.add {R:Nat->Nat->Prop}(hR:One R){l l':List Nat}(h:Side R l l'){q q':Nat}(hq:R q q'):Side R (wK l q) (wK l' q'):=by
 unfold wK;by_cases e:q∈l
 ·rw[if_pos e,if_pos ((h.mem hR hq).1 e)];exact h
 rw[if_neg e,if_neg (fun e'=>e ((h.mem hR hq).2 e'))];exact .snoc h hq
theorem Side.idx {R:Nat->Nat->Prop}(hR:One R){l l':List Nat}(h:Side R l l')(hn:l.Nodup)(a9:l'.Nodup){q q':Nat}(hq:R q q')(hm:q∈l):l.idxOf q=l'.idxOf q':=by
 have hi:=List.idxOf_lt_length_of_mem hm;have hl:=h.len;have:=h.get _ hi;rw[zN hi,List.getElem_idxOf,zN (show l.idxOf q<l'.length by omega)]at this;have e:=hR.l hq this;have h0:=(h.mem hR hq).1 hm;have h1:=List.idxOf_lt_length_of_mem h0;have e2:l'[l'.idxOf q']=l'[l.idxOf q]'(by omega):=by rw[List.getElem_idxOf];exact e
 exact((List.getElem_inj a9).1 e2).symm
section
variable {x x':DfaV} {n n' k:Nat} {R:Nat->Nat->Prop}
theorem qEP (hR:One R)(hs:∀ {q q' a},R q q'->a<k->R (nx x q a) (nx x' q' a)){l l':List Nat}(h:Side R l l'){i:Nat}(hi:i<l.length):∀a,a<=k->Side R (vN x l i a) (vN x' l' i a)
 | 0,_=>h
 | a+1,ha=>(qEP hR hs h hi a (by omega)).add hR (hs (h.get i hi) (by omega))
theorem qIF (hR:One R)(hs:∀ {q q' a},R q q'->a<k->R (nx x q a) (nx x' q' a)):∀f i {l l':List Nat},Side R l l'->Side R (qG x k f i l) (qG x' k f i l')
 | 0,_,_,_,h=>h
 | f+1,i,l,l',h=>by
  rw[qG,qG,h.len]
  by_cases e:i<l'.length
  ·rw[if_pos e,if_pos e]
   exact qIF hR hs f (i+1) (qEP hR hs h (by rw[h.len];exact e) k (Nat.le_refl _))
  ·rw[if_neg e,if_neg e];exact h
end
theorem bF {d:DfaV}{n k:Nat}(hd:VD d n k):∀f i l m,AccI d n k i l->n<=i+f->qG d k (f+m) i l=qG d k f i l
 | 0,i,l,m,h,hf=>by
  have hl:=qK h.nd h.lt
  rw[eQ (f:=0+m) (by omega),qG]
 | f+1,i,l,m,h,hf=>by
  rw[show f+1+m=(f+m)+1 by omega,qG,qG]
  by_cases e:i<l.length
  ·rw[if_pos e,if_pos e]
   exact bF hd f (i+1) _ m (h.row hd e) (by omega)
  ·rw[if_neg e,if_neg e]
theorem eP {d:DfaV}{n k:Nat}(hd:VD d n k)(m:Nat):qG d k (n+m) 0 [st0 d]=yH d k:=by
 rw[yH,hd.hn];exact bF hd n 0 _ m (AccI.start hd) (by omega)
theorem qFQ {x x':DfaV}{n n' k:Nat}(hx:VD x n k)(a9:VD x' n' k)(hr:∀ {c c'},c<n->c'<n->(∀w,tP k w->acc x c w=acc x c' w)->c=c')(a8:∀ {c c'},c<n'->c'<n'->(∀w,tP k w->acc x' c w=acc x' c' w)->c=c')(hl:∀w,tP k w->acc x (st0 x) w=acc x' (st0 x') w):wO x k=wO x' k:=by
 obtain⟨R,h8⟩:∃R:Nat->Nat->Prop,∀q q',R q q'↔q<n/\q'<n'/\∀w,tP k w->acc x q w=acc x' q' w:=⟨fun q q'=>q<n/\q'<n'/\∀w,tP k w->acc x q w=acc x' q' w,fun _ _=>Iff.rfl⟩
 have hR:One R:=by
  refine⟨fun {q q' r'} h1 h2=>?_,fun {q r q'} h1 h2=>?_⟩
  ·obtain⟨_,h3,h4⟩:=(h8 _ _).1 h1
   obtain⟨_,h5,h6⟩:=(h8 _ _).1 h2;exact a8 h3 h5 (fun w hw=>(h4 w hw).symm.trans (h6 w hw))
  obtain⟨h3,_,h4⟩:=(h8 _ _).1 h1;obtain⟨h5,_,h6⟩:=(h8 _ _).1 h2;exact hr h3 h5 (fun w hw=>(h4 w hw).trans (h6 w hw).symm)
 have hs:∀ {q q' a},R q q'->a<k->R (nx x q a) (nx x' q' a):=fun {q q' a} h ha=>by
  obtain⟨h1,h2,h3⟩:=(h8 _ _).1 h
  exact(h8 _ _).2 ⟨qV hx h1 ha,qV a9 h2 ha,fun w hw=>h3 (a::w) (fun b hb=>by
   rcases List.mem_cons.1 hb with rfl|hb
   ·exact ha
   exact hw b hb)⟩
 have h0:R (st0 x) (st0 x'):=(h8 _ _).2 ⟨mJ hx,mJ a9,hl⟩
 have h7:Side R (yH x k) (yH x' k):=by
  have:=qIF (x:=x) (x':=x') (k:=k) hR hs (n+n') 0 (Side.snoc .nil h0);rw[List.nil_append,List.nil_append,eP hx n']at this;rw[Nat.add_comm n n',eP a9 n]at this;exact this
 have hA:=(wG hx).1;have H2:=(wG a9).1;have h9:=h7.len;have hm:∀i,i<(yH x k).length->(yH x k).getD i 0∈yH x k:=fun i hi=>by rw[zN hi];exact List.getElem_mem _
 have key:∀i,i<(yH x k).length->(wO x k).final.getD i false=(wO x' k).final.getD i false:=fun i hi=>by
  rw[jZ hx hi,jZ a9 (by omega)];obtain⟨_,_,h⟩:=(h8 _ _).1 (h7.get i hi);exact h [] (fun a ha=>by simp at ha)
 have hv:=kF hx;have H0:=kF a9;have e1:(wO x k).letters=(wO x' k).letters:=hx.hk.trans a9.hk.symm
 have e3:(wO x k).final=(wO x' k).final:=by
  refine List.ext_getElem (by rw[hv.hn,H0.hn,h9]) fun i h1 h2=>?_;have:=key i (by rw[hv.hn]at h1;exact h1);rw[zN h1,zN h2]at this;exact this
 have e4:(wO x k).next=(wO x' k).next:=by
  refine List.ext_getElem (by rw[hv.nl,H0.nl,h9]) fun i h1 h2=>?_;have hi:i<(yH x k).length:=by rw[hv.nl]at h1;exact h1
  have r1:=hv.row i hi;have r2:=H0.row i (by omega);rw[zN h1]at r1;rw[zN h2]at r2;refine List.ext_getElem (by rw[r1,r2]) fun a h3 h4=>?_;have ha:a<k:=by omega
  have t1:=kY hx hi ha;have t2:=kY a9 (show i<(yH x' k).length by omega) ha;have hq:=h7.get i hi;have H3:=(wG hx).2;have H1:=hA.cl i a (by omega) hi ha;rw[h7.idx hR hA.nd H2.nd (hs hq ha) H1,<-t2]at t1;unfold ent at t1;rw[zN h1,zN h2,zN h3,zN h4]at t1;exact t1
 show (⟨_,0,(wO x k).final,(wO x k).next⟩:DfaV)=⟨_,0,(wO x' k).final,(wO x' k).next⟩;rw[e3,e4];exact congrArg (fun z=>(⟨z,0,(wO x' k).final,(wO x' k).next⟩:DfaV)) e1
theorem qBO {d d':DfaV}{n n' k:Nat}(hd:VD d n k)(a9:VD d' n' k)(h:∀w,tP k w->acc d (st0 d) w=acc d' (st0 d') w):minD d k=minD d' k:=by
 refine qFQ (lM hd) (lM a9) (fun h1 h2=>qEU hd h1 h2) (fun h1 h2=>qEU a9 h1 h2) fun w hw=>?_;rw[gW,gW,jD hd (mJ hd) hw,jD a9 (mJ a9) hw];exact h w hw
theorem qMZ {d:DfaV}{n k:Nat}(hd:VD d n k):minD (wO d k) k=minD d k:=qBO (kF hd) hd (fun w hw=>by rw[show st0 (wO d k)=0 from rfl];exact qLS hd hw)
open Go.RowKit
def mL (letters:Int)(c:UInt8):Bool:=decide (97<=(c.toNat:Int)/\(c.toNat:Int)-97<letters)
def xO (s:ByteArray)(letters:Int):Bool:=decide (1<=letters/\letters<=6/\s.size<=2048) && s.data.toList.all (mL letters)
theorem pG (s:ByteArray)(a9:Int)(k:Nat)(hk:k<s.size)(h:(s[k].toNat:Int)<97\/a9<=((s[k].toNat:Int)-97) % 256):xO s a9=false:=by
 have hm:s[k]∈s.data.toList:=by
  have:s[k]=s.data[k]'(by simpa using hk):=rfl;rw[this];simp
 have h2:mL a9 s[k]=false:=by
  have:=UInt8.toNat_lt s[k];simp[mL];omega
 unfold xO;rw[Bool.and_eq_false_iff];right;rw[List.all_eq_false];exact⟨_,hm,by simp[h2]⟩
theorem qFL (s:ByteArray)(a9:Int)(k:Nat)(hk:k<s.size)(h:(s.data.toList.take k).all (mL a9)=true)(h1:97<=(s[k].toNat:Int)/\((s[k].toNat:Int)-97) % 256<a9):(s.data.toList.take (k+1)).all (mL a9)=true:=by
 rw[List.take_succ_eq_append_getElem (by simpa using hk),List.all_append,h];have:s.data.toList[k]'(by simpa using hk)=s[k]:=rfl;have h3:=UInt8.toNat_lt s[k];simp[this,mL];omega
theorem kV (s:ByteArray)(a9:Int)(k:Nat)(hk:s.size<=k)(h:1<=a9/\a9<=6/\s.size<=2048)(ha:(s.data.toList.take k).all (mL a9)=true):xO s a9=true:=by
 rw[List.take_of_length_le (by simpa using hk)]at ha;simp[xO,ha,h]
theorem bG (s:ByteArray)(a9:Int)(w:World)(hs:s.size<=maxLen):Calls Try.prog 19 #[.string s,.int .i64 a9] w fun e w'=>e=.returned (.bool (xO s a9))/\w=w':=by
 unfold maxLen at hs;by_cases h1:a9<1
 ·go_enter Try.func19,Try.ntmps19
  go_wp2;go_ret;exact⟨yT (by simp[xO];omega),rfl⟩
 by_cases h2:6<a9
 ·go_enter Try.func19,Try.ntmps19
  go_wp2;go_ret;exact⟨yT (by simp[xO];omega),rfl⟩
 by_cases h3:2048<s.size
 ·go_enter Try.func19,Try.ntmps19
  go_wp2;go_ret;exact⟨yT (by simp[xO];omega),rfl⟩
 go_enter Try.func19,Try.ntmps19;go_wp2
 go_loop [19] (fun i=>∃k:Nat,k<=s.size/\i=.int .i64 k/\(s.data.toList.take k).all (mL a9)=true) (fun i=>s.size-(intOf i).toNat)
 case atStart=>exact⟨0,Nat.zero_le _,rfl,rfl⟩
 obtain⟨k,hk,rfl,h0⟩:=hrel;have HA:=Kh h0;clear h0;by_cases hlt:k<s.size
 ·go_wp2
  ·go_ret
   exact⟨yT (by rw[eq_comm];exact pG s a9 k hlt (by omega)),rfl⟩
  ·go_round
   case rel=>exact⟨k+1,by omega,by go_num,qFL s a9 k hlt HA.out (by omega)⟩
   simp[intOf];omega
  go_ret;exact⟨yT (by rw[eq_comm];exact pG s a9 k hlt (by omega)),rfl⟩
 go_wp2;go_ret;exact⟨yT (by rw[eq_comm];exact kV s a9 k (by omega) (by omega) HA.out),rfl⟩
def yS (s:ByteArray):List Nat:=s.data.toList.map fun c=>c.toNat-97
theorem wW (s:ByteArray):(yS s).length=s.size:=by simp[yS]
theorem aM {s:ByteArray}{i:Nat}(h:i<s.size):(yS s).getD i 0=s[i].toNat-97:=by
 rw[zN (by rw[wW];exact h)];simp[yS];rfl
theorem dV {k:Nat}{c:UInt8}:mL (k:Int) c=true↔97<=c.toNat/\c.toNat-97<k:=by
 unfold mL;rw[decide_eq_true_eq];omega
theorem iU {s:ByteArray}{k:Nat}(h:xO s (k:Int)=true):tP k (yS s)/\(∀i (hi:i<s.size),97<=s[i].toNat/\s[i].toNat-97<k)/\s.size<=2048:=by
 simp only[xO,Bool.and_eq_true,decide_eq_true_eq,List.all_eq_true]at h;refine⟨fun a ha=>?_,fun i hi=>?_,h.1.2.2⟩
 ·obtain⟨c,hc,rfl⟩:=List.mem_map.1 ha
  exact(dV.1 (h.2 c hc)).2
 have hm:s[i]∈s.data.toList:=by
  have:s[i]=s.data.toList[i]'(by simpa using hi):=by simp;rfl
  rw[this];exact List.getElem_mem _
 exact dV.1 (h.2 _ hm)
theorem qRI {c:Nat}(h:97<=c)(h2:c<256):IntKind.u8.wrap ((c:Int)-97)=((c-97:Nat):Int):=by
 unfold IntKind.wrap;simp[IntKind.bits,IntKind.signed];omega
theorem eN {u:ByteArray}{k i:Nat}(h:∀i (hi:i<u.size),97<=u[i].toNat/\u[i].toNat-97<k)(hi:i<u.size):∃b a:Nat,(u[i].toNat:Int)=(b:Int)/\IntKind.u8.wrap ((b:Int)-97)=(a:Int)/\((b:Int)-97) % 256=(a:Int)/\a<k/\(yS u).getD i 0=a:=by
 have hb:=h i hi;have h0:u[i].toNat<256:=u[i].toNat_lt;exact⟨u[i].toNat,u[i].toNat-97,rfl,qRI hb.1 h0,by omega,hb.2,aM hi⟩
end Go.Proofs.Ytobakifdllameaa
namespace Go.Proofs.Ytobakifdllameaa
def asN (n i p:Nat):Nat:=if n<i then n else i+(n-i) % p
def iN (c:CntV)(a:Nat):Nat:=(c.idx.getD a 0).toNat
def pN (c:CntV)(a:Nat):Nat:=(c.per.getD a 0).toNat
def atTo (c:CntV)(ns:List Nat):Nat->Nat
 | 0=>0
 | a+1=>atTo c ns a*(iN c a+pN c a)+asN (ns.getD a 0) (iN c a) (pN c a)
def xN (k:Nat)(u:List Nat):List Nat:=(List.range k).map fun a=>u.count a
theorem wQ (k:Nat)(u:List Nat):(xN k u).length=k:=by simp[xN]
theorem oJ {k a:Nat}{u:List Nat}(h:a<k):(xN k u).getD a 0=u.count a:=by
 rw[zN (by rw[wQ];exact h)];simp[xN]
theorem iQ (k:Nat):xN k []=List.replicate k 0:=by
 refine List.ext_getElem (by simp[xN]) fun i h1 h2=>?_;simp[xN]
theorem eL {k a:Nat}{u:List Nat}:(xN k u).set a (u.count a+1)=xN k (u++[a]):=by
 refine List.ext_getElem (by simp[xN]) fun i h1 h2=>?_;rw[List.getElem_set];simp only[xN,List.getElem_map,List.getElem_range,List.count_append,List.count_singleton]
 split
 ·rename_i e;subst e;simp
 rename_i e;simp[e]
theorem qCO {n i p:Nat}(hp:1<=p):asN n i p<i+p:=by
 unfold asN
 split
 ·omega
 have:=Nat.mod_lt (n-i) (show p > 0 by omega);omega
theorem qCN {c:CntV}(a9:PosC c.idx c.per)(ns:List Nat):∀(a m:Nat),a<=c.idx.length->uJ c.idx c.per a=some m->atTo c ns a<m
 | 0,m,_,h=>by rw[uJ]at h;have:=Oj h;subst this;simp[atTo]
 | a+1,m,ha,h=>by
  rw[uJ]at h
  rcases hc:uJ c.idx c.per a with _|x
  ·rw[hc]at h;cases h
  ·rw[hc]at h
   simp only at h
   have hp:=a9 a (by omega)
   have ih:=qCN a9 ns a x (by omega) hc
   split at h
   ·cases h
   ·have e:=Oj h
    have e2:(c.idx.getD a 0+c.per.getD a 0).toNat=iN c a+pN c a:=by unfold iN pN;omega
    rw[<-e,e2,atTo]
    have h1:=qCO (n:=ns.getD a 0) (i:=iN c a) (p:=pN c a) (by unfold pN;omega)
    calc atTo c ns a*(iN c a+pN c a)+asN (ns.getD a 0) (iN c a) (pN c a)<atTo c ns a*(iN c a+pN c a)+(iN c a+pN c a):=by omega
     _=(atTo c ns a+1)*(iN c a+pN c a):=by rw[Nat.add_mul,Nat.one_mul]
     _<=x*(iN c a+pN c a):=Nat.mul_le_mul_right _ ih
theorem bB {idx per:List Int}{n m:Nat}(h:uJ idx per n=some m):∀a,a<=n->∃x,uJ idx per a=some x:=by
 intro a ha;rcases hc:uJ idx per a with _|x
 ·have:=iO hc (n-a)
  rw[show a+(n-a)=n by omega,h]at this;cases this
 exact⟨x,rfl⟩
noncomputable def oF (c:CntV)(s:ByteArray):Bool:=decide (cntE c=0) && xO s c.idx.length && c.acc.getD (atTo c (xN c.idx.length (yS s)) c.idx.length) false
theorem qBV {c:CntV}{s:ByteArray}(h:cntE c≠0):oF c s=false:=by rw[oF,decide_eq_false h];rfl
theorem cH {c:CntV}{s:ByteArray}(h:xO s c.idx.length=false):oF c s=false:=by rw[oF,h];simp
theorem qBU {c:CntV}{s:ByteArray}(h:cntE c=0)(h2:xO s c.idx.length=true):oF c s=c.acc.getD (atTo c (xN c.idx.length (yS s)) c.idx.length) false:=by rw[oF,h2,decide_eq_true h];rfl
theorem qKY {c:CntV}{ns:List Nat}{a i p:Nat}(hi:c.idx.getD a 0=(i:Int))(hp:c.per.getD a 0=(p:Int)):atTo c ns (a+1)=atTo c ns a*(i+p)+asN (ns.getD a 0) i p:=by
 rw[atTo,show iN c a=i by unfold iN;omega,show pN c a=p by unfold pN;omega]
theorem qMH {c:CntV}(h:CntOk c){a:Nat}(ha:a<c.idx.length):∃i p:Nat,c.idx.getD a 0=(i:Int)/\c.per.getD a 0=(p:Int)/\i<=2000/\1<=p/\p<=2000:=by
 have hp:=h.pos a ha;obtain⟨x,hx⟩:=bB h.size (a+1) (by omega);rw[uJ]at hx
 split at hx
 ·cases hx
 split at hx
 ·cases hx
 exact⟨(c.idx.getD a 0).toNat,(c.per.getD a 0).toNat,by omega,by omega,by omega,by omega,by omega⟩
theorem qSB {c:CntV}(h:CntOk c)(ns:List Nat){a:Nat}(ha:a<=c.idx.length):atTo c ns a<=2000:=by
 obtain⟨x,hx⟩:=bB h.size a ha;have h1:=qCN h.pos ns a x ha hx;have h2:=nQ hx;omega
end Go.Proofs.Ytobakifdllameaa
