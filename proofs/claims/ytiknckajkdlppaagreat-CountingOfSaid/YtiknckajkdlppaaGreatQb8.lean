/- Part 8 of the proof. -/
import Derived.Test.YtiknckajkdlppaaGreatQb7
import Derived.StringKeys
set_option linter.unusedVariables false
set_option linter.unusedSimpArgs false
set_option maxRecDepth 100000
set_option maxHeartbeats 16000000
namespace Go.Proofs.YtiknckajkdlppaaGreat
open Go.RowKit
variable{P n o m u d x gf cE cP cL cR cU gN gC b:Nat}{a9:List RowS}{pre a8:List Int}{a7:List Value}{sE sP sL sR sU gA:Option Addr}{w4 w:World}{FF:Nat->Prop}{a0 a:Act}{l:Array Bool}
theorem qU {vE vP vL:Value}{nE nP nL:Nat}{xE xP xL:List Value}(h:∀r∈a9,r.e≠75):∀s∈(⟨P,22,vE,nE,xE,1⟩::⟨P,3,vP,nP,xP,1⟩::⟨P,3,vL,nL,xL,1⟩::a9:List RowS),s.e≠75:=by
 intro s hs;simp only[List.mem_cons]at hs;rcases hs with rfl|rfl|rfl|hs
 ·simp
 ·simp
 ·simp
 exact h s hs
inductive proc24I (n P o m u d x gf:Nat)(pre las:List Int)(hsE:List Value)(rest:List RowS)(sE:Option Addr)(cE:Nat)(sP:Option Addr)(cP:Nat)(sL:Option Addr)(cL:Nat)(sR:Option Addr)(cR:Nat)(sU:Option Addr)(cU:Nat)(gA:Option Addr)(gN gC:Nat)(w4:World)(FF:Nat->Prop)(a0:Act)(l:Array Bool)(a:Act)(w:World):Prop
 | mk (x123:Value) (x124:Value) (x129:Value) (x130:Value) (x134:Value) (x135:Value) (x136:Value) (x137:Value) (x138:Value) (vE:Value) (nE:Nat) (xE:List Value) (vP:Value) (nP:Nat) (xP:List Value) (vL:Value) (nL:Nat) (xL:List Value) (ls:List (Nat×Obj)) (c3:Value) (c4:Value) (c5:Value) (ha:a=yK a0 [(123,x123),(124,x124),(129,x129),(130,x130),(134,x134),(135,x135),(136,x136),(137,x137),(138,x138)]) (HR:∀j∈[0,1,2,5,6,7,8,11,12,13],l.getD j true=true) (H3:Hid (l.getD 3 true=true->∃g,x123=.slice (some ⟨g,0,none⟩) 1 1/\(g,Obj.cells #[Value.slice (some ⟨gf,0,none⟩) n n] 22 (0,0))∈ls)) (H4n:Hid (l.getD 4 true=false->vE=.slice sE m cE/\m=nE/\hsE=xE)) (H4:Hid (l.getD 4 true=true->∃sa sc,vE=.slice sa (m+1) sc/\x124=.slice sa (m+1) sc/\nE=m+1/\xE=hsE++[Value.slice (some ⟨gf,0,none⟩) n n])) (H9:Hid (l.getD 9 true=true->∃g,x129=.slice (some ⟨g,0,none⟩) 1 1/\(g,Obj.cells #[Value.int .i64 (d:Int)] 3 (0,0))∈ls)) (H10n:Hid (l.getD 10 true=false->vP=.slice sP m cP/\m=nP/\xP=ints pre)) (H10:Hid (l.getD 10 true=true->l.getD 4 true=true/\∃sa sc,vP=.slice sa (m+1) sc/\x130=.slice sa (m+1) sc/\nP=m+1/\xP=ints pre++[Value.int .i64 (d:Int)])) (H14:Hid (l.getD 14 true=true->∃g,x134=.slice (some ⟨g,0,none⟩) 1 1/\(g,Obj.cells #[Value.int .i64 (x:Int)] 3 (0,0))∈ls)) (H15n:Hid (l.getD 15 true=false->vL=.slice sL m cL/\m=nL/\xL=ints las)) (H15:Hid (l.getD 15 true=true->l.getD 10 true=true/\∃sa sc,vL=.slice sa (m+1) sc/\x135=.slice sa (m+1) sc/\nL=m+1/\xL=ints las++[Value.int .i64 (x:Int)])) (H16:Hid (l.getD 16 true=true->x136=.pointer (some ⟨o,3,none⟩))) (H18:Hid (l.getD 18 true=true->x137=.pointer (some ⟨o,4,none⟩))) (H20:Hid (l.getD 20 true=true->x138=.pointer (some ⟨o,5,none⟩))) (B3n:Hid (l.getD 17 true=false->c3=.slice sE m cE)) (B3:Hid (l.getD 17 true=true->l.getD 4 true=true/\l.getD 15 true=true/\c3=vE)) (B4n:Hid (l.getD 19 true=false->c4=.slice sP m cP)) (B4:Hid (l.getD 19 true=true->l.getD 10 true=true/\l.getD 17 true=true/\c4=vP)) (B5n:Hid (l.getD 21 true=false->c5=.slice sL m cL)) (B5:Hid (l.getD 21 true=true->l.getD 15 true=true/\l.getD 19 true=true/\c5=vL)) (HB:(w.heap[o]?=some (.cells #[.int .i64 n,.bool true,.slice gA gN gC,c3,c4,c5,.slice sR d cR,.slice sU u cU,.int .i64 d] 75 (0,0)))) (HM:(Many w4 FF w (⟨P,22,vE,nE,xE,1⟩::⟨P,3,vP,nP,xP,1⟩::⟨P,3,vL,nL,xL,1⟩::rest) ls []))
theorem qNB (h:proc24I n P o m u d x gf pre a8 a7 a9 sE cE sP cP sL cL sR cR sU cU gA gN gC w4 FF a0 l a w):xM 17 (fun _=>True) (fun W=>W.cell? ⟨o,3,none⟩=some (.slice sE m cE)/\W.cell? ⟨o,4,none⟩=some (.slice sP m cP)/\W.cell? ⟨o,5,none⟩=some (.slice sL m cL)/\W.cell? ⟨o,8,none⟩=some (.int .i64 d)) l w:=by
 obtain⟨x123,x124,x129,x130,x134,x135,x136,x137,x138,vE,nE,xE,vP,nP,xP,vL,nL,xL,ls,c3,c4,c5,ha,HR,H3,h4,H4,H9,h3,H0,h9,h2,h8,h7,h6,h5,B3n,B3,B4n,B4,B5n,B5,HB,HM⟩:=h;obtain⟨k0,k1,k2,k3,k4,k5,k6,k7,k8⟩:=yD HB;refine⟨trivial,fun h18=>?_⟩
 have h0:l.getD 19 true=false:=by
  rcases h0:l.getD 19 true with _|_
  ·rfl
  have:=(B4.out h0).2.1;rw[h18]at this;cases this
 have h1:l.getD 21 true=false:=by
  rcases h1:l.getD 21 true with _|_
  ·rfl
  have:=(B5.out h1).2.1;rw[h0]at this;cases this
 rw[B3n.out h18]at k3;rw[B4n.out h0]at k4;rw[B5n.out h1]at k5;exact⟨k3,k4,k5,k8⟩
theorem qNA (h:proc24I n P o m u d x gf pre a8 a7 a9 sE cE sP cP sL cL sR cR sU cU gA gN gC w4 FF a0 l a w):∀j∈[0,1,2,5,6,7,8,11,12,13],l.getD j true=true:=by
 obtain⟨x123,x124,x129,x130,x134,x135,x136,x137,x138,vE,nE,xE,vP,nP,xP,vL,nL,xL,ls,c3,c4,c5,ha,HR,H3,h2,H4,H9,h1,h8,h7,h0,h6,h5,h4,h3,B3n,B3,B4n,B4,B5n,B5,HB,HM⟩:=h;exact HR
theorem qAW {k9:List Int}{l9:List Value}{a7:List RowS}{v0 v1 v2 v3 v4 v5 v7 v8 v9 y7 y8 y9 x0 x1 x2 x3 x4 x5 x6 x7 x8 x9 t0 t1 t2 t3 t4 t5 t6 t7 t8 t9 r0 r1 r2 r3 r4 r5 r6 r7 r8 r9 q0 q1 q2 q3 q4 q5 q6 q7 q8 q9 p0 p1 p2 p3 p4 p5 p6 p7 p8 p9 o0 o1 o2 o3 o4 o5 o6 o7 o8 o9 n0 n1 n2 n3 n4 n5 n6 n7 n8 n9 m0 m1 m2 m3 m4 m5 m6 m7 m8 m9 l0 l1 l2 l3 l4 l5 l6 j1 j2 j3 j4 j5 j6 j7 j8 j9 i0 i1 i2 i3 i4 i5 i6 i7 i8 i9 g0 g1 g2 g3 g4 g6 g7 g8 g9 f0 f1 f2 f3 f4 f5 f6 f7 f8 f9 e0 e1 e2 e3 e4 e5 e6 e7 e8 e9 d0 d1 d2 d3 d4 d5 d6 d7 d8 d9 c0 c1 c2 c6 c7 c8 c9 b0 b1 b2 b3 b4 b5 b6 b7 b8 b9 a1 a2 a3 a4 a5 a6:Value}{dd:_}(y6:a0=⟨#[v0,v1,v2,v3,v4,v5,.pointer (some ⟨o,0,none⟩),v7,v8,v9,y7,y8,y9,x0,x1,x2,x3,x4,x5,x6,x7,x8,x9,t0,t1,t2,t3,t4,t5,t6,t7,t8,t9,r0,r1,r2,r3,r4,r5,r6,r7,r8,r9,q0,q1,q2,q3,q4,q5,q6,q7,q8,q9,p0,p1,p2,p3,p4,p5,p6,p7,p8,p9,o0,o1,o2,o3,o4,o5,o6,o7,o8,o9,n0,n1,n2,n3,n4,n5,n6,n7,n8,n9,m0,m1,m2,m3,m4,m5,m6,m7,m8,m9,l0,l1,l2,l3,l4,l5,l6,j1,j2,j3,j4,j5,j6,j7,j8,j9,i0,i1,i2,i3,i4,i5,i6,i7,i8,i9,g0,.pointer (some ⟨o,3,none⟩),.slice sE m cE,Value.slice (some ⟨gf,0,none⟩) n n,g1,g2,.pointer (some ⟨o,4,none⟩),.slice sP m cP,.pointer (some ⟨o,8,none⟩),.int .i64 d,g3,g4,.pointer (some ⟨o,5,none⟩),.slice sL m cL,.int .i64 x,g6,g7,g8,g9,f0,f1,f2,f3,f4,f5,f6,f7,f8,f9,e0,e1,e2,e3,e4,e5,e6,e7,e8,e9,d0,d1,d2,d3,d4,d5,d6,d7,d8,d9,c0,c1,c2,c6,c7,c8,c9,b0,b1,b2,b3,b4,b5,b6,b7,b8,b9,a1,a2,a3,a4,a5,a6],dd⟩)(y5:m<=2000)(a8:P<=w4.heap.size)(l7:FF o)(l8:o<w4.heap.size)(a9:∀r∈a7,r.e≠75)(j0:Array Oper)(Q7:Exit->Act->World->Prop):qI (mX Tryz.prog .any j0 Q7 (proc24I n P o m u d x gf pre k9 l9 a7 sE cE sP cP sL cL sR cR sU cU gA gN gC w4 FF a0)) 0 (rL Tryz.f62 24).toList:=by
 refine kT fun l a w h=>?_;have HH:=h;obtain⟨x123,x124,x129,x130,x134,x135,x136,x137,x138,vE,nE,xE,vP,nP,xP,vL,nL,xL,ls,c3,c4,c5,ha,HR,H3,h8,H4,H9,h5,H6,H5,h4,H2,H1,H0,h9,B3n,B3,B4n,B4,B5n,B5,HB,HM⟩:=h;have h3:=fun(x123 x124 x129 x130 x134 x135 x136 x137 x138:Value)=>(show yK a0 [(123,x123),(124,x124),(129,x129),(130,x130),(134,x134),(135,x135),(136,x136),(137,x137),(138,x138)]=_ from by simp only[y6,yK,List.foldl_cons,List.foldl_nil,Act.put,sPa,sPb,sPc];exact rfl);refine⟨?s0,?s1,?s2,?s3,?s4,?s5,?s6,?s7,?s8,?s9,?s10,?s11,?s12,?s13,?s14,?s15,?s16,?s17,?s18,?s19,?s20,?s21,trivial⟩
 case s3 =>
  intro h6 h0 K hK;rw[ha,h3];go_simp;refine hK.out _ _ ?_;refine⟨(.slice (some ⟨w.heap.size,0,none⟩) 1 1),x124,x129,x130,x134,x135,x136,x137,x138,vE,nE,xE,vP,nP,xP,vL,nL,xL,((w.heap.size,Obj.cells #[Value.slice (some ⟨gf,0,none⟩) n n] 22 (0,0))::ls),c3,c4,c5,(by rw[h3]),fun j hj=>zF (HR j hj),Kh (fun _=>⟨w.heap.size,rfl,List.Mem.head _⟩),(hs7N h8),(hs7P H4),Kh (fun h=>let ⟨g,h1,h2⟩:=H9.out (zG jd h);⟨g,h1,List.Mem.tail _ h2⟩),(hs7N h5),(hs7Q H6),Kh (fun h=>let ⟨g,h1,h2⟩:=H5.out (zG jd h);⟨g,h1,List.Mem.tail _ h2⟩),(hs7N h4),(hs7Q H2),(hs7P H1),(hs7P H0),(hs7P h9),(hs7N B3n),(hs7R B3),(hs7N B4n),(hs7R B4),(hs7N B5n),(hs7R B5),zD HB (Ga w (.cells #[Value.slice (some ⟨gf,0,none⟩) n n] 22) none),HM.alloc (.cells #[Value.slice (some ⟨gf,0,none⟩) n n] 22)⟩
 case s4 =>
  intro h6 h0 K hK;have DH3:=H3.out (zO (h0 ⟨3,.data⟩ yq rfl));obtain⟨g5,rfl,H7⟩:=DH3;obtain⟨rfl,rfl,rfl⟩:=h8.out h6;simp only[ha,h3,Act.put,sPa,sPb,sPc];refine tL (by simp[Region.wanted]) (.tmp 121) (.tmp 123) 27 rfl xT 0 g5 1 rfl HM rfl rfl rfl rfl ?g14 ?g24 ?g34 H7 rfl ?_
  case g14=>show m+1<=maxLen;unfold maxLen;omega
  case g24=>show (m+1)*24<=140737488355328;omega
  case g34=>exact a8
  intro sa sc w6 y1 h7;refine hK.out _ _ ?_;refine⟨(.slice (some ⟨g5,0,none⟩) 1 1),(.slice sa (m+1) sc),x129,x130,x134,x135,x136,x137,x138,(.slice sa (m+1) sc),(m+1),(l9++[Value.slice (some ⟨gf,0,none⟩) n n]),vP,nP,xP,vL,nL,xL,ls,c3,c4,c5,(by simp only[h3,Act.put,sPa,sPb,sPc]),fun j hj=>zF (HR j hj),Kh (fun _=>⟨g5,rfl,H7⟩),Kh (fun h=>yF h),Kh (fun _=>⟨sa,sc,rfl,rfl,rfl,rfl⟩),(hs7P H9),(hs7N h5),(hs7A H6 h6),(hs7P H5),(hs7N h4),(hs7Q H2),(hs7P H1),(hs7P H0),(hs7P h9),(hs7N B3n),(hs7A B3 h6),(hs7N B4n),(hs7R B4),(hs7N B5n),(hs7R B5),zD HB h7 (fun e=>HM.not_type HB (qU a9) 0 _ rfl e),y1⟩
 case s9 =>
  intro h6 h0 K hK;rw[ha,h3];go_simp;refine hK.out _ _ ?_;refine⟨x123,x124,(.slice (some ⟨w.heap.size,0,none⟩) 1 1),x130,x134,x135,x136,x137,x138,vE,nE,xE,vP,nP,xP,vL,nL,xL,((w.heap.size,Obj.cells #[Value.int .i64 (d:Int)] 3 (0,0))::ls),c3,c4,c5,(by rw[h3]),fun j hj=>zF (HR j hj),Kh (fun h=>let ⟨g,h1,h2⟩:=H3.out (zG jd h);⟨g,h1,List.Mem.tail _ h2⟩),(hs7N h8),(hs7P H4),Kh (fun _=>⟨w.heap.size,rfl,List.Mem.head _⟩),(hs7N h5),(hs7Q H6),Kh (fun h=>let ⟨g,h1,h2⟩:=H5.out (zG jd h);⟨g,h1,List.Mem.tail _ h2⟩),(hs7N h4),(hs7Q H2),(hs7P H1),(hs7P H0),(hs7P h9),(hs7N B3n),(hs7R B3),(hs7N B4n),(hs7R B4),(hs7N B5n),(hs7R B5),zD HB (Ga w (.cells #[Value.int .i64 (d:Int)] 3) none),HM.alloc (.cells #[Value.int .i64 (d:Int)] 3)⟩
 case s10 =>
  intro h6 h0 K hK;have DH9:=H9.out (zO (h0 ⟨9,.data⟩ yq rfl));obtain⟨g5,rfl,H7⟩:=DH9;obtain⟨rfl,rfl,rfl⟩:=h5.out h6;have y3:=zO (h0 ⟨4,.chain⟩ yq rfl);simp only[ha,h3,Act.put,sPa,sPb,sPc];refine tL (by simp[Region.wanted]) (.tmp 126) (.tmp 129) 22 rfl yJ 1 g5 1 rfl HM rfl rfl rfl rfl ?g110 ?g210 ?g310 H7 rfl ?_
  case g110=>show m+1<=maxLen;unfold maxLen;omega
  case g210=>show (m+1)*8<=140737488355328;omega
  case g310=>exact a8
  intro sa sc w6 y1 h7;refine hK.out _ _ ?_;refine⟨x123,x124,(.slice (some ⟨g5,0,none⟩) 1 1),(.slice sa (m+1) sc),x134,x135,x136,x137,x138,vE,nE,xE,(.slice sa (m+1) sc),(m+1),((ints pre)++[Value.int .i64 (d:Int)]),vL,nL,xL,ls,c3,c4,c5,(by simp only[h3,Act.put,sPa,sPb,sPc]),fun j hj=>zF (HR j hj),(hs7P H3),(hs7N h8),(hs7P H4),Kh (fun _=>⟨g5,rfl,H7⟩),Kh (fun h=>yF h),Kh (fun _=>⟨zF y3,sa,sc,rfl,rfl,rfl,rfl⟩),(hs7P H5),(hs7N h4),(hs7A H2 h6),(hs7P H1),(hs7P H0),(hs7P h9),(hs7N B3n),(hs7R B3),(hs7N B4n),(hs7A B4 h6),(hs7N B5n),(hs7R B5),zD HB h7 (fun e=>HM.not_type HB (qU a9) 1 _ rfl e),y1⟩
 case s14 =>
  intro h6 h0 K hK;rw[ha,h3];go_simp;refine hK.out _ _ ?_;refine⟨x123,x124,x129,x130,(.slice (some ⟨w.heap.size,0,none⟩) 1 1),x135,x136,x137,x138,vE,nE,xE,vP,nP,xP,vL,nL,xL,((w.heap.size,Obj.cells #[Value.int .i64 (x:Int)] 3 (0,0))::ls),c3,c4,c5,(by rw[h3]),fun j hj=>zF (HR j hj),Kh (fun h=>let ⟨g,h1,h2⟩:=H3.out (zG jd h);⟨g,h1,List.Mem.tail _ h2⟩),(hs7N h8),(hs7P H4),Kh (fun h=>let ⟨g,h1,h2⟩:=H9.out (zG jd h);⟨g,h1,List.Mem.tail _ h2⟩),(hs7N h5),(hs7Q H6),Kh (fun _=>⟨w.heap.size,rfl,List.Mem.head _⟩),(hs7N h4),(hs7Q H2),(hs7P H1),(hs7P H0),(hs7P h9),(hs7N B3n),(hs7R B3),(hs7N B4n),(hs7R B4),(hs7N B5n),(hs7R B5),zD HB (Ga w (.cells #[Value.int .i64 (x:Int)] 3) none),HM.alloc (.cells #[Value.int .i64 (x:Int)] 3)⟩
 case s15 =>
  intro h6 h0 K hK;have DH14:=H5.out (zO (h0 ⟨14,.data⟩ yq rfl));obtain⟨g5,rfl,H7⟩:=DH14;obtain⟨rfl,rfl,rfl⟩:=h4.out h6;have y3:=zO (h0 ⟨10,.chain⟩ yq rfl);simp only[ha,h3,Act.put,sPa,sPb,sPc];refine tL (by simp[Region.wanted]) (.tmp 132) (.tmp 134) 22 rfl yJ 2 g5 1 rfl HM rfl rfl rfl rfl ?g115 ?g215 ?g315 H7 rfl ?_
  case g115=>show m+1<=maxLen;unfold maxLen;omega
  case g215=>show (m+1)*8<=140737488355328;omega
  case g315=>exact a8
  intro sa sc w6 y1 h7;refine hK.out _ _ ?_;refine⟨x123,x124,x129,x130,(.slice (some ⟨g5,0,none⟩) 1 1),(.slice sa (m+1) sc),x136,x137,x138,vE,nE,xE,vP,nP,xP,(.slice sa (m+1) sc),(m+1),((ints k9)++[Value.int .i64 (x:Int)]),ls,c3,c4,c5,(by simp only[h3,Act.put,sPa,sPb,sPc]),fun j hj=>zF (HR j hj),(hs7P H3),(hs7N h8),(hs7P H4),(hs7P H9),(hs7N h5),(hs7Q H6),Kh (fun _=>⟨g5,rfl,H7⟩),Kh (fun h=>yF h),Kh (fun _=>⟨zF y3,sa,sc,rfl,rfl,rfl,rfl⟩),(hs7P H1),(hs7P H0),(hs7P h9),(hs7N B3n),(hs7B B3 h6),(hs7N B4n),(hs7R B4),(hs7N B5n),(hs7A B5 h6),zD HB h7 (fun e=>HM.not_type HB (qU a9) 2 _ rfl e),y1⟩
 case s16 =>
  intro h6 h0 K hK;rw[ha,h3];go_simp;refine hK.out _ _ ?_;refine⟨x123,x124,x129,x130,x134,x135,(.pointer (some ⟨o,3,none⟩)),x137,x138,vE,nE,xE,vP,nP,xP,vL,nL,xL,ls,c3,c4,c5,(by rw[h3]),fun j hj=>zF (HR j hj),(hs7P H3),(hs7N h8),(hs7P H4),(hs7P H9),(hs7N h5),(hs7Q H6),(hs7P H5),(hs7N h4),(hs7Q H2),Kh (fun _=>rfl),(hs7P H0),(hs7P h9),(hs7N B3n),(hs7R B3),(hs7N B4n),(hs7R B4),(hs7N B5n),(hs7R B5),HB,HM⟩
 case s17 =>
  intro h6 h0 K hK;have DH16:=H1.out (zO (h0 ⟨16,.data⟩ yq rfl));have DH4:=H4.out (zO (h0 ⟨4,.data⟩ yq rfl));subst DH16;obtain⟨sa,sc,rfl,rfl,rfl,rfl⟩:=DH4;have y0:=zO (h0 ⟨4,.data⟩ yq rfl);rw[ha,h3];obtain⟨k0,k1,k2,k3,k4,k5,k6,k7,k8⟩:=yD HB;have kf:=zB HB 3;go_simp;have h7:=zH w ⟨o,3,none⟩ (.slice sa (m+1) sc);have H8:=heap_setCell_same w o 3 _ _ (.slice sa (m+1) sc) HB;refine hK.out _ _ ?_;refine⟨x123,(.slice sa (m+1) sc),x129,x130,x134,x135,(.pointer (some ⟨o,3,none⟩)),x137,x138,(.slice sa (m+1) sc),(m+1),(l9++[Value.slice (some ⟨gf,0,none⟩) n n]),vP,nP,xP,vL,nL,xL,ls,(.slice sa (m+1) sc),c4,c5,(by rw[h3]),fun j hj=>zF (HR j hj),(hs7P H3),Kh (fun h=>absurd (zF y0) (by rw[h];simp)),Kh (fun _=>⟨sa,sc,rfl,rfl,rfl,rfl⟩),(hs7P H9),(hs7N h5),(hs7Q H6),(hs7P H5),(hs7N h4),(hs7Q H2),Kh (fun _=>rfl),(hs7P H0),(hs7P h9),Kh (fun h=>yF h),Kh (fun _=>⟨zF (zO (h0 ⟨4,.data⟩ yq rfl)),zF (zO (h0 ⟨15,.chain⟩ yq rfl)),rfl⟩),(hs7N B4n),(hs7B B4 h6),(hs7N B5n),(hs7R B5),(by simpa using H8),HM.far h7 l7 l8 (HM.not_type HB (qU a9))⟩
 case s18 =>
  intro h6 h0 K hK;rw[ha,h3];go_simp;refine hK.out _ _ ?_;refine⟨x123,x124,x129,x130,x134,x135,x136,(.pointer (some ⟨o,4,none⟩)),x138,vE,nE,xE,vP,nP,xP,vL,nL,xL,ls,c3,c4,c5,(by rw[h3]),fun j hj=>zF (HR j hj),(hs7P H3),(hs7N h8),(hs7P H4),(hs7P H9),(hs7N h5),(hs7Q H6),(hs7P H5),(hs7N h4),(hs7Q H2),(hs7P H1),Kh (fun _=>rfl),(hs7P h9),(hs7N B3n),(hs7R B3),(hs7N B4n),(hs7R B4),(hs7N B5n),(hs7R B5),HB,HM⟩
 case s19 =>
  intro h6 h0 K hK;have DH18:=H0.out (zO (h0 ⟨18,.data⟩ yq rfl));have DH10:=H6.out (zO (h0 ⟨10,.data⟩ yq rfl));subst DH18;obtain⟨y2,sa,sc,rfl,rfl,rfl,rfl⟩:=DH10;have y0:=zO (h0 ⟨10,.data⟩ yq rfl);rw[ha,h3];obtain⟨k0,k1,k2,k3,k4,k5,k6,k7,k8⟩:=yD HB;have kf:=zB HB 4;go_simp;have h7:=zH w ⟨o,4,none⟩ (.slice sa (m+1) sc);have H8:=heap_setCell_same w o 4 _ _ (.slice sa (m+1) sc) HB;refine hK.out _ _ ?_;refine⟨x123,x124,x129,(.slice sa (m+1) sc),x134,x135,x136,(.pointer (some ⟨o,4,none⟩)),x138,vE,nE,xE,(.slice sa (m+1) sc),(m+1),(ints pre++[Value.int .i64 (d:Int)]),vL,nL,xL,ls,c3,(.slice sa (m+1) sc),c5,(by rw[h3]),fun j hj=>zF (HR j hj),(hs7P H3),(hs7N h8),(hs7P H4),(hs7P H9),Kh (fun h=>absurd (zF y0) (by rw[h];simp)),Kh (fun _=>⟨zF y2,sa,sc,rfl,rfl,rfl,rfl⟩),(hs7P H5),(hs7N h4),(hs7Q H2),(hs7P H1),Kh (fun _=>rfl),(hs7P h9),(hs7N B3n),(hs7R B3),Kh (fun h=>yF h),Kh (fun _=>⟨zF (zO (h0 ⟨10,.data⟩ yq rfl)),zF (zO (h0 ⟨17,.chain⟩ yq rfl)),rfl⟩),(hs7N B5n),(hs7B B5 h6),(by simpa using H8),HM.far h7 l7 l8 (HM.not_type HB (qU a9))⟩
 case s20 =>
  intro h6 h0 K hK;rw[ha,h3];go_simp;refine hK.out _ _ ?_;refine⟨x123,x124,x129,x130,x134,x135,x136,x137,(.pointer (some ⟨o,5,none⟩)),vE,nE,xE,vP,nP,xP,vL,nL,xL,ls,c3,c4,c5,(by rw[h3]),fun j hj=>zF (HR j hj),(hs7P H3),(hs7N h8),(hs7P H4),(hs7P H9),(hs7N h5),(hs7Q H6),(hs7P H5),(hs7N h4),(hs7Q H2),(hs7P H1),(hs7P H0),Kh (fun _=>rfl),(hs7N B3n),(hs7R B3),(hs7N B4n),(hs7R B4),(hs7N B5n),(hs7R B5),HB,HM⟩
 case s21 =>
  intro h6 h0 K hK;have DH20:=h9.out (zO (h0 ⟨20,.data⟩ yq rfl));have DH15:=H2.out (zO (h0 ⟨15,.data⟩ yq rfl));subst DH20;obtain⟨y2,sa,sc,rfl,rfl,rfl,rfl⟩:=DH15;have y0:=zO (h0 ⟨15,.data⟩ yq rfl);rw[ha,h3];obtain⟨k0,k1,k2,k3,k4,k5,k6,k7,k8⟩:=yD HB;have kf:=zB HB 5;go_simp;have h7:=zH w ⟨o,5,none⟩ (.slice sa (m+1) sc);have H8:=heap_setCell_same w o 5 _ _ (.slice sa (m+1) sc) HB;refine hK.out _ _ ?_;refine⟨x123,x124,x129,x130,x134,(.slice sa (m+1) sc),x136,x137,(.pointer (some ⟨o,5,none⟩)),vE,nE,xE,vP,nP,xP,(.slice sa (m+1) sc),(m+1),(ints k9++[Value.int .i64 (x:Int)]),ls,c3,c4,(.slice sa (m+1) sc),(by rw[h3]),fun j hj=>zF (HR j hj),(hs7P H3),(hs7N h8),(hs7P H4),(hs7P H9),(hs7N h5),(hs7Q H6),(hs7P H5),Kh (fun h=>absurd (zF y0) (by rw[h];simp)),Kh (fun _=>⟨zF y2,sa,sc,rfl,rfl,rfl,rfl⟩),(hs7P H1),(hs7P H0),Kh (fun _=>rfl),(hs7N B3n),(hs7R B3),(hs7N B4n),(hs7R B4),Kh (fun h=>yF h),Kh (fun _=>⟨zF (zO (h0 ⟨15,.data⟩ yq rfl)),zF (zO (h0 ⟨19,.chain⟩ yq rfl)),rfl⟩),(by simpa using H8),HM.far h7 l7 l8 (HM.not_type HB (qU a9))⟩
 all_goals exact hs7Z (qNA HH _ yq)
open Go.Maps
theorem mI:Tryz.prog.underlying 112=some (.map 9 3):=yk
theorem mA:Tryz.prog.underlying 9=some .string:=yk
theorem iP:Keyed Tryz.prog 9:=string_keyed mA
def tK (w:World)(b n:Nat):Prop:=∃D:DataW Unit,w.ownsMap Tryz.prog 9 (plainElem Tryz.prog 3) b n D
theorem tK.made (w:World):tK (w.alloc (.map #[] 0)) w.heap.size 0:=⟨.map [],World.ownsMap_made _ _ _ _⟩
theorem tK.kept {w':World}{row:Option Nat}(h:tK w b n)(hg:w.grownBy w' row)(a9:row≠some b):tK w' b n:=by
 obtain⟨D,h1⟩:=h;exact⟨D,h1.kept hg (fun e=>a9 e.symm)⟩
theorem tK.lt (h:tK w b n):b<w.heap.size:=by
 obtain⟨D,h1⟩:=h;exact h1.lt
theorem tK.lookup (h:tK w b n){s:ByteArray}(hs:s.size<=maxLen):∃(c:Int) (ok:Bool),(Instr.lookup 112 (.map (some b)) (.string s) true).run Tryz.prog w=.ok (.tuple #[.int .i64 c,.bool ok]) w:=by
 obtain⟨D,h1⟩:=h;obtain⟨v,ps,h0,hv⟩:=h1.look_ok iP mI (gU w) (plainElem_int tT jd) (Go.WideMaps.keyOf_string_mk mA hs);obtain⟨c,rfl,hc,_⟩:=plainElem_int_inv tT hv;exact⟨c,_,h0⟩
theorem fL {ops:Array Oper}{a9:List Oper}{o:Oper}{Q:Exit->Act->World->Prop}(hg:o.guard=none)(m x v:Operand)(a8:o.op=Op.mapUpdate 112 m x v)(b n:Nat)(s:ByteArray)(z:Int)(hm:a.eval m=.map (some b))(hx:a.eval x=.string s)(hv:a.eval v=.int .i64 z)(h:tK w b n)(hn:n<maxLen)(hs:s.size<=maxLen)(hz:Mid z)(hK:∀w',tK w' b (n+1)->w.grownBy w' (some b)->wpList Tryz.prog ops Q a9 (a.put o.dst undef) w'):wpList Tryz.prog ops Q (o::a9) a w:=by
 obtain⟨D,h1⟩:=h;obtain⟨w',h0,h2,h3⟩:=h1.update iP mI hn (Go.WideMaps.keyOf_string_mk mA hs) (plainElem_int tT (cK (x:=z) hz));refine wpList_plain hg fun K' hK'=>?_;unfold Oper.wp;simp[execOp,a8,hm,hx,hv,h0,Result.andThen];exact hK' _ _ (hK w' ⟨_,h2⟩ h3)
end Go.Proofs.YtiknckajkdlppaaGreat
namespace Go.Proofs.YtiknckajkdlppaaGreat
open Go.RowKit
variable{W w':World}{sz e b x i lb:Nat}{v:Value}{xs:List Value}{s:ByteArray}
theorem fD {w:World}{m:Nat}(h:tM w sz v m xs)(hg:w.grownBy W none):tM W sz v m xs:=by
 rcases h with h|⟨b,off,cap,h1,h2,h3,h4⟩
 ·exact .inl h
 exact .inr ⟨b,off,cap,h1,h2,h3,fun j u hj=>zN (h4 j u hj) hg⟩
theorem lQ {w:World}(h:GrownBut w W (fun _=>False)):w.grownBy W none:=h.grown (zX w none) (fun k hk=>hk.elim)
theorem tK.ne_own {w:World}{mb q base n:Nat}(h:tK w mb q)(ho:w.ownsRow base e sz v n xs):v.ownBlock≠some mb:=by
 obtain⟨D,es,clock,hb,_⟩:=h;rcases ho.2 with ⟨hv,_⟩|⟨g,cap,cur,hv,_,hg,_⟩
 ·rw[hv];simp[Value.ownBlock]
 rw[hv];intro e;have e:g=mb:=by simpa [Value.ownBlock] using e
 subst e;rw[hb]at hg;simp at hg
theorem tK.ne_cells {w:World}{mb q:Nat}{c:Array Value}{m:Nat×Nat}(h:tK w mb q)(hb:w.heap[b]?=some (.cells c e m)):b≠mb:=by
 obtain⟨D,es,clock,hm,_⟩:=h;intro e;subst e;rw[hm]at hb;simp at hb
theorem EMem.appLast {X:Nat->Prop}{W':World}{rows:List RowS}{r r':RowS}(h:EMem X W (rows++[r]))(hg:W.grownBy W' r.v.ownBlock)(ho:W'.ownsRow r'.base r'.e r'.sz r'.v r'.n r'.xs)(hm:nW W W' r.v r'.v):EMem X W' (rows++[r']):=by
 obtain⟨h2,h3,h1⟩:=List.pairwise_append.1 h.apart
 have h0:∀k,r'.v.ownBlock=some k->r.v.ownBlock=some k\/W.heap.size<=k:=fun k hk=>by
  rcases hm with hm|⟨_,hm⟩
  ·exact .inl (by rw[<-hm];exact hk)
  exact .inr (hm k hk)
 refine⟨fun s hs=>?_,?_,fun s hs k hk hx=>?_,fun k hk=>Nat.lt_of_lt_of_le (h.lt k hk) hg.size⟩
 ·rcases List.mem_append.1 hs with hs|hs
  ·refine(h.own s (List.mem_append_left _ hs)).kept hg ?_
   rcases hb:s.v.ownBlock with _|k
   ·exact .inl rfl
   exact .inr (fun e=>h1 s hs r yq k hb e.symm)
  rw[List.mem_singleton]at hs;subst hs;exact ho
 ·rw[List.pairwise_append]
  refine⟨h2,yq,fun s hs t ht k hk e=>?_⟩;rw[List.mem_singleton]at ht;subst ht;rcases h0 k e with e2|e2
  ·exact h1 s hs r yq k hk e2
  have:=((h.own s (List.mem_append_left _ hs)).lt k hk).2;omega
 rcases List.mem_append.1 hs with hs|hs
 ·exact h.offX s (List.mem_append_left _ hs) k hk hx
 rw[List.mem_singleton]at hs;subst hs;rcases h0 k hk with e2|e2
 ·exact h.offX r yq k e2 hx
 have:=h.lt k hx;omega
def xG (l:List ByteArray):List Value:=l.map .string
inductive WordsS (X:Nat->Prop)(w0:World)(P o mb:Nat)(rows:List RowS)(box:Array Value)(m q:Nat)(sW:Option Addr)(cW:Nat)(w:World):Prop
 | mk (ws:List ByteArray) (hl:ws.length=q) (hsz:∀i,(ws.getD i ⟨#[]⟩).size<=i) (hM:EMem X w (rows++[⟨P,9,.slice sW q cW,q,xG ws,1⟩])) (hMap:tK w mb q) (hB:w.heap[o]?=some (.cells box 75 (0,0)))
  (hBP:w.heap[P+1]?=some (.cells #[.int .i64 0,.bool false,.slice none 0 0,.slice none 0 0,.slice none 0 0,.slice none 0 0,.slice none 0 0,.slice none 0 0,.int .i64 0] 75 (0,0))) (hX:wG X w0 w) (hg:w0.grownBy w none)
def eX (gs:List (List Nat))(d x:Nat)(s:List (List Nat)×List Int×List Int×List Nat):List (List Nat)×List Int×List Int×List Nat :=
 if vH (s.1.getD d []) (gs.getD x [])∈s.1 then (s.1,s.2.1,s.2.2.1,s.2.2.2++[s.1.idxOf (vH (s.1.getD d []) (gs.getD x []))])
 else (s.1++[vH (s.1.getD d []) (gs.getD x [])],s.2.1++[(d:Int)],s.2.2.1++[(x:Int)],s.2.2.2++[s.1.length])
def rW (gs:List (List Nat))(d:Nat)(s:List (List Nat)×List Int×List Int):Nat->List (List Nat)×List Int×List Int×List Nat
 | 0=>(s.1,s.2.1,s.2.2,[])
 | x+1=>eX gs d x (rW gs d s x)
def wO (gs:List (List Nat))(s:List (List Nat)×List Int×List Int):Nat->(List (List Nat)×List Int×List Int)×List (List Nat)
 | 0=>(s,[])
 | d+1=>(((rW gs d (wO gs s d).1 gs.length).1,(rW gs d (wO gs s d).1 gs.length).2.1,(rW gs d (wO gs s d).1 gs.length).2.2.1),(wO gs s d).2++[(rW gs d (wO gs s d).1 gs.length).2.2.2])
inductive ProcS (w0:World)(P o mb n:Nat)(gA:Option Addr)(gN gC:Nat)(gs els:List (List Nat))(pre las:List Int)(right:List (List Nat))(m d ub:Nat)(sW:Option Addr)(cW:Nat)(tl:List RowS)(w:World):Prop
 | mk (X:Nat->Prop) (u:Nat) (us hsE hsR:List Value) (ws:List ByteArray) (sE:Option Addr) (cE:Nat) (sP:Option Addr) (cP:Nat) (sL:Option Addr) (cL:Nat) (sR:Option Addr) (cR:Nat) (sU:Option Addr) (cU:Nat)
  (hl:els.length=m) (hpl:pre.length=m) (hll:las.length=m) (hrl:right.length=d) (hit:∀f∈els,IsT n f) (hu:u<=ub) (hwl:ws.length=m) (hwz:∀i,(ws.getD i ⟨#[]⟩).size<=i)
  (hM:EMem X w ([⟨P,22,.slice sE m cE,m,hsE,1⟩,⟨P,3,.slice sP m cP,m,ints pre,1⟩,⟨P,3,.slice sL m cL,m,ints las,1⟩,⟨P,22,.slice sR d cR,d,hsR,1⟩,⟨P,111,.slice sU u cU,u,us,2⟩,⟨P,9,.slice sW m cW,m,xG ws,1⟩]++tl))
  (hE:xX X 3 nats w hsE els) (hR:xX X 3 nats w hsR right) (hG:TX X w (.slice gA gN gC) gs) (hX:¬X o/\¬X (P+1)/\¬X mb) (hMap:tK w mb m)
  (hB:w.heap[o]?=some (.cells #[.int .i64 n,.bool true,.slice gA gN gC,.slice sE m cE,.slice sP m cP,.slice sL m cL,.slice sR d cR,.slice sU u cU,.int .i64 d] 75 (0,0)))
  (hBP:w.heap[P+1]?=some (.cells #[.int .i64 0,.bool false,.slice none 0 0,.slice none 0 0,.slice none 0 0,.slice none 0 0,.slice none 0 0,.slice none 0 0,.int .i64 0] 75 (0,0))) (hg:w0.grownBy w none)
def nM (gs:List (List Nat))(s:List (List Nat)×List Int×List Int)(n:Nat):Prop:=∃d x,d<(wO gs s d).1.1.length/\x<=gs.length/\(rW gs d (wO gs s d).1 x).1.length=2000/\∀f∈(rW gs d (wO gs s d).1 x).1,IsT n f
def qQD (gs els:List (List Nat))(pre las:List Int)(n bd:Nat)(gv:Value)(w:World)(e:Ending)(w':World):Prop :=
 (e=.returned (.tuple #[.agg #[.int .i64 0,.bool false,.slice none 0 0,.slice none 0 0,.slice none 0 0,.slice none 0 0,.slice none 0 0,.slice none 0 0,.int .i64 0],.int .i64 3])/\nM gs (els,pre,las) n/\w.grownBy w' none) \/
 ∃(X:Nat->Prop) (el:List (List Nat)) (pr la:List Int) (ri:List (List Nat)) (m d u:Nat) (us hsE hsR:List Value) (sE:Option Addr) (cE:Nat) (sP:Option Addr) (cP:Nat) (sL:Option Addr) (cL:Nat) (sR:Option Addr) (cR:Nat) (sU:Option Addr) (cU:Nat),
  e=.returned (.tuple #[.agg #[.int .i64 n,.bool true,gv,.slice sE m cE,.slice sP m cP,.slice sL m cL,.slice sR d cR,.slice sU u cU,.int .i64 d],.int .i64 0])/\wO gs (els,pre,las) d=((el,pr,la),ri)/\(d=m\/d=bd)/\m<=2000/\d<=m/\el.length=m/\pr.length=m/\la.length=m/\ri.length=d/\(∀f∈el,IsT n f) /\
  EMem X w' [⟨w.heap.size,22,.slice sE m cE,m,hsE,1⟩,⟨w.heap.size,3,.slice sP m cP,m,ints pr,1⟩,⟨w.heap.size,3,.slice sL m cL,m,ints la,1⟩,⟨w.heap.size,22,.slice sR d cR,d,hsR,1⟩,⟨w.heap.size,111,.slice sU u cU,u,us,2⟩]/\xX X 3 nats w' hsE el/\xX X 3 nats w' hsR ri/\TX X w' gv gs/\w.grownBy w' none
theorem bD (ws:List ByteArray)(s:ByteArray):xG (ws++[s])=xG ws++[.string s]:=by simp[xG]
theorem dG {ws:List ByteArray}{q:Nat}(hl:ws.length=q)(hz:∀i,(ws.getD i ⟨#[]⟩).size<=i)(hs:s.size<=q)(i:Nat):((ws++[s]).getD i ⟨#[]⟩).size<=i:=by
 rcases Nat.lt_or_ge i q with h|h
 ·rw[List.getD_eq_getElem?_getD,List.getElem?_append_left (by rw[hl];exact h),<-List.getD_eq_getElem?_getD]
  exact hz i
 rcases Nat.eq_or_lt_of_le h with e|h
 ·subst e
  rw[List.getD_eq_getElem?_getD,List.getElem?_append_right (by rw[hl];exact Nat.le_refl _),hl];simpa using hs
 rw[List.getD_eq_getElem?_getD,List.getElem?_eq_none (by simp[hl];omega)];simp[ByteArray.size]
inductive MidS (w0:World)(P o mb n:Nat)(gA:Option Addr)(gN gC:Nat)(gs els:List (List Nat))(pre las:List Int)(right:List (List Nat))(m q c d ub:Nat)(sW:Option Addr)(cW:Nat)(tl:List RowS)(w:World):Prop
 | mk (X:Nat->Prop) (u:Nat) (us hsE hsR:List Value) (ws:List ByteArray) (sE:Option Addr) (cE:Nat) (sP:Option Addr) (cP:Nat) (sL:Option Addr) (cL:Nat) (sR:Option Addr) (cR:Nat) (sU:Option Addr) (cU:Nat)
  (hl:els.length=m) (hpl:pre.length=m) (hll:las.length=m) (hrl:right.length=d) (hit:∀f∈els,IsT n f) (hu:u<=ub) (hwl:ws.length=q) (hwz:∀i,(ws.getD i ⟨#[]⟩).size<=i)
  (hM:EMem X w ([⟨P,22,.slice sE m cE,m,hsE,1⟩,⟨P,3,.slice sP m cP,m,ints pre,1⟩,⟨P,3,.slice sL m cL,m,ints las,1⟩,⟨P,22,.slice sR d cR,d,hsR,1⟩,⟨P,111,.slice sU u cU,u,us,2⟩,⟨P,9,.slice sW q cW,q,xG ws,1⟩]++tl))
  (hE:xX X 3 nats w hsE els) (hR:xX X 3 nats w hsR right) (hG:TX X w (.slice gA gN gC) gs) (hX:¬X o/\¬X (P+1)/\¬X mb) (hMap:tK w mb c)
  (hB:w.heap[o]?=some (.cells #[.int .i64 n,.bool true,.slice gA gN gC,.slice sE m cE,.slice sP m cP,.slice sL m cL,.slice sR d cR,.slice sU u cU,.int .i64 d] 75 (0,0)))
  (hBP:w.heap[P+1]?=some (.cells #[.int .i64 0,.bool false,.slice none 0 0,.slice none 0 0,.slice none 0 0,.slice none 0 0,.slice none 0 0,.slice none 0 0,.int .i64 0] 75 (0,0))) (hg:w0.grownBy w none)
section
variable {w0 w:World} {P o mb n gN gC m q c d ub cW:Nat} {gA sW:Option Addr} {gs els right:List (List Nat)} {pre las:List Int} {tl:List RowS}
theorem MidS.app (h:MidS w0 P o mb n gA gN gC gs els pre las right m q c d ub sW cW tl w)(a9:w0.heap.size<=P):∃ws,w.ownsRow P 9 1 (.slice sW q cW) q (xG ws)/\∀(s:ByteArray) (sW':Option Addr) (cW':Nat) (w':World),s.size<=q->w'.ownsRow P 9 1 (.slice sW' (q+1) cW') (q+1) (xG ws++[.string s])->w.grownBy w' (Value.slice sW q cW).ownBlock->nW w w' (.slice sW q cW) (.slice sW' (q+1) cW')->MidS w0 P o mb n gA gN gC gs els pre las right m (q+1) c d ub sW' cW' tl w':=by
 obtain⟨X,u,us,h5,h4,ws,sE,cE,sP,cP,sL,cL,sR,cR,sU,cU,hl,h7,h8,h6,h9,hu,h1,h3,hM,hE,hR,hG,hX,h0,hB,h2,hg⟩:=h;have ho:w.ownsRow P 9 1 (.slice sW q cW) q (xG ws):=hM.own ⟨P,9,.slice sW q cW,q,xG ws,1⟩ yq;refine⟨ws,ho,fun s sW' cW' w' hs ho' hg' hm'=>?_⟩;have k:=wG.of_grown hM.lt hg' (fun j e hx=>hM.offX ⟨P,9,.slice sW q cW,q,xG ws,1⟩ yq j e hx);refine .mk X u us h5 h4 (ws++[s]) sE cE sP cP sL cL sR cR sU cU hl h7 h8 h6 h9 hu (by simp[h1]) (dG h1 h3 hs) ?_ (hE.kept k hg'.size) (hR.kept k hg'.size) (hG.kept k hg'.size) hX (h0.kept hg' (h0.ne_own ho)) (zD hB hg' (zR ho hB jd)) (zD h2 hg' (zR ho h2 jd)) (zE hg hg' (fun j e=>by have:=(ho.lt j e).1;omega));rw[bD];exact hM.appAt (j:=5) rfl (us:=[.string s]) ho' hg' hm'
theorem MidS.put (h:MidS w0 P o mb n gA gN gC gs els pre las right m q c d ub sW cW tl w)(a9:w0.heap.size<=mb):tK w mb c/\∀w',tK w' mb (c+1)->w.grownBy w' (some mb)->q=m->c+1=m->ProcS w0 P o mb n gA gN gC gs els pre las right m d ub sW cW tl w':=by
 obtain⟨X,u,us,h5,h4,ws,sE,cE,sP,cP,sL,cL,sR,cR,sU,cU,hl,h7,h8,h6,h9,hu,h3,h2,hM,hE,hR,hG,hX,h0,hB,h1,hg⟩:=h;refine⟨h0,fun w' hMap' hg' e1 e2=>?_⟩;subst e1;subst e2;have k:=wG.of_grown hM.lt hg' (fun j e hx=>by have e:mb=j:=Oj e;subst e;exact hX.2.2 hx);exact .mk X u us h5 h4 ws sE cE sP cP sL cL sR cR sU cU hl h7 h8 h6 h9 hu h3 h2 (hM.far hg' (fun r hr=>h0.ne_own (hM.own r hr))) (hE.kept k hg'.size) (hR.kept k hg'.size) (hG.kept k hg'.size) hX hMap' (zD hB hg' (fun e=>h0.ne_cells hB (Oj e).symm)) (zD h1 hg' (fun e=>h0.ne_cells h1 (Oj e).symm)) (yM hg hg' (by show _<=mb;omega))
theorem ProcS.row {sr:Option Addr}{cr:Nat}{ro:List Nat}(h:ProcS w0 P o mb n gA gN gC gs els pre las right m d ub sW cW [⟨P,3,.slice sr x cr,x,nats ro,1⟩] w)(a9:w0.heap.size<=P):w.ownsRow P 3 1 (.slice sr x cr) x (nats ro)/\∀(i:Nat) (sr':Option Addr) (cr':Nat) (w':World),w'.ownsRow P 3 1 (.slice sr' (x+1) cr') (x+1) (nats ro++[.int .i64 (i:Int)])->w.grownBy w' (Value.slice sr x cr).ownBlock->nW w w' (.slice sr x cr) (.slice sr' (x+1) cr')->ProcS w0 P o mb n gA gN gC gs els pre las right m d ub sW cW [⟨P,3,.slice sr' (x+1) cr',x+1,nats (ro++[i]),1⟩] w':=by
 obtain⟨X,u,us,h5,h4,ws,sE,cE,sP,cP,sL,cL,sR,cR,sU,cU,hl,h7,h8,h6,h9,hu,h3,h2,hM,hE,hR,hG,hX,h0,hB,h1,hg⟩:=h;have ho:w.ownsRow P 3 1 (.slice sr x cr) x (nats ro):=hM.own ⟨P,3,.slice sr x cr,x,nats ro,1⟩ yq;refine⟨ho,fun i sr' cr' w' ho' hg' hm'=>?_⟩;have k:=wG.of_grown hM.lt hg' (fun j e hx=>hM.offX ⟨P,3,.slice sr x cr,x,nats ro,1⟩ yq j e hx);refine .mk X u us h5 h4 ws sE cE sP cP sL cL sR cR sU cU hl h7 h8 h6 h9 hu h3 h2 ?_ (hE.kept k hg'.size) (hR.kept k hg'.size) (hG.kept k hg'.size) hX (h0.kept hg' (h0.ne_own ho)) (zD hB hg' (zR ho hB jd)) (zD h1 hg' (zR ho h1 jd)) (zE hg hg' (fun j e=>by have:=(ho.lt j e).1;omega));rw[show nats (ro++[i])=nats ro++[.int .i64 (i:Int)] by simp[nats]];exact hM.appAt (j:=6) rfl (us:=[.int .i64 (i:Int)]) ho' hg' hm'
theorem ProcS.more {a9:Nat}(h:ProcS w0 P o mb n gA gN gC gs els pre las right m d ub sW cW tl w)(a8:ub<=a9):ProcS w0 P o mb n gA gN gC gs els pre las right m d a9 sW cW tl w:=by
 obtain⟨X,u,us,h4,h3,ws,sE,cE,sP,cP,sL,cL,sR,cR,sU,cU,hl,h6,h7,h5,h8,hu,h2,h1,hM,hE,hR,hG,hX,h0,hB,h9,hg⟩:=h;exact .mk X u us h4 h3 ws sE cE sP cP sL cL sR cR sU cU hl h6 h7 h5 h8 (Nat.le_trans hu a8) h2 h1 hM hE hR hG hX h0 hB h9 hg
theorem ProcS.grow (h:ProcS w0 P o mb n gA gN gC gs els pre las right m d ub sW cW tl w)(a9:w.grownBy w' none):ProcS w0 P o mb n gA gN gC gs els pre las right m d ub sW cW tl w':=by
 obtain⟨X,u,us,h4,h3,ws,sE,cE,sP,cP,sL,cL,sR,cR,sU,cU,hl,h6,h7,h5,h8,hu,h2,h1,hM,hE,hR,hG,hX,h0,hB,h9,hg⟩:=h;have k:=hM.keep a9;exact .mk X u us h4 h3 ws sE cE sP cP sL cL sR cR sU cU hl h6 h7 h5 h8 hu h2 h1 (hM.grow a9) (hE.kept k a9.size) (hR.kept k a9.size) (hG.kept k a9.size) hX (h0.kept a9 yq) (zD hB a9) (zD h9 a9) (zE hg a9)
theorem tK.same {w:World}{q:Nat}(h:tK w b q)(e:w'.heap[b]?=w.heap[b]?):tK w' b q:=by
 obtain⟨D,es,clock,hb,h2⟩:=h;exact⟨D,es,clock,e.trans hb,h2⟩
theorem ProcS.new24 {w4:World}{gf:Nat}{f:List Nat}(h:ProcS w0 P o mb n gA gN gC gs els pre las right m d ub sW cW tl w)(a2:w0.heap.size<=P)(a3:P+1<o)(a9:w.grownBy w4 none)(a5:w.heap.size<=gf)(a7:Arr w4 gf 3 (nats f))(a8:f.length=n)(hn:n<=maxLen)(a4:IsT n f)(a6:∀r∈tl,r.base=P/\r.e≠75):∃(FF:Nat->Prop) (u:Nat) (hsE:List Value) (rest:List RowS) (sE:Option Addr) (cE:Nat) (sP:Option Addr) (cP:Nat) (sL:Option Addr) (cL:Nat) (sR:Option Addr) (cR:Nat) (sU:Option Addr) (cU:Nat),FF o/\P<=w4.heap.size/\o<w4.heap.size/\(∀r∈rest,r.e≠75)/\w4.heap[o]?=some (.cells #[.int .i64 n,.bool true,.slice gA gN gC,.slice sE m cE,.slice sP m cP,.slice sL m cL,.slice sR d cR,.slice sU u cU,.int .i64 d] 75 (0,0))/\Many w4 FF w4 (⟨P,22,.slice sE m cE,m,hsE,1⟩::⟨P,3,.slice sP m cP,m,ints pre,1⟩::⟨P,3,.slice sL m cL,m,ints las,1⟩::rest) [] []/\∀(w6:World) (s1:Option Addr) (c1:Nat) (s2:Option Addr) (c2:Nat) (s3:Option Addr) (c3:Nat) (ls:List (Nat×Obj)),Many w4 FF w6 (⟨P,22,.slice s1 (m+1) c1,m+1,hsE++[.slice (some ⟨gf,0,none⟩) n n],1⟩::⟨P,3,.slice s2 (m+1) c2,m+1,ints pre++[.int .i64 (d:Int)],1⟩::⟨P,3,.slice s3 (m+1) c3,m+1,ints las++[.int .i64 (x:Int)],1⟩::rest) ls []->w6.heap[o]?=some (.cells #[.int .i64 n,.bool true,.slice gA gN gC,.slice s1 (m+1) c1,.slice s2 (m+1) c2,.slice s3 (m+1) c3,.slice sR d cR,.slice sU u cU,.int .i64 d] 75 (0,0))->MidS w0 P o mb n gA gN gC gs (els++[f]) (pre++[(d:Int)]) (las++[(x:Int)]) right (m+1) m m d ub sW cW tl w6:=by
 obtain⟨X,u,us,hsE,h8,ws,sE,cE,sP,cP,sL,cL,sR,cR,sU,cU,hl,b0,b3,a0,b4,hu,H9,H8,hM,hE,hR,hG,hX,h7,hB,H7,hg⟩:=h;have h5:=hM.fresh (W':=w4) a9 (Y:=fun j=>j=gf) (fun k e=>by subst e;exact⟨a5,a7.lt⟩);have k4:=hM.keep a9;have H0:=zD hB a9;have h4:=zD H7 a9;have h0:=h7.kept a9 yq;have b1:=zS H0;have H5:¬(X o\/o=gf):=fun h=>h.elim hX.1 (fun e=>by have:=zS hB;omega);have b6:¬(X (P+1)\/P+1=gf):=fun h=>h.elim hX.2.1 (fun e=>by have:=zS H7;omega);have b7:¬(X mb\/mb=gf):=fun h=>h.elim hX.2.2 (fun e=>by have:=h7.lt;omega)
 have H1:∀r∈([⟨P,22,.slice sE m cE,m,hsE,1⟩,⟨P,3,.slice sP m cP,m,ints pre,1⟩,⟨P,3,.slice sL m cL,m,ints las,1⟩,⟨P,22,.slice sR d cR,d,h8,1⟩,⟨P,111,.slice sU u cU,u,us,2⟩,⟨P,9,.slice sW m cW,m,xG ws,1⟩]++tl),r.base=P/\r.e≠75:=by
  intro r hr;rcases List.mem_append.1 hr with hr|hr
  ·simp only[List.mem_cons,List.not_mem_nil,or_false]at hr
   rcases hr with rfl|rfl|rfl|rfl|rfl|rfl<;>simp
  exact a6 r hr
 obtain⟨rows,h1⟩:=Nm ([⟨P,22,.slice sE m cE,m,hsE,1⟩,⟨P,3,.slice sP m cP,m,ints pre,1⟩,⟨P,3,.slice sL m cL,m,ints las,1⟩,⟨P,22,.slice sR d cR,d,h8,1⟩,⟨P,111,.slice sU u cU,u,us,2⟩,⟨P,9,.slice sW m cW,m,xG ws,1⟩]++tl:List RowS);rw[<-h1]at h5 H1
 have h9:∀k,qE rows k->w0.heap.size<=k/\k≠o/\k≠P+1/\k≠mb/\¬(X k\/k=gf):=by
  intro k hk;obtain⟨r,hr,hk⟩:=hk;have h2:=h5.own r hr;have H2:=H1 r hr;refine⟨?_,fun e=>?_,fun e=>?_,fun e=>?_,h5.offX r hr k hk⟩
  ·have:=(h2.lt k hk).1
   rw[H2.1]at this;omega
  ·subst e;exact zR h2 H0 H2.2 hk
  ·subst e;exact zR h2 h4 H2.2 hk
  subst e;exact h0.ne_own h2 hk
 have b2:mb≠o:=fun e=>h0.ne_cells H0 e.symm;have H6:∀k,(qE rows k\/k=o)->¬(X k\/k=gf):=fun k hk=>hk.elim (fun h=>(h9 k h).2.2.2.2) (fun e=>by subst e;exact H5);refine⟨fun k=>qE rows k\/k=o,u,hsE,[⟨P,22,.slice sR d cR,d,h8,1⟩,⟨P,111,.slice sU u cU,u,us,2⟩,⟨P,9,.slice sW m cW,m,xG ws,1⟩]++tl,sE,cE,sP,cP,sL,cL,sR,cR,sU,cU,.inr rfl,Nat.le_of_lt (Nat.lt_of_succ_lt (zS h4)),b1,?_,H0,?_,?_⟩
 ·intro r hr
  exact(H1 r (by rw[h1];exact List.Mem.tail _ (List.Mem.tail _ (List.Mem.tail _ hr)))).2
 ·have:=h5.many (fun k=>qE rows k\/k=o) (fun k hk=>.inl hk)
  rw[h1]at this⊢;exact this
 intro w6 s1 c1 s2 c2 s3 c3 ls h3 b8;have H3:=h5.after h3 H6;have k6:=h5.keepMany h3 H6;have H4:=h3.but.heap h4 (fun h=>h.elim (fun h=>(h9 _ h).2.2.1 rfl) (fun e=>by omega));have h6:=h0.same (h3.but.block mb h0.lt (fun h=>h.elim (fun h=>(h9 _ h).2.2.2.1 rfl) b2));have b5:=h3.but.grown (zE hg a9) (fun k hk=>.inr (hk.elim (fun h=>(h9 k h).1) (fun e=>by omega)))
 have a1:RowX (fun k=>X k\/k=gf) 3 w4 (.slice (some ⟨gf,0,none⟩) n n) (nats f):=by
  refine⟨?_,fun j e=>?_⟩
  ·have:=a7.rowT' (cap:=n) (by rw[zV,a8];exact Nat.le_refl _) hn
   rwa [zV,a8]at this
  have e:gf=j:=by simpa [Value.ownBlock] using e
  exact .inr e.symm
 refine .mk (fun k=>X k\/k=gf) u us (hsE++[.slice (some ⟨gf,0,none⟩) n n]) h8 ws s1 c1 s2 c2 s3 c3 sR cR sU cU (by simp[hl]) (by simp[b0]) (by simp[b3]) a0 ?_ hu H9 H8 ?_ ((((hE.kept k4 a9.size).mono (fun k hk=>.inl hk)).snoc a1).kept k6 h3.but.size) (((hR.kept k4 a9.size).mono (fun k hk=>.inl hk)).kept k6 h3.but.size) (((hG.kept k4 a9.size).mono (fun k hk=>.inl hk)).kept k6 h3.but.size) ⟨H5,b6,b7⟩ h6 b8 H4 b5
 ·intro g hg
  rcases List.mem_append.1 hg with h|h
  ·exact b4 g h
  rw[List.mem_singleton]at h;subst h;exact a4
 rw[show ints (pre++[(d:Int)])=ints pre++[.int .i64 (d:Int)] by simp[ints],show ints (las++[(x:Int)])=ints las++[.int .i64 (x:Int)] by simp[ints]];exact H3
theorem ProcS.word (h:ProcS w0 P o mb n gA gN gC gs els pre las right m d ub sW cW tl w)(hi:i<m):∃(lb:Nat) (V:ByteArray),sW=some ⟨lb,0,none⟩/\m<=cW/\cW<=maxLen/\w.cell? ⟨lb,i,none⟩=some (.string V)/\V.size<=i:=by
 obtain⟨X,u,us,h9,h8,ws,sE,cE,sP,cP,sL,cL,sR,cR,sU,cU,hl,H1,H2,H0,H3,hu,h1,h2,hM,hE,hR,hG,hX,h6,hB,H4,hg⟩:=h;have ho:w.ownsRow P 9 1 (.slice sW m cW) m (xG ws):=hM.own ⟨P,9,.slice sW m cW,m,xG ws,1⟩ yq;obtain⟨lb,rfl,h4,h3,h7⟩:=yV ho yo;have h0:=h7.cell i (by simp[xG,h1];exact hi)
 have h5:(xG ws)[i]'(by simp[xG,h1];exact hi)=.string (ws.getD i ⟨#[]⟩):=by
  simp[xG,List.getD_eq_getElem?_getD,h1,hi]
 rw[h5]at h0;exact⟨lb,_,rfl,h4,h3,h0,h2 i⟩
theorem qHT {w:World}{n c:Nat}{u:Value}(h:w.ownsRow b e 1 (.slice (some ⟨lb,0,none⟩) n c) n xs)(h':w'.ownsRow b e 1 (.slice (some ⟨lb,0,none⟩) n c) n xs)(hi:i<n)(hc:w.cell? ⟨lb,i,none⟩=some u):w'.cell? ⟨lb,i,none⟩=some u:=by
 have hl:xs.length=n:=by have:=h.1;omega
 obtain⟨k,e1,_,_,hA⟩:=yV h yo;obtain⟨k',e2,_,_,h0⟩:=yV h' yo;have e1:lb=k:=by simpa using e1
 have e2:lb=k':=by simpa using e2
 subst e1;subst e2;rw[hA.cell i yo]at hc;rw[h0.cell i yo,hc]
theorem ProcS.new30 (h:ProcS w0 P o mb n gA gN gC gs els pre las right m d ub (some ⟨lb,0,none⟩) cW tl w)(a7:w0.heap.size<=P)(a8:P+1<o)(a9:∀r∈tl,r.base=P/\r.e≠75):∃(u:Nat) (us:List Value) (sU:Option Addr) (cU:Nat) (rs:List RowS),w.cell? ⟨o,7,none⟩=some (.slice sU u cU)/\u<=ub/\rs[4]?=some ⟨P,111,.slice sU u cU,u,us,2⟩/\∀w9,w.grownBy w9 none->Many w9 (qE rs) w9 rs [] []/\P<=w9.heap.size/\∀(wM:World) (sU':Option Addr) (cU':Nat) (us2:List Value),Many w9 (qE rs) wM (rs.set 4 ⟨P,111,.slice sU' (u+1) cU',u+1,us++us2,2⟩) [] []->wM.cell? ⟨o,7,none⟩=some (.slice sU u cU)/\wM.frozen? ⟨o,7,none⟩=false/\(∀(i:Nat) (V:Value),i<m->w.cell? ⟨lb,i,none⟩=some V->wM.cell? ⟨lb,i,none⟩=some V)/\ProcS w0 P o mb n gA gN gC gs els pre las right m d (ub+1) (some ⟨lb,0,none⟩) cW tl (wM.setCell ⟨o,7,none⟩ (.slice sU' (u+1) cU')):=by
 obtain⟨X,u,us,H1,H0,ws,sE,cE,sP,cP,sL,cL,sR,cR,sU,cU,hl,a2,a3,a1,a4,hu,H8,H7,hM,hE,hR,hG,hX,H3,hB,a6,hg⟩:=h;refine⟨u,us,sU,cU,[⟨P,22,.slice sE m cE,m,H1,1⟩,⟨P,3,.slice sP m cP,m,ints pre,1⟩,⟨P,3,.slice sL m cL,m,ints las,1⟩,⟨P,22,.slice sR d cR,d,H0,1⟩,⟨P,111,.slice sU u cU,u,us,2⟩,⟨P,9,.slice (some ⟨lb,0,none⟩) m cW,m,xG ws,1⟩]++tl,(yD hB).2.2.2.2.2.2.2.1,hu,rfl,fun w9 hg9=>?_⟩;have h8:=hM.grow hg9;have k9:=hM.keep hg9;have H6:=zD hB hg9;have h6:=zD a6 hg9;have h0:=H3.kept hg9 yq;refine⟨h8.many (qE _) (fun _ h=>h),by have:=zS h6;omega,fun wM sU' cU' us2 hMM=>?_⟩
 have H9:∀r∈([⟨P,22,.slice sE m cE,m,H1,1⟩,⟨P,3,.slice sP m cP,m,ints pre,1⟩,⟨P,3,.slice sL m cL,m,ints las,1⟩,⟨P,22,.slice sR d cR,d,H0,1⟩,⟨P,111,.slice sU u cU,u,us,2⟩,⟨P,9,.slice (some ⟨lb,0,none⟩) m cW,m,xG ws,1⟩]++tl),r.base=P/\r.e≠75:=by
  intro r hr;rcases List.mem_append.1 hr with hr|hr
  ·simp only[List.mem_cons,List.not_mem_nil,or_false]at hr
   rcases hr with rfl|rfl|rfl|rfl|rfl|rfl<;>simp
  exact a9 r hr
 have h7:∀k,qE ([⟨P,22,.slice sE m cE,m,H1,1⟩,⟨P,3,.slice sP m cP,m,ints pre,1⟩,⟨P,3,.slice sL m cL,m,ints las,1⟩,⟨P,22,.slice sR d cR,d,H0,1⟩,⟨P,111,.slice sU u cU,u,us,2⟩,⟨P,9,.slice (some ⟨lb,0,none⟩) m cW,m,xG ws,1⟩]++tl) k->w0.heap.size<=k/\k≠o/\k≠P+1/\k≠mb/\¬X k:=by
  intro k hk;obtain⟨r,hr,hk⟩:=hk;have h3:=h8.own r hr;have H2:=H9 r hr;refine⟨?_,fun e=>?_,fun e=>?_,fun e=>?_,h8.offX r hr k hk⟩
  ·have:=(h3.lt k hk).1
   rw[H2.1]at this;omega
  ·subst e;exact zR h3 H6 H2.2 hk
  ·subst e;exact zR h3 h6 H2.2 hk
  subst e;exact h0.ne_own h3 hk
 have H4:=h8.after hMM (fun k hk=>(h7 k hk).2.2.2.2);have kM:=h8.keepMany hMM (fun k hk=>(h7 k hk).2.2.2.2);have h9:=hMM.but.heap H6 (fun hj=>(h7 o hj).2.1 rfl);have H5:=hMM.but.heap h6 (fun hj=>(h7 _ hj).2.2.1 rfl);have h5:=h0.same (hMM.but.block mb h0.lt (fun hj=>(h7 _ hj).2.2.2.1 rfl));have a5:=hMM.but.grown (zE hg hg9) (fun k hk=>.inr (h7 k hk).1);have a0:=heap_setCell_same wM o 7 _ _ (.slice sU' (u+1) cU') h9;have h4:=zH wM ⟨o,7,none⟩ (.slice sU' (u+1) cU');have kS:wG X wM _:=wG.of_grown H4.lt h4 (fun j e hx=>by have e:o=j:=Oj e;subst e;exact hX.1 hx);refine⟨(yD h9).2.2.2.2.2.2.2.1,zB h9 7,fun i V hi hc=>?_,?_⟩
 ·have h1:w.ownsRow P 9 1 (.slice (some ⟨lb,0,none⟩) m cW) m (xG ws):=hM.own ⟨P,9,.slice (some ⟨lb,0,none⟩) m cW,m,xG ws,1⟩ yq
  have h2:wM.ownsRow P 9 1 (.slice (some ⟨lb,0,none⟩) m cW) m (xG ws):=hMM.own 5 ⟨P,9,.slice (some ⟨lb,0,none⟩) m cW,m,xG ws,1⟩ rfl;exact qHT h1 h2 hi hc
 refine .mk X (u+1) (us++us2) H1 H0 ws sE cE sP cP sL cL sR cR sU' cU' hl a2 a3 a1 a4 yo H8 H7 (H4.far h4 (fun r hr=>zR (H4.own r hr) h9 ?_)) ((hE.kept k9 hg9.size).kept kM hMM.but.size |>.kept kS h4.size) ((hR.kept k9 hg9.size).kept kM hMM.but.size |>.kept kS h4.size) ((hG.kept k9 hg9.size).kept kM hMM.but.size |>.kept kS h4.size) hX (h5.kept h4 (fun e=>h5.ne_cells h9 (Oj e))) (by simpa using a0) (zD H5 h4 (by simp;omega)) (yM a5 h4 (by show _<=o;omega));simp only[List.cons_append,List.nil_append,List.set_cons_zero,List.set_cons_succ,List.mem_cons]at hr;rcases hr with rfl|rfl|rfl|rfl|rfl|rfl|hr
 ·simp
 ·simp
 ·simp
 ·simp
 ·simp
 ·simp
 exact(a9 r hr).2
end
def atW (right:List (List Nat))(x:Nat)(w:List Nat):Nat:=w.foldl (fun q a=>(right.getD q []).getD a 0) x
def rowE (pre las:List Int)(right:List (List Nat))(n x:Nat):List Nat:=(List.range n).map fun y=>atW right x (vZ pre las y)
def tabE (pre las:List Int)(right:List (List Nat))(n:Nat):List (List Nat):=(List.range n).map fun x=>rowE pre las right n x
theorem sO (pre a9:List Int)(right:List (List Nat))(n x:Nat):(rowE pre a9 right n x).length=n:=by simp[rowE]
theorem wW (pre a9:List Int)(right:List (List Nat))(n:Nat):(tabE pre a9 right n).length=n:=by simp[tabE]
theorem qJE {pre a9:List Int}{right:List (List Nat)}{n y:Nat}(hy:y<n):(rowE pre a9 right n x).take (y+1)=(rowE pre a9 right n x).take y++[atW right x (vZ pre a9 y)]:=by
 rw[yH (d:=0) (by rw[sO];exact hy),zQ (by rw[sO];exact hy)];simp[rowE]
theorem qAH {pre a9:List Int}{right:List (List Nat)}{n:Nat}(hx:x<n):(tabE pre a9 right n).take (x+1)=(tabE pre a9 right n).take x++[rowE pre a9 right n x]:=by
 rw[yH (d:=[]) (by rw[wW];exact hx),zQ (by rw[wW];exact hx)];simp[tabE]
def qEK (right:List (List Nat))(n k:Nat):Prop:=right.length=n/\∀q,q<n->(right.getD q []).length=k/\∀a,a<k->(right.getD q []).getD a 0<n
theorem fH (right:List (List Nat))(x:Nat)(w:List Nat)(a:Nat):atW right x (w++[a])=(right.getD (atW right x w) []).getD a 0:=by simp[atW,List.foldl_append]
theorem qRT {w:List Nat}{j:Nat}(hs:s=strOfNums (lets w))(hw:∀a∈w,a<26)(hj:j<w.length)(h:j<s.size):(s[j].toNat:Int)=97+(w.getD j 0:Nat):=by
 subst hs;have e:(strOfNums (lets w))[j]=(strOfNums (lets w)).data.toList[j]'(by simpa using h):=rfl;have hm:=hw _ (List.getElem_mem hj);rw[e];simp only[strOfNums_data,lets,List.getElem_map];rw[zQ hj];simp;omega
theorem qCV (B C D:Nat)(w:World)(x0 x1 x2 x7 x8:Value)(a8:Option Addr)(c3:Nat)(v4 v5 v6:Value)(pre a9:List Int)(right:List (List Nat))(n k:Nat)(hB:B<=w.heap.size)(hC:C<=w.heap.size)(hD:D<=w.heap.size)(h4:Row B w v4 (ints pre))(h5:Row C w v5 (ints a9))(h6:TMat D w v6 right)(a6:pre.length=n)(a4:a9.length=n)(a5:qA pre a9 n k)(a7:qEK right n k)(hk:k<=6)(hn:n<=2000):Calls Tryz.prog 40 #[.agg #[x0,x1,x2,.slice a8 n c3,v4,v5,v6,x7,x8]] w (eW w (tabE pre a9 right n)):=by
 obtain⟨ta,tc,rfl⟩:=h6.shape;rw[a7.1]at h6⊢;obtain⟨wA,a2⟩:=Nm (w.alloc (.cells #[x0,x1,x2,.slice a8 n c3,v4,v5,.slice ta n tc,x7,x8] 75));have H0:wA.heap[w.heap.size]?=some (.cells #[x0,x1,x2,.slice a8 n c3,v4,v5,.slice ta n tc,x7,x8] 75 (0,0)):=by rw[a2];exact heap_alloc_new w _
 have a1:w.grownBy wA none:=by rw[a2];exact Ga w _ none
 have f4:wA.heap.size=w.heap.size+1:=by rw[a2,zW]
 obtain⟨P,hP⟩:=Nm w.heap.size;have f0:=Kh hP;rw[<-hP]at H0 hB hC hD f4;obtain⟨b6,g5,g0⟩:=Kc H0 a1 a2;have H4:=Kh (h4.kept a1 yq);have H5:=Kh (h5.kept a1 yq);have H6:=Kh (h6.kept a1 yq);obtain⟨f1,b3,g2,g3⟩:=Kd a5 a7 a6 a4;clear H0 a1 a2 h4 h5 h6 a5 a7 a6 a4;go_enter Tryz.func40,Tryz.ntmps40;go_upto_region 1 with fail;rw[<-g0.out,<-f0.out];clear hP;obtain⟨e0,e1,e2,e3,e4,e5,e6,e7,e8⟩:=yD b6.out;clear e0 e1 e2 e4 e5 e6 e7 e8;go_wp2
 go_loopg [3,13] n (fun gh v3 i wr=>∃(a:Nat) (sa:Option Addr) (sc:Nat),gh+a=n/\i=.int .i64 a/\v3=.slice sa a sc/\OwnT (P+1) wr (.slice sa a sc) a ((tabE pre a9 right n).take a)/\wA.grownBy wr none)
 case atStart=>exact⟨0,none,0,rfl,rfl,rfl,by simpa using OwnT.nil _ _,zX _ _⟩
 obtain⟨a,sa,sc,hg,rfl,rfl,h3,h7⟩:=hrel;obtain⟨HG,H7,b1⟩:=Kc hg h3 h7;clear e3;obtain⟨e0,e1,e2,e3,e4,e5,e6,e7,e8⟩:=yD (zD b6.out h7);clear hg h3 e0 e1 e2 e4 e5 e6 e7 e8;by_cases ha:a<n
 ·have i4:(a:Int)<n:=yo
  obtain⟨wo,rfl⟩:=Nm (wr:World);clear h7;go_wp2
  go_loopg [5,6,7,8,9,19] n (fun gh ov v6 v7 v8 v9 i wr=>∃(q:Nat) (sr:Option Addr) (cr:Nat),gh+q=n/\i=.int .i64 q/\ov=.slice sr q cr/\wr.ownsRow wo.heap.size 3 1 (.slice sr q cr) q (nats ((rowE pre a9 right n a).take q))/\wo.grownBy wr none)
  case atStart=>exact⟨0,none,0,rfl,rfl,rfl,by simpa [nats] using World.ownsRow_nil _ _ _ _,zX _ _⟩
  obtain⟨q,sr,cr,hg,rfl,rfl,h3,h7⟩:=hrel;obtain⟨f2,H3,b0⟩:=Kc hg h3 h7;clear hg h3 e3;have h1:=zI b1.out h7;have cagg:=zD b6.out h1;obtain⟨e0,e1,e2,e3,e4,e5,e6,e7,e8⟩:=yD cagg;by_cases hq:q<n
  ·have g8:(q:Int)<n:=yo
   have HW:=Kh (mZ B C wr x0 x1 x2 (.slice a8 n c3) v4 v5 (.slice ta n tc) x7 x8 pre a9 n k q (by have:=h1.size;omega) (by have:=h1.size;omega) (H4.out.kept h1 yq) (H5.out.kept h1 yq) g2.out g3.out f1.out hk hn hq);clear h7 cagg;go_wp2_with fail;refine HW.out.mono ?_;rintro e w2 ⟨rfl,c4⟩;have b2:=Kh (oM f1.out q hq);obtain⟨W,c5⟩:=Nm (vZ pre a9 q);have g1:Hid ((rowE pre a9 right n a).take (q+1)=(rowE pre a9 right n a).take q++[atW right a W]):=Kh (by rw[c5];exact qJE hq);rw[<-c5]at b2⊢;obtain⟨S,hS⟩:=Nm (strOfNums (lets W));have HS:=Kh hS;have i6:S.size=W.length:=by rw[hS,strOfNums_size];simp[lets]
   have i5:=b2.out.2;rw[<-hS];have b5:=Kh (zI b0.out c4);have b4:=Kh (yY H3.out c4 yq);clear HW c4 c5 hS e0 e1 e2 e3 e4 e5 e6 e7 e8;obtain⟨wb,rfl⟩:=Nm (w2:World);go_wp2
   go_loopg [8,9] W.length (fun gh v8 v9 wr=>∃(j p:Nat),gh+j=W.length/\v9=.int .i64 j/\v8=.int .i64 p/\p<n/\p=atW right a (W.take j)/\∃m,wr=wb.drewN m)
   case atStart=>exact⟨0,a,yo,rfl,rfl,ha,rfl,0,rfl⟩
   obtain⟨j,p,hg,rfl,rfl,hp,d1,m,rfl⟩:=hrel;have g4:=Kh hg;have H2:=Kh d1;clear hg d1;by_cases hj:j<W.length
   ·have f6:j<S.size:=yo
    have f8:=qRT HS.out (fun x hx=>by have:=b2.out.1 x hx;omega) hj f6;have c0:=b2.out.1 (W.getD j 0) (by rw[zQ hj];exact List.getElem_mem hj);obtain⟨l,hl⟩:=Nm (W.getD j 0);rw[<-hl]at f8 c0;have HL:=Kh hl;have h8:=zI b1.out (zI b5.out (zT wb m none));obtain⟨e0,e1,e2,e3,e4,e5,e6,e7,e8⟩:=yD (zD b6.out h8);obtain⟨rb,ro,rc,e,b8,f5,_,_,H1⟩:=(H6.out.kept h8 yq).head (by rw[b3.out.1];omega);rw[b3.out.1]at b8 H1 e;simp only[Value.slice.injEq]at e;obtain⟨rfl,-,rfl⟩:=e;obtain⟨ra,rc2,ch,h2⟩:=H1 p hp;have a0:=(b3.out.2 p hp).1;have H9:=(b3.out.2 p hp).2 l c0;rw[a0]at ch;obtain⟨qb,qo,qc,e,_,i3,i2,c9⟩:=h2.row.some_ (by rw[zV,a0];omega);rw[a0]at e;simp only[Value.slice.injEq]at e;obtain⟨rfl,-,rfl⟩:=e;have ce:=c9.nat l (by rw[a0];exact c0);have HT:Hid (atW right a (W.take (j+1))=(right.getD p []).getD l 0):=Kh (by rw[yH (d:=0) hj,fH,<-H2.out,<-HL.out]);obtain⟨z,hz⟩:=Nm ((right.getD p []).getD l 0);rw[<-hz]at ce H9 HT;clear hz hl H1 h2 c9 a0 h8 e0 e1 e2 e3 e4 e5 e7 e8;have f7:(j:Int)<S.size:=yo;have i1:(j:Int)<W.length:=yo;have g9:(p:Int)<n:=yo;have i0:(l:Int)<k:=yo;have d8:∀(x:Addr),(wb.drewN m).cell? x=wb.cell? x:=fun x=>rfl;rw[d8]at e6 ch ce;clear d8;go_wp2
    go_region
    go_wp2;go_roundg (W.length-(j+1))
    case measure=>have:=g4.out;omega
    exact⟨j+1,z,yo,by go_num,rfl,H9,HT.out.symm,m+1,rfl⟩
   have d6:W.take j=W:=List.take_of_length_le yo;rw[d6]at H2;have f7:¬(j:Int)<S.size:=yo;have d2:=b5.out.size;have a3:=Kh (yY b4.out (zT wb m none) yq);have f3:=Kh (zI b5.out (zT wb m none));clear d6 b4 b5;obtain⟨w3,b7⟩:=Nm (wb.drewN m);have g7:wb.heap.size=w3.heap.size:=by rw[b7];rfl
   rw[<-b7]at a3 f3⊢;clear b7;go_wp2_with (first|(at_builtin;refine app1 rfl _ _ _ rfl yJ wo.heap.size _ q (nats ((rowE pre a9 right n a).take q)) rfl a3.out _ rfl rfl ?c1 ?c2 ?c3 ?_)|fail)
   case c1=>unfold maxLen;omega
   case c2=>omega
   case c3=>omega
   intro sa' sc' w6 h0 H8 b9;have c6:=Kh h0;have c8:=Kh H8;clear h0 H8;go_wp2;go_roundg (n-(q+1))
   case measure=>have:=f2.out;omega
   refine⟨q+1,sa',sc',yo,by go_num,rfl,?_,zE f3.out c8.out (fun q e=>(a3.out.lt q e).1)⟩;rw[g1.out,qF,<-H2.out];exact c6.out
  have d0:q=n:=by have:=f2.out;omega
  have d9:(rowE pre a9 right n a).take q=rowE pre a9 right n a:=by have h9:=sO pre a9 right n a;rw[d0];exact List.take_of_length_le yo
  rw[d9]at H3;have d2:=H7.out.grow h7;obtain⟨hs,d5,d4,d3⟩:=d2;have h2:=RowT.of_owns H3.out;obtain⟨HR,c7,b4,a3⟩:=Kd h2 d5 d4 d3;have g6:=h7.size;have f9:P+1<=wr.heap.size:=by have:=b1.out.size;omega
  clear d0 d9 h7 h2 d5 d4 d3 e0 e1 e2 e3 e4 e5 e6 e7 e8 cagg h1;go_wp2_with (first|(at_builtin;refine app1 rfl _ _ _ rfl xT (P+1) _ a hs rfl c7.out _ rfl rfl ?c1 ?c2 ?c3 ?_)|fail)
  case c1=>unfold maxLen;omega
  case c2=>omega
  case c3=>exact f9
  intro sa' sc' w6 h0 H8 b9
  have c6:Hid (OwnT (P+1) w6 (.slice sa' (a+1) sc') (a+1) ((tabE pre a9 right n).take (a+1))):=Kh (by
   rw[qAH ha]
   exact OwnT.push c7.out b4.out a3.out HR.out h0 H8)
  have c8:Hid (wA.grownBy w6 none):=Kh (zE (zI b1.out b0.out) H8 (fun x e=>by have:=(c7.out.lt x e).1;omega));clear h0 H8;go_wp2;go_roundg (n-(a+1))
  case measure=>have:=HG.out;omega
  exact⟨a+1,sa',sc',yo,by go_num,rfl,c6.out,c8.out⟩
 have e9:a=n:=by have:=HG.out;omega
 have d7:=wW pre a9 right n;have HE:Hid ((tabE pre a9 right n).take a=tabE pre a9 right n/\(tabE pre a9 right n).length=a):=Kh ⟨List.take_of_length_le yo,by rw[d7,e9]⟩;clear e9 h7 d7;go_wp2;go_ret;rw[HE.out.1]at H7;refine⟨sa,sc,by rw[HE.out.2];rfl,?_,zI g5.out b1.out⟩;rw[HE.out.2];exact H7.out.base (by have:=f0.out;omega)
end Go.Proofs.YtiknckajkdlppaaGreat
namespace Go.Proofs.YtiknckajkdlppaaGreat
variable{g f:List Nat}{i d x:Nat}
theorem fE {n:Nat}(hg:IsT n g):vH (List.range n) g=g:=by
 refine List.ext_getElem (by rw[rI,List.length_range,hg.1]) fun i h1 h2=>?_;have hi:i<n:=by rw[<-hg.1];exact h2
 simp only[vH,List.getElem_map,List.getElem_range];rw[zQ h2]
theorem jR (n:Nat):IsT n (List.range n):=⟨List.length_range,fun x hx=>List.mem_range.1 hx⟩
theorem qBZ {n:Nat}(hf:IsT n f):vH f (List.range n)=f:=by
 refine List.ext_getElem (by rw[rI]) fun i h1 h2=>?_;simp only[vH,List.getElem_map];have:=hf.2 _ (List.getElem_mem h2);rw[zQ (by simpa using this)];simp
theorem eM {n:Nat}{h:List Nat}(hf:IsT n f)(hg:IsT n g):vH (vH f g) h=vH f (vH g h):=by
 refine List.ext_getElem (by simp[rI]) fun i h1 h2=>?_;simp only[vH,List.getElem_map];have hi:i<f.length:=by simpa [vH] using h1
 have:=hf.2 _ (List.getElem_mem hi);rw[xY (x:=0) (by rw[hg.1];exact this)]
theorem jV {α:Type}{a b:List α}(h:a <+: b)(hi:i<a.length)(d:α):b.getD i d=a.getD i d:=by
 obtain⟨c,rfl⟩:=h;rw[List.getD_eq_getElem?_getD,List.getElem?_append_left hi,<-List.getD_eq_getElem?_getD]
theorem cM {α:Type}[BEq α][LawfulBEq α]{l:List α}{x d:α}(h:x∈l):l.getD (l.idxOf x) d=x:=by
 rw[zQ (List.idxOf_lt_length_of_mem h),List.getElem_idxOf]
theorem oH {α:Type}{l:List α}(h:l.Nodup){j:Nat}{d:α}(hi:i<l.length)(hj:j<l.length)(e:l.getD i d=l.getD j d):i=j:=by
 rw[zQ hi,zQ hj]at e;exact(List.getElem_inj h).1 e
structure EnI (gs:List (List Nat))(n:Nat)(el:List (List Nat))(pr la:List Int):Prop where
 l2:pr.length=el.length
 l3:la.length=el.length
 it:∀f∈el,IsT n f
 words:qA pr la el.length gs.length
 nodup:el.Nodup
 pos:0<el.length
 one:el.getD 0 []=List.range n
 val:∀i,i<el.length->(la.getD i 0<0/\i=0)\/(¬la.getD i 0<0/\el.getD i []=vH (el.getD (pr.getD i 0).toNat []) (gs.getD (la.getD i 0).toNat []))
theorem EnI.add {gs:List (List Nat)}{n:Nat}{el:List (List Nat)}{pr la:List Int}(h:EnI gs n el pr la)(hg:∀g∈gs,IsT n g)(hd:d<el.length)(hx:x<gs.length)(a9:vH (el.getD d []) (gs.getD x []) ∉ el):
  EnI gs n (el++[vH (el.getD d []) (gs.getD x [])]) (pr++[(d:Int)]) (la++[(x:Int)]) where
 l2:=by simp[h.l2]
 l3:=by simp[h.l3]
 it:=fun f hf=>by
  rcases List.mem_append.1 hf with hf|hf
  ·exact h.it f hf
  ·rw[List.mem_singleton]at hf;subst hf
   exact iB (h.it _ (wT hd)) (hg _ (wT hx))
 words:=by
  have:=aZ h.words h.l2 h.l3 hd hx;simpa using this
 nodup:=by
  rw[List.nodup_append];exact⟨h.nodup,yq,fun a ha b hb=>by rw[List.mem_singleton]at hb;subst hb;exact fun e=>a9 (e ▸ ha)⟩
 pos:=yq
 one:=by rw[xW h.pos];exact h.one
 val:=fun i hi=>by
  rcases Nat.lt_or_ge i el.length with h1|h1
  ·rw[xW (l:=la) (by rw[h.l3];exact h1),xW (l:=el) (i:=i) h1,xW (l:=pr) (by rw[h.l2];exact h1)]
   rcases h.val i h1 with h2|⟨h2,h3⟩
   ·exact .inl h2
   ·refine .inr ⟨h2,?_⟩
    rcases h.words i h1 with h4|⟨_,_,h5,h6⟩
    ·exact absurd h4 h2
    ·rw[xW (show (pr.getD i 0).toNat<el.length by omega)];exact h3
  ·have e:i=el.length:=by simp at hi;omega
   rw[wP (l:=la) (by rw[h.l3];exact e),wP (l:=el) (i:=i) e,wP (l:=pr) (by rw[h.l2];exact e)];refine .inr ⟨yo,?_⟩;rw[Int.toNat_natCast,Int.toNat_natCast,xW (l:=el) hd]
theorem jZ {gs:List (List Nat)}{n:Nat}(hg:∀g∈gs,IsT n g):∀x,x<=gs.length->EnI gs n (yO gs n x).1 (yO gs n x).2.1 (yO gs n x).2.2
 | 0,_=>by
  refine⟨rfl,rfl,fun f hf=>?_,fun i hi=>?_,by simp[yO],by simp[yO],rfl,fun i hi=>?_⟩
  ·simp only[yO,List.mem_singleton]at hf;subst hf;exact jR n
  ·have hi:i=0:=by simp[yO]at hi;omega
   subst hi;exact .inl (by simp[yO])
  ·have hi:i=0:=by simp[yO]at hi;omega
   subst hi;exact .inl ⟨by simp[yO],rfl⟩
 | x+1,hx=>by
  have ih:=jZ hg x yo
  rw[yO]
  by_cases h:gs.getD x []∈(yO gs n x).1
  ·rw[if_pos h];exact ih
  ·rw[if_neg h]
   have e:vH ((yO gs n x).1.getD 0 []) (gs.getD x [])=gs.getD x []:=by
    rw[ih.one];exact fE (hg _ (wT (show x<gs.length by omega)))
   have:=ih.add (d:=0) (x:=x) hg ih.pos yo (by rw[e];exact h);rw[e]at this;exact this
structure RowI (gs:List (List Nat))(n d:Nat)(s0:List (List Nat))(x:Nat)(t:List (List Nat)×List Int×List Int×List Nat):Prop where
 en:EnI gs n t.1 t.2.1 t.2.2.1
 pre:s0 <+: t.1
 len:t.2.2.2.length=x
 ent:∀a,a<x->t.2.2.2.getD a 0<t.1.length/\t.1.getD (t.2.2.2.getD a 0) []=vH (s0.getD d []) (gs.getD a [])
theorem qDC {gs:List (List Nat)}{n d:Nat}{s:List (List Nat)×List Int×List Int}(hg:∀g∈gs,IsT n g)(h:EnI gs n s.1 s.2.1 s.2.2)(hd:d<s.1.length):∀x,x<=gs.length->RowI gs n d s.1 x (rW gs d s x)
 | 0,_=>⟨h,List.prefix_refl _,rfl,fun a ha=>by omega⟩
 | x+1,hx=>by
  have ih:=qDC hg h hd x yo
  rw[rW]
  obtain⟨⟨el,pr,la,ro⟩,ht⟩:∃t,t=rW gs d s x:=⟨_,rfl⟩
  rw[<-ht]at ih⊢
  obtain⟨he,hp,hl,hn⟩:=ih
  simp only at he hp hl hn
  have hdl:d<el.length:=Nat.lt_of_lt_of_le hd hp.length_le
  have hed:el.getD d []=s.1.getD d []:=jV hp hd _
  unfold eX
  simp only
  rw[hed]
  by_cases hin:vH (s.1.getD d []) (gs.getD x [])∈el
  ·rw[if_pos hin]
   refine⟨he,hp,by simp[hl],fun a ha=>?_⟩
   rcases Nat.lt_or_ge a x with h1|h1
   ·simp only;rw[xW (by rw[hl];exact h1)];exact hn a h1
   ·have:a=x:=yo
    subst this
    simp only;rw[wP hl.symm]
    exact⟨List.idxOf_lt_length_of_mem hin,cM hin⟩
  ·rw[if_neg hin]
   refine⟨?_,hp.trans (List.prefix_append _ _),by simp[hl],fun a ha=>?_⟩
   ·have:=he.add (d:=d) (x:=x) hg hdl yo (by rw[hed];exact hin)
    rw[hed]at this;exact this
   ·simp only
    rcases Nat.lt_or_ge a x with h1|h1
    ·rw[xW (by rw[hl];exact h1)]
     have:=hn a h1
     rw[xW this.1]
     exact⟨by rw[List.length_append];exact Nat.lt_of_lt_of_le this.1 (Nat.le_add_right _ _),this.2⟩
    ·have:a=x:=yo
     subst this
     rw[wP hl.symm,wP rfl]
     exact⟨yq,rfl⟩
theorem bW (gs:List (List Nat))(d:Nat)(s:List (List Nat)×List Int×List Int):∀x,s.1 <+: (rW gs d s x).1
 | 0=>List.prefix_refl _
 | x+1=>by
  have ih:=bW gs d s x
  rw[rW]
  unfold eX
  split
  ·exact ih
  ·exact ih.trans (List.prefix_append _ _)
theorem qJA (gs:List (List Nat))(d:Nat)(s:List (List Nat)×List Int×List Int)(hd:s.1.length<=d)(hk:1<=gs.length):∀x,1<=x->([]:List Nat)∈(rW gs d s x).1
 | 1,_=>by
  rw[rW,rW]
  unfold eX
  have e:s.1.getD d []=[]:=by rw[List.getD_eq_getElem?_getD,List.getElem?_eq_none hd];rfl
  simp only[e,vH,List.map_nil]
  split
  ·assumption
  ·simp
 | x+2,_=>by
  have ih:=qJA gs d s hd hk (x+1) yo
  rw[rW]
  unfold eX
  split
  ·exact ih
  ·exact List.mem_append_left _ ih
theorem bZ (gs:List (List Nat))(s:List (List Nat)×List Int×List Int)(d:Nat):∀e,(wO gs s d).1.1 <+: (wO gs s (d+e)).1.1
 | 0=>List.prefix_refl _
 | e+1=>(bZ gs s d e).trans (by rw[Nat.add_succ,wO];exact bW gs (d+e) (wO gs s (d+e)).1 gs.length)
theorem aD {gs:List (List Nat)}{n:Nat}{s:List (List Nat)×List Int×List Int}(h1:1<=n)(hk:1<=gs.length)(a9:∀f∈(wO gs s d).1.1,IsT n f)(d':Nat)(hd:d'<d):d'<(wO gs s d').1.1.length:=by
 rcases Nat.lt_or_ge d' (wO gs s d').1.1.length with h|h
 ·exact h
 exfalso;have hm:=qJA gs d' (wO gs s d').1 h hk gs.length hk;have hp:=bZ gs s (d'+1) (d-(d'+1));rw[show d'+1+(d-(d'+1))=d by omega,wO]at hp;have:=a9 [] (hp.subset hm);have:=this.1;simp at this;omega
structure Enm (gs:List (List Nat))(n:Nat)(el:List (List Nat))(pr la:List Int)(ri:List (List Nat))(d:Nat):Prop where
 en:EnI gs n el pr la
 rl:ri.length=d
 row:∀q,q<d->q<el.length/\(ri.getD q []).length=gs.length/\∀a,a<gs.length->(ri.getD q []).getD a 0<el.length/\el.getD ((ri.getD q []).getD a 0) []=vH (el.getD q []) (gs.getD a [])
theorem aB {gs:List (List Nat)}{n:Nat}{s:List (List Nat)×List Int×List Int}(hg:∀g∈gs,IsT n g)(h:EnI gs n s.1 s.2.1 s.2.2):∀d,(∀d',d'<d->d'<(wO gs s d').1.1.length)->Enm gs n (wO gs s d).1.1 (wO gs s d).1.2.1 (wO gs s d).1.2.2 (wO gs s d).2 d
 | 0,_=>⟨h,rfl,fun q hq=>by omega⟩
 | d+1,hlt=>by
  have ih:=aB hg h d (fun d' hd=>hlt d' yo)
  have hr:=qDC hg (s:=(wO gs s d).1) ih.en (hlt d yo) gs.length (Nat.le_refl _)
  rw[wO]
  refine⟨hr.en,by simp[ih.rl],fun q hq=>?_⟩
  simp only
  rcases Nat.lt_or_ge q d with h1|h1
  ·rw[xW (by rw[ih.rl];exact h1)]
   obtain⟨h2,h3,h4⟩:=ih.row q h1
   refine⟨Nat.lt_of_lt_of_le h2 hr.pre.length_le,h3,fun a ha=>?_⟩
   obtain⟨h5,h6⟩:=h4 a ha
   exact⟨Nat.lt_of_lt_of_le h5 hr.pre.length_le,by rw[jV hr.pre h5,jV hr.pre h2];exact h6⟩
  ·have:q=d:=yo
   subst this
   rw[wP ih.rl.symm]
   refine⟨Nat.lt_of_lt_of_le (hlt q yo) hr.pre.length_le,hr.len,fun a ha=>?_⟩
   obtain⟨h5,h6⟩:=hr.ent a ha
   exact⟨h5,by rw[jV hr.pre (hlt q yo)];exact h6⟩
theorem qST {gs:List (List Nat)}{n:Nat}{el:List (List Nat)}{pr la:List Int}{ri:List (List Nat)}(hg:∀g∈gs,IsT n g)(h1:1<=n)(hk:1<=gs.length)(hp:wO gs (yO gs n gs.length) d=((el,pr,la),ri))(a9:∀f∈el,IsT n f):Enm gs n el pr la ri d:=by
 have:=aB hg (jZ hg gs.length (Nat.le_refl _)) d (aD h1 hk (by rw[hp];exact a9));rw[hp]at this;exact this
def valW (gs:List (List Nat))(n:Nat)(w:List Nat):List Nat:=w.foldl (fun f a=>vH f (gs.getD a [])) (List.range n)
theorem qAF (gs:List (List Nat))(n:Nat)(w:List Nat)(a:Nat):valW gs n (w++[a])=vH (valW gs n w) (gs.getD a []):=by simp[valW,List.foldl_append]
theorem qMJ {gs:List (List Nat)}{n:Nat}(hg:∀g∈gs,IsT n g)(w:List Nat)(hw:∀a∈w,a<gs.length):IsT n (valW gs n w):=by
 suffices h:∀(v:List Nat) (f:List Nat),IsT n f->(∀a∈v,a<gs.length)->IsT n (v.foldl (fun f a=>vH f (gs.getD a [])) f) from h w _ (jR n) hw
 intro v
 induction v with
 | nil=>intro f hf _;exact hf
 | cons a v ih=>intro f hf hv;exact ih _ (iB hf (hg _ (wT (hv a yq)))) (fun b hb=>hv b (by simp[hb]))
section
variable {gs:List (List Nat)} {n:Nat} {el:List (List Nat)} {pr la:List Int} {ri:List (List Nat)}
theorem EnI.word (h:EnI gs n el pr la):∀i,i<el.length->el.getD i []=valW gs n (vZ pr la i):=by
 intro i
 induction i using Nat.strongRecOn with
 | ind i ih =>
  intro hi;rcases h.val i hi with ⟨h1,h2⟩|⟨h1,h2⟩
  ·subst h2;rw[pZ h1,h.one];rfl
  rcases h.words i hi with h3|⟨_,_,h4,h5⟩
  ·exact absurd h3 h1
  rw[oB h.words hi h1,qAF,h2,ih (pr.getD i 0).toNat yo yo]
theorem Enm.right (h:Enm gs n el pr la ri el.length):qEK ri el.length gs.length:=⟨h.rl,fun q hq=>⟨(h.row q hq).2.1,fun a ha=>((h.row q hq).2.2 a ha).1⟩⟩
theorem Enm.at (h:Enm gs n el pr la ri el.length)(hg:∀g∈gs,IsT n g)(hx:x<el.length)(w:List Nat)(hw:∀a∈w,a<gs.length):atW ri x w<el.length/\el.getD (atW ri x w) []=vH (el.getD x []) (valW gs n w):=by
 suffices hs:∀(m:Nat) (w:List Nat),w.length=m->(∀a∈w,a<gs.length)->atW ri x w<el.length/\el.getD (atW ri x w) []=vH (el.getD x []) (valW gs n w) from hs _ w rfl hw
 intro m
 induction m with
 | zero =>
  intro w hl _;have:w=[]:=List.eq_nil_of_length_eq_zero hl;subst this;exact⟨hx,(qBZ (h.en.it _ (wT hx))).symm⟩
 | succ m ih =>
  intro w hl hw;obtain⟨v,a,rfl⟩:∃v a,w=v++[a]:=⟨w.dropLast,w.getLast (by intro e;rw[e]at hl;simp at hl),(List.dropLast_concat_getLast _).symm⟩;have hv:∀b∈v,b<gs.length:=fun b hb=>hw b (by simp[hb]);have ha:=hw a yq;obtain⟨h1,h2⟩:=ih v (by simpa using hl) hv;rw[fH,qAF];obtain⟨h3,h4⟩:=(h.row _ h1).2.2 a ha;refine⟨h3,?_⟩;rw[h4,h2,eM (h.en.it _ (wT hx)) (qMJ hg v hv)]
theorem Enm.tab (h:Enm gs n el pr la ri el.length)(hg:∀g∈gs,IsT n g){y:Nat}(hx:x<el.length)(hy:y<el.length):((tabE pr la ri el.length).getD x []).getD y 0<el.length/\el.getD (((tabE pr la ri el.length).getD x []).getD y 0) []=vH (el.getD x []) (el.getD y []):=by
 have e:((tabE pr la ri el.length).getD x []).getD y 0=atW ri x (vZ pr la y):=by
  rw[zQ (l:=tabE pr la ri el.length) (by rw[wW];exact hx)];simp only[tabE,List.getElem_map,List.getElem_range];rw[zQ (by rw[sO];exact hy)];simp only[rowE,List.getElem_map,List.getElem_range]
 rw[e,h.en.word y hy];exact h.at hg hx _ (oM h.en.words y hy).1
theorem Enm.image (h:Enm gs n el pr la ri el.length)(hg:∀g∈gs,IsT n g){a:Nat}(ha:a<gs.length):gs.getD a []∈el:=by
 obtain⟨h1,h2⟩:=(h.row 0 h.en.pos).2.2 a ha;rw[h.en.one,fE (hg _ (wT ha))]at h2;rw[<-h2];exact wT h1
end
end Go.Proofs.YtiknckajkdlppaaGreat
