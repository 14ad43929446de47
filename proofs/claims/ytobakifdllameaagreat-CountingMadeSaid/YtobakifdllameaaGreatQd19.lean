/- Part 19 of the proof. -/
import Derived.Test.YtobakifdllameaaGreatQd17
import Derived.Test.YtobakifdllameaaGreatQd18
set_option linter.unusedVariables false
set_option linter.unusedSimpArgs false
set_option maxRecDepth 100000
set_option maxHeartbeats 16000000
namespace Go.Proofs.YtobakifdllameaaGreat
open Go.Maps Go.RowKit
inductive pa1I (k m P aC tC:Nat)(aA tA:Option Addr)(ac:List Bool)(w5:World)(a0:Act)(l:Array Bool)(a:Act)(w:World):Prop
 | mk (x12:Value) (x16:Value) (x17:Value) (x3:Value) (o:Nat) (ha:a=zP a0 [(12,x12),(16,x16),(17,x17),(3,x3)]) (HR:∀j∈[0,1,2,3,5,6,7],l.getD j true=true) (H4:Hid (l.getD 4 true=true->∃sa sc,x12=.slice sa m sc/\w.ownsRow w5.heap.size 4 1 (.slice sa m sc) m (bls ac))) (H8:Hid (l.getD 8 true=true->∃g,x16=.slice (some ⟨g,0,none⟩) m m/\w.ownsRow w5.heap.size 22 1 (.slice (some ⟨g,0,none⟩) m m) m (List.replicate m (.slice none 0 0)))) (H9:Hid (l.getD 9 true=true->l.getD 4 true=true/\l.getD 8 true=true/\x17=.agg #[.int .i64 k,.int .i64 0,x12,x16])) (H10:Hid (l.getD 10 true=true->x3=.pointer (some ⟨o,0,none⟩)/\w5.heap.size<=o)) (B1:Hid (l.getD 10 true=true->(l.getD 11 true=false->w.heap[o]?=some (.cells #[.int .i64 0,.int .i64 0,.slice none 0 0,.slice none 0 0] 29 (0,0))))) (B2:Hid (l.getD 11 true=true->l.getD 4 true=true/\l.getD 8 true=true/\l.getD 9 true=true/\l.getD 10 true=true/\w.heap[o]?=some (.cells #[.int .i64 k,.int .i64 0,x12,x16] 29 (0,0)))) (HG:(w5.grownBy w none))
theorem qUA {k m P aC tC:Nat}{aA tA:Option Addr}{ac:List Bool}{w5:World}{a0:Act}{l:Array Bool}{a:Act}{w:World}(hc:w5.cell? ⟨P,0,none⟩=some (.int .i64 k)/\w5.cell? ⟨P,4,none⟩=some (.slice aA m aC)/\w5.cell? ⟨P,1,none⟩=some (.slice tA m tC))(h:pa1I k m P aC tC aA tA ac w5 a0 l a w):wH 11 (fun W=>W.cell? ⟨P,0,none⟩=some (.int .i64 k)/\W.cell? ⟨P,4,none⟩=some (.slice aA m aC)/\W.cell? ⟨P,1,none⟩=some (.slice tA m tC)) (fun _=>True) l w:=by
 obtain⟨x12,x16,x17,x3,o,ha,HR,H4,H8,H9,h0,B1,B2,HG⟩:=h;exact⟨⟨zK hc.1 HG,zK hc.2.1 HG,zK hc.2.2 HG⟩,fun _=>trivial⟩
theorem qEC {k m P aC tC:Nat}{aA tA:Option Addr}{ac:List Bool}{w5:World}{a0:Act}{l:Array Bool}{a:Act}{w:World}(h:pa1I k m P aC tC aA tA ac w5 a0 l a w):∀j∈[0,1,2,3,5,6,7],l.getD j true=true:=by
 obtain⟨x12,x16,x17,x3,o,ha,HR,H4,H8,H9,h0,B1,B2,HG⟩:=h;exact HR
theorem qJX {k m P aC tC:Nat}{aA tA:Option Addr}{ac:List Bool}{w5:World}{v0 v1 v2 v3 v4 v5 v6 v7 e5 e6 e7 e8 e9 d0 d1 d2 d3 d4 d5 d6 d7 d8 d9 c0 c1 c2 c3 c5 c7 c8 c9 b0 b1 b2 b3 b4 b5 b6 b7 b8 b9 a1 a2 a3 a4 a5 a6 a7:Value}{dd:_}{a0:Act}(a9:a0=⟨#[v0,v1,v2,v3,v4,v5,v6,v7,.pointer (some ⟨P,0,none⟩),.int .i64 k,.pointer (some ⟨P,4,none⟩),.slice aA m aC,e5,.pointer (some ⟨P,1,none⟩),.slice tA m tC,.int .i64 m,e6,e7,e8,e9,d0,d1,d2,d3,d4,d5,d6,d7,d8,d9,c0,c1,c2,c3,c5,c7,c8,c9,b0,b1,b2,b3,b4,b5,b6,b7,b8,b9,a1,a2,a3,a4,a5,a6,a7],dd⟩)(e2:∀w:World,(Instr.makeSlice 27 (.int .i64 (m:Int)) (.int .i64 (m:Int))).run Tryz.prog w=.ok (.slice (some ⟨w.heap.size,0,none⟩) m m) (w.alloc (.cells (madeCells #[.slice none 0 0] m) 22)))(e4:Hid ((madeCells #[.slice none 0 0] m).toList=List.replicate m (.slice none 0 0)))(e3:m<=maxLen)(e1:∀W:World,w5.grownBy W none->Calls Tryz.prog 96 #[.slice aA m aC] W fun e w'=>∃sa sc,e=.returned (.slice sa m sc)/\w'.ownsRow w5.heap.size 4 1 (.slice sa m sc) m (bls ac)/\W.grownBy w' none)(a8:Array Oper)(Q7:Exit->Act->World->Prop):pU (iJ Tryz.prog .any a8 Q7 (pa1I k m P aC tC aA tA ac w5 a0)) 0 (qD Tryz.f66 1).toList:=by
 refine⟨?s0,?s1,?s2,?s3,?s4,?s5,?s6,?s7,?s8,?s9,?s10,?s11,trivial⟩
 case s0 =>
  exact fun l a w h h1=>absurd (qEC h 0 (by simp)) (by rw[h1];simp)
 case s1 =>
  exact fun l a w h h1=>absurd (qEC h 1 (by simp)) (by rw[h1];simp)
 case s2 =>
  exact fun l a w h h1=>absurd (qEC h 2 (by simp)) (by rw[h1];simp)
 case s3 =>
  exact fun l a w h h1=>absurd (qEC h 3 (by simp)) (by rw[h1];simp)
 case s4 =>
  intro l a w h h1 h0 K hK;obtain⟨x12,x16,x17,x3,o,ha,HR,H4,H8,H9,h2,B1,B2,HG⟩:=h;subst ha;rw[a9];simp only[zP,List.foldl_cons,List.foldl_nil,Act.put,sPa,sPb,sPc];go_simp
  go_at_call 96
  refine(e1 w HG).mono ?_;rintro e w6 ⟨g6,c6,rfl,h3,h7⟩;refine hK.out _ _ ?_;refine⟨(.slice g6 m c6),x16,x17,x3,o,?fa4,fun j hj=>zD (HR j hj),Kh (fun _=>⟨g6,c6,rfl,h3⟩),Kh (fun h=>let ⟨g,e,ho⟩:=H8.out (zE (by decide) h);⟨g,e,zY ho h7⟩),(hs7A H9 h1),(hs7P h2),Kh (fun h h9=>zB (B1.out (zE (by decide) h) (zI h9)) h7),(hs7A B2 h1),zC HG h7⟩
  case fa4=>rw[a9];simp only[zP,List.foldl_cons,List.foldl_nil,Act.put,sPa,sPb,sPc]
 case s5 =>
  exact fun l a w h h1=>absurd (qEC h 5 (by simp)) (by rw[h1];simp)
 case s6 =>
  exact fun l a w h h1=>absurd (qEC h 6 (by simp)) (by rw[h1];simp)
 case s7 =>
  exact fun l a w h h1=>absurd (qEC h 7 (by simp)) (by rw[h1];simp)
 case s8 =>
  intro l a w h h1 h0 K hK;obtain⟨x12,x16,x17,x3,o,ha,HR,H4,H8,H9,h2,B1,B2,HG⟩:=h;subst ha;rw[a9];simp only[zP,List.foldl_cons,List.foldl_nil,Act.put,sPa,sPb,sPc];go_simp;have H5:=oM (e:=22) e4.out HG.size e3;refine hK.out _ _ ?_;refine⟨x12,(.slice (some ⟨w.heap.size,0,none⟩) m m),x17,x3,o,?fa8,fun j hj=>zD (HR j hj),Kh (fun h=>let ⟨g,c,e,ho⟩:=H4.out (zE (by decide) h);⟨g,c,e,zY ho (Ga w (.cells (madeCells #[.slice none 0 0] m) 22) none)⟩),Kh (fun _=>⟨w.heap.size,rfl,H5⟩),(hs7B H9 h1),(hs7P h2),Kh (fun h h9=>zB (B1.out (zE (by decide) h) (zI h9)) (Ga w (.cells (madeCells #[.slice none 0 0] m) 22) none)),(hs7B B2 h1),zC HG (Ga w (.cells (madeCells #[.slice none 0 0] m) 22) none)⟩
  case fa8=>rw[a9];simp only[zP,List.foldl_cons,List.foldl_nil,Act.put,sPa,sPb,sPc]
 case s9 =>
  intro l a w h h1 h0 K hK;obtain⟨x12,x16,x17,x3,o,ha,HR,H4,H8,H9,h2,B1,B2,HG⟩:=h;have DH4:=H4.out (zM (h0 ⟨4,.data⟩ (by simp) rfl));have DH8:=H8.out (zM (h0 ⟨8,.data⟩ (by simp) rfl));obtain⟨g4,c4,rfl,h5⟩:=DH4;obtain⟨g8,rfl,h4⟩:=DH8;subst ha;rw[a9];simp only[zP,List.foldl_cons,List.foldl_nil,Act.put,sPa,sPb,sPc];go_simp;refine hK.out _ _ ?_;refine⟨(.slice g4 m c4),(.slice (some ⟨g8,0,none⟩) m m),(.agg #[.int .i64 k,.int .i64 0,(.slice g4 m c4),(.slice (some ⟨g8,0,none⟩) m m)]),x3,o,?fa9,fun j hj=>zD (HR j hj),Kh (fun _=>⟨g4,c4,rfl,h5⟩),Kh (fun _=>⟨g8,rfl,h4⟩),Kh (fun _=>⟨zD (zM (h0 ⟨4,.data⟩ (by simp) rfl)),zD (zM (h0 ⟨8,.data⟩ (by simp) rfl)),rfl⟩),(hs7P h2),Kh (fun h h9=>B1.out (zE (by decide) h) (zI h9)),Kh (fun h=>absurd (B2.out (zE (by decide) h)).2.2.1 (by rw[h1];simp)),HG⟩
  case fa9=>rw[a9];simp only[zP,List.foldl_cons,List.foldl_nil,Act.put,sPa,sPb,sPc]
 case s10 =>
  intro l a w h h1 h0 K hK;obtain⟨x12,x16,x17,x3,o,ha,HR,H4,H8,H9,h2,B1,B2,HG⟩:=h;subst ha;rw[a9];simp only[zP,List.foldl_cons,List.foldl_nil,Act.put,sPa,sPb,sPc];go_simp;refine hK.out _ _ ?_;refine⟨x12,x16,x17,(.pointer (some ⟨w.heap.size,0,none⟩)),w.heap.size,?fa10,fun j hj=>zD (HR j hj),Kh (fun h=>let ⟨g,c,e,ho⟩:=H4.out (zE (by decide) h);⟨g,c,e,zY ho (Ga w (.cells #[.int .i64 0,.int .i64 0,.slice none 0 0,.slice none 0 0] 29) none)⟩),Kh (fun h=>let ⟨g,e,ho⟩:=H8.out (zE (by decide) h);⟨g,e,zY ho (Ga w (.cells #[.int .i64 0,.int .i64 0,.slice none 0 0,.slice none 0 0] 29) none)⟩),(hs7R H9),Kh (fun _=>⟨rfl,HG.size⟩),Kh (fun _ _=>heap_alloc_new w _),Kh (fun h=>absurd (B2.out (zE (by decide) h)).2.2.2.1 (by rw[h1];simp)),zC HG (Ga w (.cells #[.int .i64 0,.int .i64 0,.slice none 0 0,.slice none 0 0] 29) none)⟩
  case fa10=>rw[a9];simp only[zP,List.foldl_cons,List.foldl_nil,Act.put,sPa,sPb,sPc]
 intro l a w h h1 h0 K hK;obtain⟨x12,x16,x17,x3,o,ha,HR,H4,H8,H9,h2,B1,B2,HG⟩:=h;have DH10:=h2.out (zM (h0 ⟨10,.data⟩ (by simp) rfl));have DB1:=B1.out (zM (h0 ⟨10,.data⟩ (by simp) rfl));have DH9:=H9.out (zM (h0 ⟨9,.data⟩ (by simp) rfl));obtain⟨rfl,ho⟩:=DH10;obtain⟨H0,h8,rfl⟩:=DH9;have H3:=zM (h0 ⟨9,.data⟩ (by simp) rfl);have H1:=zM (h0 ⟨10,.data⟩ (by simp) rfl);obtain⟨g4,c4,rfl,h5⟩:=H4.out H0;obtain⟨g8,rfl,h4⟩:=H8.out h8;have hb:=DB1 h1;subst ha;rw[a9];simp only[zP,List.foldl_cons,List.foldl_nil,Act.put,sPa,sPb,sPc];obtain⟨k0,k1,k2,k3⟩:=zL hb;have f0:=zA hb 0;have f1:=zA hb 1;have f2:=zA hb 2;have f3:=zA hb 3;go_simp;obtain⟨H2,h6⟩:=uF hb (.int .i64 k) (.int .i64 0) (.slice g4 m c4) (.slice (some ⟨g8,0,none⟩) m m);refine hK.out _ _ ?_;refine⟨(.slice g4 m c4),(.slice (some ⟨g8,0,none⟩) m m),(.agg #[.int .i64 k,.int .i64 0,(.slice g4 m c4),(.slice (some ⟨g8,0,none⟩) m m)]),(.pointer (some ⟨o,0,none⟩)),o,?fa11,fun j hj=>zD (HR j hj),Kh (fun _=>⟨g4,c4,rfl,h5.kept h6 (.inr (zV h5 hb (by decide)))⟩),Kh (fun _=>⟨g8,rfl,h4.kept h6 (.inr (zV h4 hb (by decide)))⟩),Kh (fun _=>⟨zD H0,zD h8,rfl⟩),Kh (fun _=>⟨rfl,ho⟩),Kh (fun _ h9=>yF h9),Kh (fun _=>⟨zD H0,zD h8,zD H3,zD H1,H2⟩),yG HG h6 (by show _<=o;omega)⟩
 case fa11=>rw[a9];simp only[zP,List.foldl_cons,List.foldl_nil,Act.put,sPa,sPb,sPc]
inductive AutS (w6:World)(o k m ng:Nat)(sa:Option Addr)(sc:Nat)(ac:List Bool)(hs:List Value)(dn:List (List Int))(tl:List RowS)(w:World):Prop
 | mk (X:Nat->Prop) (hB:BoxS w6.heap.size X o 29 w6 w (⟨w6.heap.size,4,.slice sa m sc,m,bls ac,1⟩::⟨w6.heap.size,22,.slice (some ⟨ng,0,none⟩) m m,m,hs,1⟩::tl) #[.int .i64 (k:Int),.int .i64 0,.slice sa m sc,.slice (some ⟨ng,0,none⟩) m m] w) (hT:xU X 3 ints w (hs.take dn.length) dn)
section
variable {w6 w w':World} {o k m ng sc:Nat} {sa:Option Addr} {ac:List Bool} {hs:List Value} {dn:List (List Int)} {tl:List RowS}
theorem AutS.grow (h:AutS w6 o k m ng sa sc ac hs dn tl w)(hg:w.grownBy w' none):AutS w6 o k m ng sa sc ac hs dn tl w':=by
 obtain⟨X,hB,hT⟩:=h;exact⟨X,(hB.grow hg).rebase,hT.kept (hB.mem.keep hg) hg.size⟩
theorem AutS.g (h:AutS w6 o k m ng sa sc ac hs dn tl w):w6.grownBy w none:=by
 obtain⟨X,hB,hT⟩:=h;exact hB.grown
theorem AutS.cells (h:AutS w6 o k m ng sa sc ac hs dn tl w):w.heap[o]?=some (.cells #[.int .i64 (k:Int),.int .i64 0,.slice sa m sc,.slice (some ⟨ng,0,none⟩) m m] 29 (0,0))/\Arr w ng 22 hs/\hs.length=m:=by
 obtain⟨X,hB,hT⟩:=h;have h1:=hB.own (r:=⟨w6.heap.size,22,.slice (some ⟨ng,0,none⟩) m m,m,hs,1⟩) (by simp);exact⟨hB.box,Arr.of_owns h1,by have:=h1.1;simpa using this⟩
theorem AutS.begin {cg i:Nat}{xs:List Value}(h:AutS w6 o k m ng sa sc ac hs dn [] w)(hi:i<m)(hd:dn.length=i)(hg:w.grownBy w' none)(ho:w'.ownsRow w.heap.size 3 1 (.slice (some ⟨cg,0,none⟩) k k) k xs):AutS w6 o k m ng sa sc ac (hs.set i (.slice (some ⟨cg,0,none⟩) k k)) dn (⟨w6.heap.size,3,.slice (some ⟨cg,0,none⟩) k k,k,xs,1⟩::[]) (w'.setCell ⟨ng,i,none⟩ (.slice (some ⟨cg,0,none⟩) k k)):=by
 obtain⟨X,hB,hT⟩:=h;have hA:=hB.add hg (e:=3) (sz:=1) (n:=k) (v:=.slice (some ⟨cg,0,none⟩) k k) (xs:=xs) ho (by decide);have hP:=hA.put (j:=1) rfl hi (.slice (some ⟨cg,0,none⟩) k k);refine⟨X,hP.rebase,?_⟩;rw[List.take_set_of_le (by omega)];exact hT.kept hP.kept hP.wk
theorem AutS.putC {cg j:Nat}{xs:List Value}(h:AutS w6 o k m ng sa sc ac hs dn (⟨w6.heap.size,3,.slice (some ⟨cg,0,none⟩) k k,k,xs,1⟩::[]) w)(hj:j<k)(u:Value):AutS w6 o k m ng sa sc ac hs dn (⟨w6.heap.size,3,.slice (some ⟨cg,0,none⟩) k k,k,(xs.set j u),1⟩::[]) (w.setCell ⟨cg,j,none⟩ u):=by
 obtain⟨X,hB,hT⟩:=h;have hP:=hB.put (j:=2) rfl hj u;exact⟨X,hP.rebase,hT.kept hP.kept hP.wk⟩
theorem AutS.arrC {cg:Nat}{xs:List Value}(h:AutS w6 o k m ng sa sc ac hs dn (⟨w6.heap.size,3,.slice (some ⟨cg,0,none⟩) k k,k,xs,1⟩::[]) w):Arr w cg 3 xs/\xs.length=k:=by
 obtain⟨X,hB,hT⟩:=h;have h1:=hB.own (r:=⟨w6.heap.size,3,.slice (some ⟨cg,0,none⟩) k k,k,xs,1⟩) (by simp);exact⟨Arr.of_owns h1,by have:=h1.1;simpa using this⟩
theorem AutS.fin {cg i:Nat}{r:List Int}(h:AutS w6 o k m ng sa sc ac hs dn (⟨w6.heap.size,3,.slice (some ⟨cg,0,none⟩) k k,k,ints r,1⟩::[]) w)(hd:dn.length=i)(hi:i<m)(hh:hs[i]?=some (.slice (some ⟨cg,0,none⟩) k k)):AutS w6 o k m ng sa sc ac hs (dn++[r]) [] w:=by
 obtain⟨X,hB,hT⟩:=h;have hR:=BoxS.retire (rs:=(⟨w6.heap.size,4,.slice sa m sc,m,bls ac,1⟩::⟨w6.heap.size,22,.slice (some ⟨ng,0,none⟩) m m,m,hs,1⟩::[])) (r:=⟨w6.heap.size,3,.slice (some ⟨cg,0,none⟩) k k,k,ints r,1⟩) hB;refine⟨_,hR,?_⟩;have hX:RowX (fun j=>X j\/(Value.slice (some ⟨cg,0,none⟩) k k).ownBlock=some j) 3 w (.slice (some ⟨cg,0,none⟩) k k) (ints r):=RowX.of_owns (hB.own (r:=⟨w6.heap.size,3,.slice (some ⟨cg,0,none⟩) k k,k,ints r,1⟩) (by simp)) (fun j hj=>.inr hj);have h9:=(hT.mono (X':=fun j=>X j\/(Value.slice (some ⟨cg,0,none⟩) k k).ownBlock=some j) (fun j hj=>.inl hj)).snoc hX
 have e:hs.take dn.length++[.slice (some ⟨cg,0,none⟩) k k]=hs.take (dn++[r]).length:=by
  rw[List.length_append,List.length_singleton,hd,List.take_add_one,hh];rfl
 rw[e]at h9;exact h9
end
theorem qRK {Q:Exit->Act->World->Prop}{v0 v2 v3 v4 v5 v6 v7 v8 v9 e1 e2 e3 e4 e5 e6 e7 e8 d0 d1 d2 d3 d4 d5 d6 d7 d8 d9 c0 c1 c2 c3 c5 c6 c7 c8 c9 b0 b1 b2 b3 b4 b5 b6 b7 b8 b9 a1 a2 a3 a4 a5 a6 a7 a8:Value}{w:World}{k m P aC tC:Nat}{aA tA:Option Addr}{ac:List Bool}(e0:m<=400)(hC:w.cell? ⟨P,0,none⟩=some (.int .i64 k)/\w.cell? ⟨P,4,none⟩=some (.slice aA m aC)/\w.cell? ⟨P,1,none⟩=some (.slice tA m tC))(e9:∀W:World,w.grownBy W none->Calls Tryz.prog 96 #[.slice aA m aC] W fun e w'=>∃sa sc,e=.returned (.slice sa m sc)/\w'.ownsRow W.heap.size 4 1 (.slice sa m sc) m (bls ac)/\W.grownBy w' none)(a9:∀(z8 z9 z10 z11 z12 z13 z14 z15 z16 z17:Value) (w6 w':World) (o ng:Nat) (sa:Option Addr) (sc:Nat),w.grownBy w6 none->AutS w6 o k m ng sa sc ac (List.replicate m (.slice none 0 0)) [] [] w'->Q .normal ⟨(v0::(Value.pointer (some ⟨P,0,none⟩))::v2::(Value.pointer (some ⟨o,0,none⟩))::v4::v5::v6::v7::z8::z9::z10::z11::z12::z13::z14::z15::z16::z17::d0::d1::d2::d3::d4::d5::d6::d7::d8::d9::c0::c1::c2::c3::c5::c6::c7::c8::c9::b0::b1::b2::b3::b4::b5::b6::b7::b8::b9::a1::a2::a3::a4::a5::a6::a7::a8::[]).toArray,[]⟩ w'):Code.wp Tryz.prog (reg Tryz.f66 1) Q ⟨(v0::(Value.pointer (some ⟨P,0,none⟩))::v2::v3::v4::v5::v6::v7::v8::v9::e1::e2::e3::e4::e5::e6::e7::e8::d0::d1::d2::d3::d4::d5::d6::d7::d8::d9::c0::c1::c2::c3::c5::c6::c7::c8::c9::b0::b1::b2::b3::b4::b5::b6::b7::b8::b9::a1::a2::a3::a4::a5::a6::a7::a8::[]).toArray,[]⟩ w:=by
 obtain⟨h5,h4,h3⟩:=hC
 conv=>arg 2;whnf
 obtain⟨w5,h2⟩:=Nm w.drew;have h1:w.grownBy w5 none:=by rw[h2];exact zS w none
 have H0:=Kh h2;have H1:=Kh h1;have C:Hid (w5.cell? ⟨P,0,none⟩=some (.int .i64 k)/\w5.cell? ⟨P,4,none⟩=some (.slice aA m aC)/\w5.cell? ⟨P,1,none⟩=some (.slice tA m tC)):=Kh ⟨zK h5 h1,zK h4 h1,zK h3 h1⟩;have H2:Hid (∀W:World,w5.grownBy W none->Calls Tryz.prog 96 #[.slice aA m aC] W fun e w'=>∃sa sc,e=.returned (.slice sa m sc)/\w'.ownsRow w5.heap.size 4 1 (.slice sa m sc) m (bls ac)/\W.grownBy w' none):=Kh (fun W hW=>(e9 W (zC h1 hW)).mono fun e w' ⟨g,c,he,ho,hg⟩=>⟨g,c,he,wV ho hW.size,hg⟩);have h9:m<=maxLen:=by unfold maxLen;omega
 clear h2 h1 h5 h4 h3 e9;refine wp_region_noPanic ?_;refine yM (G:=wH 11 (fun W=>W.cell? ⟨P,0,none⟩=some (.int .i64 k)/\W.cell? ⟨P,4,none⟩=some (.slice aA m aC)/\W.cell? ⟨P,1,none⟩=some (.slice tA m tC)) (fun _=>True)) (by kernel_rfl) ?_;rw[<-H0.out];refine zO 0 ⟨C.out,fun _=>trivial⟩ ?_;refine zO 1 ⟨C.out,fun _=>trivial⟩ ?_;refine zO 2 ⟨C.out,fun _=>trivial⟩ ?_;refine zO 3 ⟨C.out,fun _=>trivial⟩ ?_;refine zO 5 ⟨C.out,fun _=>trivial⟩ ?_;refine zO 6 ⟨C.out,fun _=>trivial⟩ ?_;refine zO 7 ⟨C.out,fun _=>trivial⟩ ?_;refine uR (fun Wp hWp a0 ha0=>?_);subst hWp
 try simp only[Act.put,sPd,sPe,sPf,sPa,sPb,sPc]at ha0
 have H3:=Kh ha0;refine uQ (I:=pa1I k m P aC tC aA tA ac w5 a0) (fun l a w h=>qUA C.out h) (qJX ha0 (qFU m (by omega)) (Kh (qFW rfl m)) h9 H2.out) (by kernel_rfl) ?hend (by decide +kernel) ?hinit
 case hinit =>
  clear ha0;refine⟨a0.tmps.getD 12 undef,a0.tmps.getD 16 undef,a0.tmps.getD 17 undef,a0.tmps.getD 3 undef,0,(vX (by simp)).symm,by decide +kernel,Kh (fun h=>absurd h (by decide +kernel)),Kh (fun h=>absurd h (by decide +kernel)),Kh (fun h=>absurd h (by decide +kernel)),Kh (fun h=>absurd h (by decide +kernel)),Kh (fun h=>absurd h (by decide +kernel)),Kh (fun h=>absurd h (by decide +kernel)),zU _ _⟩
 clear ha0;intro l a w6 h h0;obtain⟨x12,x16,x17,x3,o,ha,HR,H4,H8,H9,h8,B1,B2,HG⟩:=h;obtain⟨g4,c4,rfl,h7⟩:=H4.out (h0 4 (by decide));obtain⟨g8,rfl,h6⟩:=H8.out (h0 8 (by decide));obtain⟨_,_,rfl⟩:=H9.out (h0 9 (by decide));obtain⟨rfl,ho⟩:=h8.out (h0 10 (by decide));obtain⟨_,_,_,_,hb⟩:=B2.out (h0 11 (by decide));clear H4 H8 H9 h8 B1 B2 HR;subst ha;rw[H3.out];simp only[zP,List.foldl_cons,List.foldl_nil,Act.put,sPa,sPb,sPc];refine NoPanic.normal ?_;refine a9 _ _ _ _ _ _ _ _ _ _  w5 w6 o g8 g4 c4 H1.out ⟨fun _=>False,⟨⟨?_,?_,fun r hr k hk hx=>hx,fun k hk=>hk.elim⟩,?_,hb,fun h=>h,Nat.le_refl _,ho,HG.size,HG,xV.refl _ _,Nat.le_refl _⟩,xU.nil⟩
 ·intro r hr
  simp only[List.mem_cons,List.not_mem_nil,or_false]at hr;rcases hr with rfl|rfl
  ·exact h7
  exact h6
 ·refine List.pairwise_cons.2 ⟨fun s hs=>?_,List.pairwise_cons.2 ⟨fun s hs=>by simp at hs,List.Pairwise.nil⟩⟩
  simp only[List.mem_cons,List.not_mem_nil,or_false]at hs;subst hs;exact qX h7 h6 (by decide)
 intro r hr;simp only[List.mem_cons,List.not_mem_nil,or_false]at hr;rcases hr with rfl|rfl<;>exact⟨rfl,by simp⟩
theorem qRJ {Q:Exit->Act->World->Prop}{v0 v2 v5 v6 v7 v8 v9 d0 d1 d2 d3 d4 d5 d6 d7 d8 d9 c1 c2 c3 c4 c5 c6 e3 e4 e5 e6 e7 e8 e9 c7 c8 c9 b0 b1 b2 b3 b4 b5 b6 b7 b8 b9 a0 a1 a2 a3 a4 a5 a6 a7 a8:Value}{w6 w:World}{o k m ng sc:Nat}{sa:Option Addr}{ac:List Bool}{hs:List Value}{dn:List (List Int)}{P i:Nat}(h:AutS w6 o k m ng sa sc ac hs dn [] w)(hi:i<m)(hd:dn.length=i)(hm:m<=400)(e2:k<=6)(c0:w.cell? ⟨P,0,none⟩=some (.int .i64 (k:Int)))(a9:∀(z26 z27 z28 z29 z30 z31 z32:Value) (w':World) (cg:Nat),AutS w6 o k m ng sa sc ac (hs.set i (.slice (some ⟨cg,0,none⟩) k k)) dn (⟨w6.heap.size,3,.slice (some ⟨cg,0,none⟩) k k,k,ints (List.replicate k 0),1⟩::[]) w'->Q .normal ⟨(v0::(Value.pointer (some ⟨P,0,none⟩))::v2::(Value.pointer (some ⟨o,0,none⟩))::(Value.int .i64 (i:Int))::v5::v6::v7::v8::v9::d0::d1::d2::d3::d4::d5::d6::d7::d8::d9::c1::c2::c3::c4::c5::c6::z26::z27::z28::z29::z30::z31::z32::c7::c8::c9::b0::b1::b2::b3::b4::b5::b6::b7::b8::b9::a0::a1::a2::a3::a4::a5::a6::a7::a8::[]).toArray,[]⟩ w'):Code.wp Tryz.prog (reg Tryz.f66 5) Q ⟨(v0::(Value.pointer (some ⟨P,0,none⟩))::v2::(Value.pointer (some ⟨o,0,none⟩))::(Value.int .i64 (i:Int))::v5::v6::v7::v8::v9::d0::d1::d2::d3::d4::d5::d6::d7::d8::d9::c1::c2::c3::c4::c5::c6::e3::e4::e5::e6::e7::e8::e9::c7::c8::c9::b0::b1::b2::b3::b4::b5::b6::b7::b8::b9::a0::a1::a2::a3::a4::a5::a6::a7::a8::[]).toArray,[]⟩ w:=by
 obtain⟨H3,h7,f0⟩:=h.cells
 have h0:∀W:World,w.grownBy W none->W.cell? ⟨o,3,none⟩=some (.slice (some ⟨ng,0,none⟩) m m)/\W.cell? ⟨P,0,none⟩=some (.int .i64 (k:Int)):=fun W hg=>by
  have q2:=zH (zB H3 hg) 3;simp only[List.getElem_toArray,List.getElem_cons_zero,List.getElem_cons_succ]at q2;exact⟨q2,zK c0 hg⟩
 have h2:∀W:World,w.grownBy W none->∃u,W.cell? ⟨ng,i,none⟩=some u:=fun W hg=>⟨_,(h7.kept hg (by simp)).cell i (by omega)⟩;have H2:∀W:World,w.grownBy W none->W.frozen? ⟨ng,i,none⟩=false:=fun W hg=>(h7.kept hg (by simp)).frozen i;obtain⟨H,H9,H8⟩:=K3 h h2 H2;have f1:(i:Int)<m:=by omega
 have e1:∀w:World,(Instr.makeSlice 22 (.int .i64 (k:Int)) (.int .i64 (k:Int))).run Tryz.prog w=.ok (.slice (some ⟨w.heap.size,0,none⟩) k k) (w.alloc (.cells (madeCells #[.int .i64 0] k) 3)) :=
  fun w=>qQF k (by omega) w
 clear h H3 h7 h2 H2 c0;have H4:Hid (∀W:World,w.grownBy W none->W.cell? ⟨o,3,none⟩=some (.slice (some ⟨ng,0,none⟩) m m)/\W.cell? ⟨P,0,none⟩=some (.int .i64 (k:Int))):=Kh (fun W hg=>h0 W hg);clear h0
 conv=>arg 2;whnf
 obtain⟨w7,h5⟩:=Nm w.drew;have H1:w.grownBy w7 none:=by rw[h5];exact zS w none
 have H6:=Kh h5;have H0:=Kh H1;clear h5 H1;refine wp_region_noPanic ?_;refine yM (G:=wH 7 (fun _=>True) (fun W=>W.cell? ⟨o,3,none⟩=some (.slice (some ⟨ng,0,none⟩) m m)/\W.cell? ⟨P,0,none⟩=some (.int .i64 (k:Int)))) (by kernel_rfl) ?_;rw[<-H6.out];have C:=Kh (H4.out w7 H0.out);refine zO 0 ⟨trivial,fun _=>C.out⟩ ?_;refine yY 1 ⟨trivial,fun _=>C.out⟩ ?_;refine zO 2 ⟨trivial,fun _=>C.out⟩ ?_;refine zO 3 ⟨trivial,fun _=>C.out⟩ ?_;refine yY 4 ⟨trivial,fun _=>C.out⟩ ?_;have h1:=oM (w:=w7) (b:=w7.heap.size) (m:=k) (e:=3) (by rw[qAH,yN]) (Nat.le_refl _) (by unfold maxLen;omega);rw[show List.replicate k (Value.int .i64 0)=ints (List.replicate k 0) by simp[ints]]at h1;have h4:=Ga w7 (.cells (madeCells #[.int .i64 0] k) 3) none;obtain⟨cg,h6⟩:=Nm w7.heap.size;obtain⟨w9,h3⟩:=Nm (w7.alloc (.cells (madeCells #[.int .i64 0] k) 3));have h8:Hid (w9.ownsRow w7.heap.size 3 1 (.slice (some ⟨cg,0,none⟩) k k) k (ints (List.replicate k 0))):=Kh (by rw[h6,h3];exact h1);rw[<-h3]at h4;have H7:=Kh h4;have h9:=Kh (zC H0.out h4);have C9:=Kh (H4.out w9 h9.out);have H5:=Kh h3;have e0:=Kh h6;clear h6 h3 h4 h1;refine oneG (i:=5) (by kernel_rfl) rfl (fun K hK=>?_);go_simp;rw[<-e0.out,<-H5.out];refine hK.out _ _ ⟨trivial,fun _=>C9.out⟩ ?_;clear hK K C
 try simp only[Act.put,sPd,sPe,sPf,sPa,sPb,sPc]
 refine zO 6 ⟨trivial,fun _=>C9.out⟩ ?_;obtain⟨u9,q9⟩:=H9.out w9 h9.out;have f9:=H8.out w9 h9.out;refine oneG (i:=7) (by kernel_rfl) rfl (fun K hK=>?_);go_simp;refine hK.out _ _ ⟨trivial,fun h=>by simp at h⟩ ?_;clear hK K q9 f9
 try simp only[Act.put,sPd,sPe,sPf,sPa,sPb,sPc]
 refine tT (by kernel_rfl) ?_ _;refine NoPanic.normal ?_;exact a9 _ _ _ _ _ _ _  _ cg ((H.out.grow H0.out).begin hi hd H7.out h8.out)
theorem qSQ {Q:Exit->Act->World->Prop}{v0 v1 v2 v8 v9 d3 d4 d5 d6 d7 d8 d9 c1 c2 c3 c4 c5 c6 c7 c8 c9 b0 b1 b2 b3 b4 b5 b6 b7 b8 b9 a0 a1 a2 a3 a4 e2 e3 e4 e5 e6 e7 e8 e9 d0 d1 d2 a5 a6 a7:Value}{w6 w:World}{o k m ng sc:Nat}{sa:Option Addr}{ac:List Bool}{hs:List Value}{dn:List (List Int)}{i j y rb ro rc cg:Nat}{z:Int}{xs:List Value}(h:AutS w6 o k m ng sa sc ac hs dn (⟨w6.heap.size,3,.slice (some ⟨cg,0,none⟩) k k,k,xs,1⟩::[]) w)(hi:i<m)(hj:j<k)(e1:y<m)(hm:m<=400)(e0:k<=6)(hh:hs[i]?=some (.slice (some ⟨cg,0,none⟩) k k))(c0:w.cell? ⟨rb,ro+y,none⟩=some (.int .i64 z))(a8:m<=rc/\rc<=maxLen)(a9:∀(z41 z42 z43 z44 z45 z46 z47 z48 z49 z50 z51:Value) (w':World),AutS w6 o k m ng sa sc ac hs dn (⟨w6.heap.size,3,.slice (some ⟨cg,0,none⟩) k k,k,(xs.set j (.int .i64 z)),1⟩::[]) w'->Q .normal ⟨(v0::v1::v2::(Value.pointer (some ⟨o,0,none⟩))::(Value.int .i64 (i:Int))::(Value.slice (some ⟨rb,ro,none⟩) m rc)::(Value.int .i64 (j:Int))::(Value.int .i64 (y:Int))::v8::v9::d3::d4::d5::d6::d7::d8::d9::c1::c2::c3::c4::c5::c6::c7::c8::c9::b0::b1::b2::b3::b4::b5::b6::b7::b8::b9::a0::a1::a2::a3::a4::z41::z42::z43::z44::z45::z46::z47::z48::z49::z50::z51::a5::a6::a7::[]).toArray,[]⟩ w'):Code.wp Tryz.prog (reg Tryz.f66 9) Q ⟨(v0::v1::v2::(Value.pointer (some ⟨o,0,none⟩))::(Value.int .i64 (i:Int))::(Value.slice (some ⟨rb,ro,none⟩) m rc)::(Value.int .i64 (j:Int))::(Value.int .i64 (y:Int))::v8::v9::d3::d4::d5::d6::d7::d8::d9::c1::c2::c3::c4::c5::c6::c7::c8::c9::b0::b1::b2::b3::b4::b5::b6::b7::b8::b9::a0::a1::a2::a3::a4::e2::e3::e4::e5::e6::e7::e8::e9::d0::d1::d2::a5::a6::a7::[]).toArray,[]⟩ w:=by
 obtain⟨h7,h8,H3⟩:=h.cells;obtain⟨h4,H2⟩:=h.arrC
 have h0:∀W:World,w.grownBy W none->W.cell? ⟨o,3,none⟩=some (.slice (some ⟨ng,0,none⟩) m m)/\W.cell? ⟨ng,i,none⟩=some (.slice (some ⟨cg,0,none⟩) k k)/\W.cell? ⟨rb,ro+y,none⟩=some (.int .i64 z):=fun W hg=>by
  have q2:=zH (zB h7 hg) 3;simp only[List.getElem_toArray,List.getElem_cons_zero,List.getElem_cons_succ]at q2;exact⟨q2,pJ (h8.kept hg (by simp)) hh,zK c0 hg⟩
 have h1:∀W:World,w.grownBy W none->∃u,W.cell? ⟨cg,j,none⟩=some u:=fun W hg=>⟨_,(h4.kept hg (by simp)).cell j (by omega)⟩;have h6:∀W:World,w.grownBy W none->W.frozen? ⟨cg,j,none⟩=false:=fun W hg=>(h4.kept hg (by simp)).frozen j;obtain⟨H,H6,H5⟩:=K3 h h1 h6;have H9:(i:Int)<m:=by omega
 have H8:(j:Int)<k:=by omega
 have h9:(y:Int)<m:=by omega
 have H1:=a8.1;have H0:rc<=9223372036854775807:=by have:=a8.2;unfold maxLen at this;omega
 clear h h7 h8 h4 h1 h6 c0 hh a8 H3 H2;have H7:Hid (∀W:World,w.grownBy W none->W.cell? ⟨o,3,none⟩=some (.slice (some ⟨ng,0,none⟩) m m)/\W.cell? ⟨ng,i,none⟩=some (.slice (some ⟨cg,0,none⟩) k k)/\W.cell? ⟨rb,ro+y,none⟩=some (.int .i64 z)):=Kh (fun W hg=>h0 W hg);clear h0
 conv=>arg 2;whnf
 obtain⟨w7,h3⟩:=Nm w.drew;have h5:w.grownBy w7 none:=by rw[h3];exact zS w none
 have H4:=Kh h3;have h2:=Kh h5;clear h3 h5;refine wp_region_noPanic ?_;refine yM (G:=wH 11 (fun _=>True) (fun W=>W.cell? ⟨o,3,none⟩=some (.slice (some ⟨ng,0,none⟩) m m)/\W.cell? ⟨ng,i,none⟩=some (.slice (some ⟨cg,0,none⟩) k k)/\W.cell? ⟨rb,ro+y,none⟩=some (.int .i64 z))) (by kernel_rfl) ?_;rw[<-H4.out];have C:=Kh (H7.out w7 h2.out);refine zO 0 ⟨trivial,fun _=>C.out⟩ ?_;refine yY 1 ⟨trivial,fun _=>C.out⟩ ?_;refine zO 2 ⟨trivial,fun _=>C.out⟩ ?_;refine zO 3 ⟨trivial,fun _=>C.out⟩ ?_;refine yY 4 ⟨trivial,fun _=>C.out⟩ ?_;refine zO 5 ⟨trivial,fun _=>C.out⟩ ?_;refine zO 6 ⟨trivial,fun _=>C.out⟩ ?_;refine zO 7 ⟨trivial,fun _=>C.out⟩ ?_;refine zO 8 ⟨trivial,fun _=>C.out⟩ ?_;refine yY 9 ⟨trivial,fun _=>C.out⟩ ?_;refine zO 10 ⟨trivial,fun _=>C.out⟩ ?_;obtain⟨u9,q9⟩:=H6.out w7 h2.out;have f9:=H5.out w7 h2.out;refine oneG (i:=11) (by kernel_rfl) rfl (fun K hK=>?_);go_simp;refine hK.out _ _ ⟨trivial,fun h=>by simp at h⟩ ?_;clear hK K q9 f9
 try simp only[Act.put,sPd,sPe,sPf,sPa,sPb,sPc]
 refine tT (by kernel_rfl) ?_ _;refine NoPanic.normal ?_;exact a9 _ _ _ _ _ _ _ _ _ _ _  _ ((H.out.grow h2.out).putC hj _)
end Go.Proofs.YtobakifdllameaaGreat
namespace Go.Proofs.YtobakifdllameaaGreat
open Go.RowKit
theorem qH {w w':World}{p:Addr}{u:Value}{row:Option Nat}(h:w.cell? p=some u)(hg:w.grownBy w' row)(hr:∀k,row=some k->k≠p.block):w'.cell? p=some u:=(World.cell?_of_block (hg.block p.block (World.block_lt_of_cell? w p h) (fun e=>hr _ e.symm rfl))).trans h
theorem mW {M:DfaV}{m k:Nat}(h:VD M m k):∀g∈pG M m k,IsT m g:=by
 intro g hg;obtain⟨a,ha,rfl⟩:=List.mem_map.1 hg;refine⟨by simp,fun x hx=>?_⟩;obtain⟨q,hq,rfl⟩:=List.mem_map.1 hx;exact pB h (List.mem_range.1 hq) (List.mem_range.1 ha)
def mD (d:DfaV)(S:SynV):Prop:=∃(n k m:Nat) (M:DfaV),VD d n k/\M=minD d k/\VD M m k/\m<=32/\SynE (pG M m k) m (st0 M) M.final S
theorem mD.at {d:DfaV}{S:SynV}{n k m:Nat}(h:mD d S)(hd:VD d n k)(hM:VD (minD d k) m k):m<=32/\SynE (pG (minD d k) m k) m (st0 (minD d k)) (minD d k).final S:=by
 obtain⟨n',k',m',M',h1,rfl,h3,h0,h2⟩:=h;have ek:k'=k:=by have:=hd.hk;have:=h1.hk;omega
 subst ek;have em:m'=m:=by rw[<-hM.hn,<-h3.hn]
 subst em;exact⟨h0,h2⟩
theorem qFT {d:DfaV}{n k m:Nat}(hd:VD d n k)(hM:VD (minD d k) m k)(h:32<m\/qDL (pG (minD d k) m k) m)(S:SynV):¬mD d S:=fun hS=>by
 obtain⟨h1,el,pr,la,ri,mm,hf,hl,_⟩:=hS.at hd hM
 rcases h with h|h
 ·omega
 ·have:=h _ _ _ _ hf;omega
def Huge (d:DfaV):Prop:=∃m,m<=d.final.length/\(32<m\/Big m)
def qMC (d:DfaV)(w:World)(e:Ending)(w':World):Prop :=
 (∃c:Int,e=.returned (.tuple #[.agg #[.int .i64 0,.slice none 0 0,.slice none 0 0,.slice none 0 0,.slice none 0 0,.slice none 0 0],.int .i64 c])/\c≠0/\(uJ d≠0->c=uJ d)/\(uJ d=0->c=3/\Huge d/\∀S,¬mD d S)/\w.grownBy w' none) \/
 ∃(S:SynV) (v:Value) (n k m:Nat) (M:DfaV),VD d n k/\M=minD d k/\VD M m k/\m<=32/\e=.returned (.tuple #[v,.int .i64 0])/\SynE (pG M m k) m (st0 M) M.final S/\gF w'.heap.size w' v S/\w.grownBy w' none
theorem qRL (B:Nat)(w:World)(v:Value)(d:DfaV)(hB:B<=w.heap.size)(h:tR B w v d):Calls Tryz.prog 11 #[v] w (qMC d w):=by
 obtain⟨fv,nv,rfl,hf,hn⟩:=id h;obtain⟨fA,fC,rfl⟩:=hf.shape;obtain⟨nA,nC,rfl⟩:=hn.shape;rw[zX]at h⊢;obtain⟨nf,g0⟩:=Nm d.final.length;obtain⟨nn,f9⟩:=Nm d.next.length;rw[<-g0,<-f9]at h⊢;obtain⟨wA,b9⟩:=Nm ((w.alloc (.cells #[.int .i64 d.letters,.int .i64 d.start,.slice fA nf fC,.slice nA nn nC] 29)).alloc (.cells #[.int .i64 0,.slice none 0 0,.slice none 0 0,.slice none 0 0,.slice none 0 0,.slice none 0 0] 39));have g1:=Ga w (.cells #[.int .i64 d.letters,.int .i64 d.start,.slice fA nf fC,.slice nA nn nC] 29) none;have n1:=heap_alloc_new w (.cells #[.int .i64 d.letters,.int .i64 d.start,.slice fA nf fC,.slice nA nn nC] 29);obtain⟨w1,b6⟩:=Nm (w.alloc (.cells #[.int .i64 d.letters,.int .i64 d.start,.slice fA nf fC,.slice nA nn nC] 29));rw[<-b6]at g1 n1 b9;have g2:=Ga w1 (.cells #[.int .i64 0,.slice none 0 0,.slice none 0 0,.slice none 0 0,.slice none 0 0,.slice none 0 0] 39) none;have n2:=heap_alloc_new w1 (.cells #[.int .i64 0,.slice none 0 0,.slice none 0 0,.slice none 0 0,.slice none 0 0,.slice none 0 0] 39);rw[<-b9]at g2 n2;have c7:w1.heap.size=w.heap.size+1:=by rw[b6];simp
 have e1:=zB n1 g2;obtain⟨P,hP⟩:=Nm w.heap.size;have a8:=Kh hP;rw[c7]at n2;rw[<-hP]at e1 n2;have b7:=zC g1 g2;have e0:=h.kept b7 (by simp);have j1:=Kh (bX B wA _ d (Nat.le_trans hB b7.size) e0);obtain⟨i7,j0,HG,HD,i3,k2⟩:=K6 b9 b6 b7 e0 e1 n2;have k4:=Kh c7;clear hf hn h g0 f9 b9 g1 n1 b6 g2 n2 e1 b7 e0 c7;go_enter Tryz.func11,Tryz.ntmps11;go_upto_region 1 with fail;rw[<-j0.out,<-i7.out,<-a8.out];clear hP;obtain⟨c0,c1,c2,c3⟩:=zL i3.out;go_wp2_with fail;refine j1.out.mono ?_;rintro e w2 ⟨rfl,b8⟩;have c6:=Kh b8;have H6:=zB i3.out b8;have h4:=zB k2.out b8;have k3:=Kh H6;have b3:=Kh h4;obtain⟨d0,d1,d2,d3⟩:=zL H6;obtain⟨p0,p1,p2,p3,p4,p5⟩:=yD h4;have f0:=zA h4 0;have f1:=zA h4 1;have f2:=zA h4 2;have f3:=zA h4 3;have f4:=zA h4 4;have f5:=zA h4 5;obtain⟨vd,c9⟩:=Nm (uJ d);have a9:=Kh c9;rw[<-c9];clear b8 H6 h4 c0 c1 c2 c3 c9;by_cases hv:vd=0
 ·have H1:=qQS (by rw[<-a9.out];exact hv)
  obtain⟨n,hn⟩:=Nm d.final.length;obtain⟨k,hk⟩:=Nm d.letters.toNat;rw[<-hn,<-hk]at H1;have g6:=HD.out.kept c6.out (by simp);have j7:=Kh (eN B w2 _ d n k (by have:=HG.out.size;have:=c6.out.size;omega) g6 H1);have h8:=Kh H1;have j6:=Kh hn;clear hn hk g6 H1;subst hv;clear p0 p1 p2 p3 p4 p5 f0 f1 f2 f3 f4 f5;go_wp2_with fail;refine j7.out.mono ?_;rintro e w3 ⟨v3,rfl,H5,d8⟩;have a1:=gO h8.out;obtain⟨M,hM⟩:=Nm (minD d k);obtain⟨m,hm⟩:=Nm (minN d k);have i2:Hid (m<=d.final.length):=Kh (by rw[hm,<-j6.out];exact qKQ h8.out);rw[<-hM,<-hm]at a1;rw[<-hM]at H5;have a3:=H5.dfa;obtain⟨fv,nv,rfl,hf,hn⟩:=id a3;obtain⟨sf,cf,rfl⟩:=hf.shape;obtain⟨sn,cn,rfl⟩:=hn.shape;rw[zX,a1.hn]at hf a3⊢;rw[a1.nl]at hn a3⊢;have a7:=zB b3.out d8;obtain⟨w4,b4⟩:=Nm (w3.alloc (.cells #[.int .i64 M.letters,.int .i64 M.start,.slice sf m cf,.slice sn m cn] 29));have H7:w3.grownBy w4 none:=by rw[b4];exact Ga w3 _ none
  have a6:=heap_alloc_new w3 (.cells #[.int .i64 M.letters,.int .i64 M.start,.slice sf m cf,.slice sn m cn] 29);rw[<-b4]at a6;obtain⟨b5,d9⟩:=Nm w3.heap.size;rw[<-d9]at a6;have h3:=zB a7 H7;have e9:=Kh a6;have h9:=Kh h3;have e8:=Kh (zC (zC (zC HG.out c6.out) d8) H7);have i9:=Kh b4;have j9:=Kh d9;have k0:=Kh (a3.kept H7 (by simp));have H0:=Kh a1;have c4:=Kh hM;have i1:=Kh H7.size;have j8:=Kh (hf.kept H7 (by simp));obtain⟨q0,q1,q2,q3⟩:=zL a6;obtain⟨p0,p1,p2,p3,p4,p5⟩:=yD h3;have f0:=zA h3 0;have f1:=zA h3 1;have f2:=zA h3 2;have f3:=zA h3 3;have f4:=zA h3 4;have f5:=zA h3 5;clear H5 d8 a1 hM hm a3 hf hn a7 b4 H7 a6 d9 h3 q0 q1 q3 d0 d1 d2 d3;go_upto_region 5 with fail;rw[<-i9.out,<-j9.out];by_cases hm32:32<m
  ·have i4:(32:Int)<m:=by omega
   go_wp2;refine bodyPost_ret (v:=.tuple #[.agg #[.int .i64 0,.slice none 0 0,.slice none 0 0,.slice none 0 0,.slice none 0 0,.slice none 0 0],.int .i64 3]) (by simp[results,Tryz.results11,go_sem,p0,p1,p2,p3,p4,p5]) rfl ?_;obtain⟨H2,h0⟩:=uM h9.out (.int .i64 0) (.slice none 0 0) (.slice none 0 0) (.slice none 0 0) (.slice none 0 0) (.slice none 0 0);exact .inl ⟨3,rfl,by decide,fun h=>absurd a9.out.symm h,fun _=>⟨rfl,⟨m,i2.out,.inl hm32⟩,qFT h8.out (by rw[<-c4.out];exact H0.out) (.inl hm32)⟩,zC e8.out h0 (fun j e=>by have e:P+1=j:=Oj e;have:=a8.out;omega)⟩
  have i4:¬(32:Int)<m:=by omega
  obtain⟨w7,c8⟩:=Nm w4.drew;have a2:w4.grownBy w7 none:=(by rw[c8];exact zS w4 none);have i8:=Kh c8;have e7:=Kh a2;have hC:=zL (zB e9.out a2);have C:Hid (w7.cell? ⟨b5,0,none⟩=some (.int .i64 M.letters)/\w7.cell? ⟨b5,1,none⟩=some (.int .i64 M.start)/\w7.cell? ⟨b5,2,none⟩=some (.slice sf m cf)/\w7.cell? ⟨b5,3,none⟩=some (.slice sn m cn)):=Kh hC;have d4:M.start=((st0 M:Nat):Int):=by rw[st0,Int.toNat_of_nonneg H0.out.s0]
  have a0:st0 M<m:=(by have:=H0.out.sn;rw[d4]at this;omega);have j5:=Kh (qKB w4.heap.size w7 _ M m k a2.size ((k0.out.mono i1.out).kept a2 (by simp)) H0.out);have j2:=Kh d4;have e4:=Kh a0;clear c8 a2 hC d4 a0 p0 p1 p2 p3 p4 p5 f0 f1 f2 f3 f4 f5;go_upto_region 7 with fail;refine wp_region_noPanic ?_;refine yM (G:=wH 99 (fun W=>W.cell? ⟨b5,0,none⟩=some (.int .i64 M.letters)/\W.cell? ⟨b5,1,none⟩=some (.int .i64 M.start)/\W.cell? ⟨b5,2,none⟩=some (.slice sf m cf)/\W.cell? ⟨b5,3,none⟩=some (.slice sn m cn)) (fun _=>True)) (by kernel_rfl) ?_;rw[<-i8.out];refine zO 0 ⟨C.out,fun _=>trivial⟩ ?_;refine zO 2 ⟨C.out,fun _=>trivial⟩ ?_;refine zO 3 ⟨C.out,fun _=>trivial⟩ ?_;refine zO 4 ⟨C.out,fun _=>trivial⟩ ?_;refine zO 5 ⟨C.out,fun _=>trivial⟩ ?_;refine oneG (i:=1) (by kernel_rfl) rfl (fun K hK=>?_);go_simp
  go_at_call 34
  refine j5.out.mono ?_;rintro e w8 ⟨sa,sc,rfl,H4,H3⟩;have C8:Hid (w8.cell? ⟨b5,0,none⟩=some (.int .i64 M.letters)/\w8.cell? ⟨b5,1,none⟩=some (.int .i64 M.start)/\w8.cell? ⟨b5,2,none⟩=some (.slice sf m cf)/\w8.cell? ⟨b5,3,none⟩=some (.slice sn m cn)):=Kh ⟨zK C.out.1 H3,zK C.out.2.1 H3,zK C.out.2.2.1 H3,zK C.out.2.2.2 H3⟩;refine hK.out _ _ ⟨C8.out,fun _=>trivial⟩ ?_;have g5:=uE M m k;obtain⟨gs,d6⟩:=Nm (pG M m k);have d7:=mW H0.out;rw[<-d6]at H4 g5 d7⊢;have i6:=H0.out.k1;have i5:=H0.out.k6;have d5:=qNH w8.heap.size w4.heap.size w8 (.slice sa gs.length sc) (.slice sf m cf) gs m (st0 M) M.final (Nat.le_refl _) (by have:=e7.out.size;have:=H3.size;omega) H4.tmat (((j8.out.mono i1.out).kept e7.out (by simp)).kept H3 (by simp)) H0.out.hn e4.out d7 (by omega) (by omega) (by omega);rw[<-j2.out]at d5;have j4:=Kh d5;have c5:=Kh (zC e7.out H3);have b1:=Kh d6;clear hK K C H4 H3 g5 d7 i6 i5 d5 d6
  try simp only[Act.put,sPa,sPb,sPc]
  refine oneG (i:=6) (by kernel_rfl) rfl (fun K hK=>?_);go_simp
  go_at_call 33
  refine j4.out.mono ?_;rintro e w9 (⟨rfl,a4,h6⟩|⟨S,v9,rfl,g8,g9,h6⟩)
  ·have b2:=Kh a4
   clear a4;have C9:Hid (w9.cell? ⟨b5,0,none⟩=some (.int .i64 M.letters)/\w9.cell? ⟨b5,1,none⟩=some (.int .i64 M.start)/\w9.cell? ⟨b5,2,none⟩=some (.slice sf m cf)/\w9.cell? ⟨b5,3,none⟩=some (.slice sn m cn)):=Kh ⟨zK C8.out.1 h6,zK C8.out.2.1 h6,zK C8.out.2.2.1 h6,zK C8.out.2.2.2 h6⟩;refine hK.out _ _ ⟨C9.out,fun _=>trivial⟩ ?_;have a5:=zB h9.out (zC c5.out h6);have h5:=Kh a5;have e6:=Kh (zC (zC e8.out c5.out) h6);clear hK K C8 a5 h6
   try simp only[Act.put,sPa,sPb,sPc]
   refine zO 7 ⟨C9.out,fun _=>trivial⟩ ?_;refine zO 8 ⟨C9.out,fun _=>trivial⟩ ?_;refine oneG (i:=9) (by kernel_rfl) rfl (fun K hK=>?_);obtain⟨p0,p1,p2,p3,p4,p5⟩:=yD h5.out;have f0:=zA h5.out 0;have f1:=zA h5.out 1;have f2:=zA h5.out 2;have f3:=zA h5.out 3;have f4:=zA h5.out 4;have f5:=zA h5.out 5;go_simp;obtain⟨H2,h0⟩:=uM h5.out (.int .i64 0) (.slice none 0 0) (.slice none 0 0) (.slice none 0 0) (.slice none 0 0) (.slice none 0 0)
   have h7:∀q,(Option.some (P+1):Option Nat)=some q->q≠b5:=fun q e e2=>by
    have e:P+1=q:=Oj e;subst e;subst e2;have h1:=e9.out;have h2:=h9.out;rw[h1]at h2;simp at h2
   have CZ:Hid (((((((w9.setCell ⟨P+1,0,none⟩ (.int .i64 0)).setCell ⟨P+1,1,none⟩ (.slice none 0 0)).setCell ⟨P+1,2,none⟩ (.slice none 0 0)).setCell ⟨P+1,3,none⟩ (.slice none 0 0)).setCell ⟨P+1,4,none⟩ (.slice none 0 0)).setCell ⟨P+1,5,none⟩ (.slice none 0 0)).cell? ⟨b5,0,none⟩=some (.int .i64 M.letters)/\((((((w9.setCell ⟨P+1,0,none⟩ (.int .i64 0)).setCell ⟨P+1,1,none⟩ (.slice none 0 0)).setCell ⟨P+1,2,none⟩ (.slice none 0 0)).setCell ⟨P+1,3,none⟩ (.slice none 0 0)).setCell ⟨P+1,4,none⟩ (.slice none 0 0)).setCell ⟨P+1,5,none⟩ (.slice none 0 0)).cell? ⟨b5,1,none⟩=some (.int .i64 M.start)/\((((((w9.setCell ⟨P+1,0,none⟩ (.int .i64 0)).setCell ⟨P+1,1,none⟩ (.slice none 0 0)).setCell ⟨P+1,2,none⟩ (.slice none 0 0)).setCell ⟨P+1,3,none⟩ (.slice none 0 0)).setCell ⟨P+1,4,none⟩ (.slice none 0 0)).setCell ⟨P+1,5,none⟩ (.slice none 0 0)).cell? ⟨b5,2,none⟩=some (.slice sf m cf)/\((((((w9.setCell ⟨P+1,0,none⟩ (.int .i64 0)).setCell ⟨P+1,1,none⟩ (.slice none 0 0)).setCell ⟨P+1,2,none⟩ (.slice none 0 0)).setCell ⟨P+1,3,none⟩ (.slice none 0 0)).setCell ⟨P+1,4,none⟩ (.slice none 0 0)).setCell ⟨P+1,5,none⟩ (.slice none 0 0)).cell? ⟨b5,3,none⟩=some (.slice sn m cn)):=Kh ⟨qH C9.out.1 h0 h7,qH C9.out.2.1 h0 h7,qH C9.out.2.2.1 h0 h7,qH C9.out.2.2.2 h0 h7⟩;refine hK.out _ _ ⟨CZ.out,fun _=>trivial⟩ ?_;obtain⟨wZ,H9⟩:=Nm (((((((w9.setCell ⟨P+1,0,none⟩ (.int .i64 0)).setCell ⟨P+1,1,none⟩ (.slice none 0 0)).setCell ⟨P+1,2,none⟩ (.slice none 0 0)).setCell ⟨P+1,3,none⟩ (.slice none 0 0)).setCell ⟨P+1,4,none⟩ (.slice none 0 0)).setCell ⟨P+1,5,none⟩ (.slice none 0 0)));rw[<-H9]at H2 h0 CZ⊢;have e3:=Kh H2;have b0:=Kh h0;clear hK K p0 p1 p2 p3 p4 p5 f0 f1 f2 f3 f4 f5 H2 h0 H9 h7
   try simp only[Act.put,sPa,sPb,sPc]
   refine zO 10 ⟨CZ.out,fun _=>trivial⟩ ?_;refine tT (by kernel_rfl) ?_ _;refine NoPanic.normal ?_;obtain⟨p0,p1,p2,p3,p4,p5⟩:=yD e3.out;go_wp2;refine bodyPost_ret (v:=.tuple #[.agg #[.int .i64 0,.slice none 0 0,.slice none 0 0,.slice none 0 0,.slice none 0 0,.slice none 0 0],.int .i64 3]) (by simp[results,Tryz.results11,go_sem,p0,p1,p2,p3,p4,p5]) rfl ?_;exact .inl ⟨3,rfl,by decide,fun h=>absurd a9.out.symm h,fun _=>⟨rfl,⟨m,i2.out,.inr b2.out.1⟩,qFT h8.out (by rw[<-c4.out];exact H0.out) (.inr (by have:=b2.out.2;rw[b1.out,c4.out]at this;exact this))⟩,zC e6.out b0.out (fun j e=>by have e:P+1=j:=Oj e;have:=a8.out;omega)⟩
  have H8:=Kh g9;obtain⟨vT,vW,vI,vA,vP,rfl,hT,hW,hI,hA,i0⟩:=g9;obtain⟨tA,tC,rfl⟩:=(mK.tmat hT).shape;obtain⟨wA',wC,rfl⟩:=hW.shape;obtain⟨iA,iC,rfl⟩:=hI.shape;obtain⟨aA,aC,rfl⟩:=hA.shape;obtain⟨lA,lC,rfl⟩:=i0.shape;obtain⟨tn,f8⟩:=Nm S.tab.length;obtain⟨wn,f6⟩:=Nm ((sZ S.words).length);obtain⟨iN,g4⟩:=Nm ((nats S.images).length);obtain⟨aN,g7⟩:=Nm ((bls S.accept).length);obtain⟨lN,g3⟩:=Nm ((bls S.plus).length);rw[<-f8]at H8⊢;rw[<-f6]at H8⊢;rw[<-g4]at H8⊢;rw[<-g7]at H8⊢;rw[<-g3]at H8⊢;have j3:=Kh g8;have e5:=H8;clear hT hW hI hA i0 g8 f8 f6 g4 g7 g3;have C9:Hid (w9.cell? ⟨b5,0,none⟩=some (.int .i64 M.letters)/\w9.cell? ⟨b5,1,none⟩=some (.int .i64 M.start)/\w9.cell? ⟨b5,2,none⟩=some (.slice sf m cf)/\w9.cell? ⟨b5,3,none⟩=some (.slice sn m cn)):=Kh ⟨zK C8.out.1 h6,zK C8.out.2.1 h6,zK C8.out.2.2.1 h6,zK C8.out.2.2.2 h6⟩;refine hK.out _ _ ⟨C9.out,fun _=>trivial⟩ ?_;have a5:=zB h9.out (zC c5.out h6);have h5:=Kh a5;have e6:=Kh (zC (zC e8.out c5.out) h6);clear hK K C8 a5 h6
  try simp only[Act.put,sPa,sPb,sPc]
  refine zO 7 ⟨C9.out,fun _=>trivial⟩ ?_;refine zO 8 ⟨C9.out,fun _=>trivial⟩ ?_;refine oneG (i:=9) (by kernel_rfl) rfl (fun K hK=>?_);obtain⟨p0,p1,p2,p3,p4,p5⟩:=yD h5.out;have f0:=zA h5.out 0;have f1:=zA h5.out 1;have f2:=zA h5.out 2;have f3:=zA h5.out 3;have f4:=zA h5.out 4;have f5:=zA h5.out 5;go_simp;obtain⟨H2,h0⟩:=uM h5.out (.int .i64 S.k) (.slice tA tn tC) (.slice wA' wn wC) (.slice iA iN iC) (.slice aA aN aC) (.slice lA lN lC)
  have h7:∀q,(Option.some (P+1):Option Nat)=some q->q≠b5:=fun q e e2=>by
   have e:P+1=q:=Oj e;subst e;subst e2;have h1:=e9.out;have h2:=h9.out;rw[h1]at h2;simp at h2
  have CZ:Hid (((((((w9.setCell ⟨P+1,0,none⟩ (.int .i64 S.k)).setCell ⟨P+1,1,none⟩ (.slice tA tn tC)).setCell ⟨P+1,2,none⟩ (.slice wA' wn wC)).setCell ⟨P+1,3,none⟩ (.slice iA iN iC)).setCell ⟨P+1,4,none⟩ (.slice aA aN aC)).setCell ⟨P+1,5,none⟩ (.slice lA lN lC)).cell? ⟨b5,0,none⟩=some (.int .i64 M.letters)/\((((((w9.setCell ⟨P+1,0,none⟩ (.int .i64 S.k)).setCell ⟨P+1,1,none⟩ (.slice tA tn tC)).setCell ⟨P+1,2,none⟩ (.slice wA' wn wC)).setCell ⟨P+1,3,none⟩ (.slice iA iN iC)).setCell ⟨P+1,4,none⟩ (.slice aA aN aC)).setCell ⟨P+1,5,none⟩ (.slice lA lN lC)).cell? ⟨b5,1,none⟩=some (.int .i64 M.start)/\((((((w9.setCell ⟨P+1,0,none⟩ (.int .i64 S.k)).setCell ⟨P+1,1,none⟩ (.slice tA tn tC)).setCell ⟨P+1,2,none⟩ (.slice wA' wn wC)).setCell ⟨P+1,3,none⟩ (.slice iA iN iC)).setCell ⟨P+1,4,none⟩ (.slice aA aN aC)).setCell ⟨P+1,5,none⟩ (.slice lA lN lC)).cell? ⟨b5,2,none⟩=some (.slice sf m cf)/\((((((w9.setCell ⟨P+1,0,none⟩ (.int .i64 S.k)).setCell ⟨P+1,1,none⟩ (.slice tA tn tC)).setCell ⟨P+1,2,none⟩ (.slice wA' wn wC)).setCell ⟨P+1,3,none⟩ (.slice iA iN iC)).setCell ⟨P+1,4,none⟩ (.slice aA aN aC)).setCell ⟨P+1,5,none⟩ (.slice lA lN lC)).cell? ⟨b5,3,none⟩=some (.slice sn m cn)):=Kh ⟨qH C9.out.1 h0 h7,qH C9.out.2.1 h0 h7,qH C9.out.2.2.1 h0 h7,qH C9.out.2.2.2 h0 h7⟩;refine hK.out _ _ ⟨CZ.out,fun _=>trivial⟩ ?_;obtain⟨wZ,H9⟩:=Nm (((((((w9.setCell ⟨P+1,0,none⟩ (.int .i64 S.k)).setCell ⟨P+1,1,none⟩ (.slice tA tn tC)).setCell ⟨P+1,2,none⟩ (.slice wA' wn wC)).setCell ⟨P+1,3,none⟩ (.slice iA iN iC)).setCell ⟨P+1,4,none⟩ (.slice aA aN aC)).setCell ⟨P+1,5,none⟩ (.slice lA lN lC)));rw[<-H9]at H2 h0 CZ⊢;have e3:=Kh H2;have b0:=Kh h0;clear hK K p0 p1 p2 p3 p4 p5 f0 f1 f2 f3 f4 f5 H2 h0 H9 h7
  try simp only[Act.put,sPa,sPb,sPc]
  refine zO 10 ⟨CZ.out,fun _=>trivial⟩ ?_;refine tT (by kernel_rfl) ?_ _;refine NoPanic.normal ?_;obtain⟨p0,p1,p2,p3,p4,p5⟩:=yD e3.out;go_wp2;refine bodyPost_ret (v:=.tuple #[.agg #[.int .i64 S.k,.slice tA tn tC,.slice wA' wn wC,.slice iA iN iC,.slice aA aN aC,.slice lA lN lC],.int .i64 0]) (by simp[results,Tryz.results11,go_sem,p0,p1,p2,p3,p4,p5]) rfl ?_;exact .inr ⟨S,_,n,k,m,M,h8.out,c4.out,H0.out,by omega,rfl,b1.out ▸ j3.out,(e5.out.kept b0.out (fun q e=>by have e:P+1=q:=Oj e;subst e;exact .inr ⟨_,_,_,h5.out,by unfold qPT;decide⟩)).mono b0.out.size,zC e6.out b0.out (fun j e=>by have e:P+1=j:=Oj e;have:=a8.out;omega)⟩
 have f7:vd≠0:=hv;go_wp2;refine bodyPost_ret (v:=.tuple #[.agg #[.int .i64 0,.slice none 0 0,.slice none 0 0,.slice none 0 0,.slice none 0 0,.slice none 0 0],.int .i64 vd]) (by simp[results,Tryz.results11,go_sem,p0,p1,p2,p3,p4,p5]) rfl ?_;obtain⟨H2,h0⟩:=uM b3.out (.int .i64 0) (.slice none 0 0) (.slice none 0 0) (.slice none 0 0) (.slice none 0 0) (.slice none 0 0);exact .inl ⟨vd,rfl,f7,fun _=>a9.out,fun h=>absurd (a9.out.trans h) f7,zC (zC HG.out c6.out) h0 (fun j e=>by have e:P+1=j:=Oj e;have:=a8.out;omega)⟩
end Go.Proofs.YtobakifdllameaaGreat
namespace Go.Proofs.YtobakifdllameaaGreat
theorem qBU (m:Nat)(l:List Nat):kI m l=metL m l:=by
 suffices h:∀(l q:List Nat),l.foldl (fun ps x=>ps.set x true) (metL m q)=metL m (q++l) by
  have:=h l [];rw[qAG]at this;exact this
 intro l
 induction l with
 | nil=>intro q;rw[List.append_nil];rfl
 | cons x l ih =>
  intro q;rw[List.foldl_cons,jU,ih,List.append_assoc];rfl
theorem qFV (m:Nat)(l:List Nat):metL m (mT (metL m l))=metL m l:=by
 refine List.ext_getElem (by simp[metL]) fun i h1 h2=>?_;rw[xR]at h1;simp only[metL,List.getElem_map,List.getElem_range];refine decide_eq_decide.2 ⟨fun h=>?_,fun h=>?_⟩
 ·have:=(List.mem_filter.1 h).2
  rw[show ((List.range m).map fun q=>decide (q∈l))=metL m l from rfl,lY h1]at this;exact of_decide_eq_true this
 refine List.mem_filter.2 ⟨List.mem_range.2 (by simpa [metL] using h1),?_⟩;rw[show ((List.range m).map fun q=>decide (q∈l))=metL m l from rfl,lY h1];exact decide_eq_true h
theorem qQG {t:List (List Int)}{gs m:List Nat}(hb:∀x∈gs,x∈m)(hc:oB t m){x:Nat}(h:Gen t gs x):x∈m:=by
 induction h with
 | base x hx=>exact hb x hx
 | mul x y _ _ h1 h2=>exact hc x h1 y h2
theorem qOF {n:Nat}{t:List (List Int)}{gs m m':List Nat}(h:GenI t gs m)(hc:oB t m)(h':GenI t gs m')(a9:oB t m'):metL n m=metL n m':=by
 unfold metL;refine List.map_congr_left fun x _=>decide_eq_decide.2 ⟨fun hx=>qQG h'.base a9 (h.gen x hx),fun hx=>qQG h.base hc (h'.gen x hx)⟩
theorem SynE.eq {gs:List (List Nat)}{n st:Nat}{fin:List Bool}{S S':SynV}(h:SynE gs n st fin S)(h':SynE gs n st fin S')(h1:1<=n)(hk:1<=gs.length):S=S':=by
 obtain⟨el,pr,la,ri,mm,hf,hl,e1,e2,e3,e4,e5,hG,hC,e6⟩:=h;obtain⟨el',pr',la',ri',mm',h0,h4,e1',e2',e3',e4',e5',h2,h3,e6'⟩:=h';obtain⟨rfl,rfl,rfl,rfl⟩:=hf.eq h0 h1 hk;obtain⟨k,tab,words,images,accept,plus⟩:=S;obtain⟨k',tab',words',images',accept',plus'⟩:=S';simp only at *;subst e1 e2 e3 e4 e5 e1' e2' e3' e4' e5';rw[qBU,qFV]at e6 e6';rw[e6,e6',qOF hG hC h2 h3]
theorem mD.eq {d:DfaV}{S S':SynV}(h:mD d S)(h':mD d S'):S=S':=by
 obtain⟨n,k,m,M,hd,rfl,hM,hm,hS⟩:=h;obtain⟨n',k',m',M',h0,rfl,h2,h3,h1⟩:=h';have ek:k=k':=by have:=hd.hk;have:=h0.hk;omega
 subst ek;have em:m=m':=by rw[<-hM.hn,<-h2.hn]
 subst em;exact hS.eq h1 hM.n1 (by rw[uE];exact hM.k1)
open Go.RowKit
structure SynI where
 k:Int
 tab:List (List Int)
 words:List ByteArray
 images:List Int
 accept:List Bool
 plus:List Bool
def SynV.I (S:SynV):SynI:=⟨S.k,tabI S.tab,S.words.map fun u=>strOfNums (lets u),S.images.map fun(x:Nat)=>(x:Int),S.accept,S.plus⟩
def qAT (B:Nat)(w:World)(v:Value)(I:SynI):Prop:=∃vT vW vI vA vP,v=.agg #[.int .i64 I.k,vT,vW,vI,vA,vP]/\Mat B w vT I.tab/\Row B w vW (rK I.words)/\Row B w vI (ints I.images)/\Row B w vA (bls I.accept)/\Row B w vP (bls I.plus)
theorem qAT.kept {B:Nat}{w w':World}{v:Value}{I:SynI}(h:qAT B w v I)(hg:w.grownBy w' none):qAT B w' v I:=by
 obtain⟨vT,vW,vI,vA,vP,rfl,h1,h2,h3,h4,h5⟩:=h;exact⟨vT,vW,vI,vA,vP,rfl,h1.kept hg (by simp),h2.kept hg (by simp),h3.kept hg (by simp),h4.kept hg (by simp),h5.kept hg (by simp)⟩
theorem gF.toI {B:Nat}{w:World}{v:Value}{S:SynV}(h:gF B w v S):qAT B w v S.I:=by
 obtain⟨vT,vW,vI,vA,vP,rfl,h1,h2,h3,h4,h5⟩:=h;refine⟨vT,vW,vI,vA,vP,rfl,h1.tmat.mat,?_,?_,h4.row,h5.row⟩
 ·have:rK (S.I).words=sZ S.words:=by simp[rK,SynV.I,sZ]
  rw[this];exact h2.row
 have:=h3.row;rw[qCF]at this;exact this
def tX (I:SynI):Bool:=decide ((1<=I.k/\I.k<=6/\1<=I.tab.length/\I.tab.length<=400)/\I.words.length=I.tab.length/\I.accept.length=I.tab.length/\I.plus.length=I.tab.length/\(I.images.length:Int)=I.k) && (I.tab.all fun r=>decide (r.length=I.tab.length) && inR I.tab.length r) && inR I.tab.length I.images
theorem lQ {I:SynI}(h:tX I=true):(1<=I.k/\I.k<=6/\1<=I.tab.length/\I.tab.length<=400)/\(I.words.length=I.tab.length/\I.accept.length=I.tab.length/\I.plus.length=I.tab.length/\(I.images.length:Int)=I.k)/\(∀r∈I.tab,r.length=I.tab.length/\inR I.tab.length r=true)/\inR I.tab.length I.images=true:=by
 unfold tX at h;rw[Bool.and_eq_true,Bool.and_eq_true,decide_eq_true_eq,List.all_eq_true]at h;refine⟨h.1.1.1,h.1.1.2,fun r hr=>?_,h.2⟩;have:=h.1.2 r hr;rw[Bool.and_eq_true,decide_eq_true_eq]at this;exact this
theorem qGR {I:SynI}(h:¬((1<=I.k/\I.k<=6/\1<=I.tab.length/\I.tab.length<=400)/\I.words.length=I.tab.length/\I.accept.length=I.tab.length/\I.plus.length=I.tab.length/\(I.images.length:Int)=I.k)):tX I=false:=by
 unfold tX;rw[decide_eq_false h];rfl
theorem fZ {I:SynI}{r:List Int}(hr:r∈I.tab)(h:¬(r.length=I.tab.length/\inR I.tab.length r=true)):tX I=false:=by
 rcases hb:tX I with _|_
 ·rfl
 exact absurd ((lQ hb).2.2.1 r hr) h
theorem qDW {I:SynI}(h:(1<=I.k/\I.k<=6/\1<=I.tab.length/\I.tab.length<=400)/\I.words.length=I.tab.length/\I.accept.length=I.tab.length/\I.plus.length=I.tab.length/\(I.images.length:Int)=I.k)(hr:∀x,x<I.tab.length->(I.tab.getD x []).length=I.tab.length/\inR I.tab.length (I.tab.getD x [])=true):tX I=inR I.tab.length I.images:=by
 unfold tX;rw[decide_eq_true h,List.all_eq_true.2 (fun r hm=>?_)]
 ·rfl
 obtain⟨i,hi,rfl⟩:=List.getElem_of_mem hm;have:=hr i hi;rw[zN hi]at this;rw[Bool.and_eq_true,decide_eq_true_eq];exact this
def qUJ (I:SynI)(x:Nat):Prop:=∀y,y<x->(I.tab.getD y []).length=I.tab.length/\inR I.tab.length (I.tab.getD y [])=true
theorem qGQ (B:Nat)(w:World)(v:Value)(I:SynI)(h:qAT B w v I):Calls Tryz.prog 65 #[v] w fun e w'=>e=.returned (.bool (tX I))/\w.grownBy w' none:=by
 obtain⟨vT,vW,vI,vA,vP,rfl,hT,hW,hI,hA,hP⟩:=h;obtain⟨tA,tC,rfl⟩:=hT.shape;obtain⟨wA,wC,rfl⟩:=hW.shape;obtain⟨iA,iC,rfl⟩:=hI.shape;obtain⟨aA,aC,rfl⟩:=hA.shape;obtain⟨pA,pC,rfl⟩:=hP.shape;obtain⟨n,hn⟩:=Nm I.tab.length;obtain⟨wn,H6⟩:=Nm ((rK I.words).length);obtain⟨iN,H4⟩:=Nm ((ints I.images).length);obtain⟨an,a7⟩:=Nm ((bls I.accept).length);obtain⟨pn,a1⟩:=Nm ((bls I.plus).length);obtain⟨k,hk⟩:=Nm I.k;rw[<-hn,<-H6,<-H4,<-a7,<-a1,<-hk];rw[<-hn]at hT;rw[<-H4]at hI;have H7:wn=I.words.length:=by rw[H6];simp[rK]
 have a3:iN=I.images.length:=by rw[H4,zJ]
 have a8:an=I.accept.length:=by rw[a7,zX]
 have a2:pn=I.plus.length:=by rw[a1,zX]
 obtain⟨w1,H3⟩:=Nm (w.alloc (.cells #[.int .i64 k,.slice tA n tC,.slice wA wn wC,.slice iA iN iC,.slice aA an aC,.slice pA pn pC] 39));have H5:w.grownBy w1 none:=by rw[H3];exact Ga w _ none
 have a4:=heap_alloc_new w (.cells #[.int .i64 k,.slice tA n tC,.slice wA wn wC,.slice iA iN iC,.slice aA an aC,.slice pA pn pC] 39);obtain⟨P,a9⟩:=Nm w.heap.size;rw[<-H3,<-a9]at a4;obtain⟨q0,q1,q2,q3,q4,q5⟩:=yD a4;have HT:=Kh (hT.kept H5 (by simp));have HI:=Kh (hI.kept H5 (by simp));obtain⟨h0,c3,c6,HN,c2,c7⟩:=K6 H5 H3 a9 hn H7 a3;obtain⟨c8,c5,HK⟩:=K3 a8 a2 hk;have H0:Hid (¬((1<=k/\k<=6/\1<=n/\n<=400)/\wn=n/\an=n/\pn=n/\(iN:Int)=k)->tX I=false):=Kh (fun h=>qGR (by rw[<-hn,<-H7,<-a3,<-a8,<-a2,<-hk];exact h));obtain⟨R,hR⟩:=Nm (tX I);rw[<-hR]at H0⊢;have b2:=Kh hR;clear hT hW hI hA hP hn H6 H4 a7 a1 H7 a3 a8 a2 H5 a4 H3 a9 hk hR;go_enter Tryz.func65,Tryz.ntmps65;go_upto_region 1 with fail;rw[<-c3.out,<-c6.out];by_cases h1:k<1
 ·go_wp2
  go_ret;exact⟨yT (H0.out (by omega)).symm,h0.out⟩
 by_cases h2:6<k
 ·go_wp2
  go_ret;exact⟨yT (H0.out (by omega)).symm,h0.out⟩
 by_cases h3:(n:Int)<1
 ·go_wp2
  go_ret;exact⟨yT (H0.out (by omega)).symm,h0.out⟩
 by_cases h4:400<(n:Int)
 ·go_wp2
  go_ret;exact⟨yT (H0.out (by omega)).symm,h0.out⟩
 by_cases h5:wn=n
 case neg =>
  have e5:((wn:Int) != (n:Int))=true:=by rw[bne_iff_ne];omega
  go_wp2;go_ret;exact⟨yT (H0.out (by omega)).symm,h0.out⟩
 have e5:((wn:Int) != (n:Int))=false:=by rw[bne_eq_false_iff_eq];omega
 by_cases h6:an=n
 case neg =>
  have e6:((an:Int) != (n:Int))=true:=by rw[bne_iff_ne];omega
  go_wp2;go_ret;exact⟨yT (H0.out (by omega)).symm,h0.out⟩
 have e6:((an:Int) != (n:Int))=false:=by rw[bne_eq_false_iff_eq];omega
 by_cases h7:pn=n
 case neg =>
  have e7:((pn:Int) != (n:Int))=true:=by rw[bne_iff_ne];omega
  go_wp2;go_ret;exact⟨yT (H0.out (by omega)).symm,h0.out⟩
 have e7:((pn:Int) != (n:Int))=false:=by rw[bne_eq_false_iff_eq];omega
 by_cases h8:(iN:Int)=k
 case neg =>
  have e8:((iN:Int) != k)=true:=by rw[bne_iff_ne];omega
  go_wp2;go_ret;exact⟨yT (H0.out (by omega)).symm,h0.out⟩
 have e8:((iN:Int) != k)=false:=by rw[bne_eq_false_iff_eq];omega
 have b0:Hid ((1<=k/\k<=6/\1<=n/\n<=400)/\wn=n/\an=n/\pn=n/\(iN:Int)=k):=Kh (by omega);obtain⟨tb,tf,tc,A,C,et,c0,b5,b6⟩:=HT.out.some_ (by have:=HN.out;omega);simp only[Value.slice.injEq]at et;obtain⟨rfl,c1,rfl⟩:=et;clear c1;have b4:=Kh b6;have b9:tC<=9223372036854775807:=by unfold maxLen at b5;omega
 rw[<-HN.out]at c0;have a6:Hid (∀x,x<n->∃a c,w1.cell? ⟨tb,tf+x,none⟩=some (.slice a (I.tab.getD x []).length c)/\Row B w1 (.slice a (I.tab.getD x []).length c) (ints (I.tab.getD x []))):=Kh (fun x hx=>⟨_,_,b4.out.hd x (by rw[<-HN.out];exact hx),b4.out.row x (by rw[<-HN.out];exact hx)⟩);clear b6 b5 h5 h6 h7 h8 H0 b4;go_wp2
 go_loopg [5,55] n (fun gh a5 a55 wr=>∃x:Nat,gh+x=n/\a55=.int .i64 x/\qUJ I x/\wr=w1)
 case atStart=>exact⟨0,rfl,rfl,fun y hy=>by omega,rfl⟩
 obtain⟨x,hg,rfl,hr,rfl⟩:=hrel;have HG:=Kh hg;have HR:=Kh hr;clear hg hr;by_cases hx:x<n
 ·have b8:(x:Int)<n:=by omega
  obtain⟨a,c,hc,H1⟩:=a6.out x hx;have HM:Hid (I.tab.getD x []∈I.tab):=Kh (uW (by rw[<-HN.out];exact hx));obtain⟨r,H8⟩:=Nm (I.tab.getD x []);rw[<-H8]at hc H1 HM;obtain⟨rl,a0⟩:=Nm r.length;rw[<-a0]at hc H1;obtain⟨c4,b7,b1⟩:=K3 H8 a0 H1;clear H8 a0 H1;by_cases h9:rl=n
  case neg =>
   have e9:((rl:Int) != (n:Int))=true:=by rw[bne_iff_ne];omega
   go_wp2;go_ret;exact⟨yT (by rw[b2.out,fZ HM.out (fun h=>h9 (by rw[b7.out,h.1,HN.out]))]),h0.out⟩
  have e9:((rl:Int) != (n:Int))=false:=by rw[bne_eq_false_iff_eq];omega
  have H2:=Kh (dT B wr _ r n b1.out);obtain⟨b,hb⟩:=Nm (inR n r);rw[<-hb]at H2;have HB:=Kh hb;have H9:=Kh h9;clear hb h9;go_wp2_with fail;refine H2.out.mono ?_;rintro e w2 ⟨rfl,rfl⟩;cases b with
  | false =>
   go_wp2;go_ret;exact⟨yT (by rw[b2.out,fZ HM.out (fun h=>by have h2:=h.2;rw[<-HN.out,<-HB.out]at h2;exact absurd h2 (by decide))]),h0.out⟩
  | true =>
   go_wp2;go_roundg (n-(x+1))
   case measure=>have:=HG.out;omega
   refine⟨x+1,by have:=HG.out;omega,by go_num,fun y hy=>?_,rfl⟩;rcases Nat.lt_or_ge y x with h|h
   ·exact HR.out y h
   have:y=x:=by omega
   subst this;rw[<-c4.out,<-b7.out,<-HN.out,<-HB.out];exact⟨H9.out,rfl⟩
 have b8:¬(x:Int)<n:=by omega
 have b3:Hid (R=inR n I.images):=Kh (by
  have hy:=b0.out;rw[HN.out,c2.out,c7.out,c8.out,c5.out,HK.out]at hy;rw[b2.out,HN.out]
  exact qDW hy (fun y hy=>HR.out y (by have:=HG.out;have:=HN.out;omega)))
 have H2:=Kh (dT B wr _ I.images n HI.out);rw[<-b3.out]at H2;go_wp2_with fail;refine H2.out.mono ?_;rintro e w2 ⟨rfl,rfl⟩;go_wp2;go_ret;exact⟨rfl,h0.out⟩
open Go.Maps
def autI (I:SynI):DfaV:=⟨I.k,0,I.accept,I.tab.map fun r=>I.images.map fun y=>r.getD y.toNat 0⟩
theorem mB (I:SynI):(autI I).next.length=I.tab.length:=by simp[autI]
theorem qGE {I:SynI}{x:Nat}(hx:x<I.tab.length):(autI I).next.getD x []=I.images.map fun y=>(I.tab.getD x []).getD y.toNat 0:=by
 rw[autI,xZ (x:=[]) hx]
def aRow (r:List Int)(k j:Nat):List Int:=r.take j++List.replicate (k-j) 0
theorem qLZ (r:List Int)(k:Nat):aRow r k 0=List.replicate k 0:=by simp[aRow]
theorem qPR {r:List Int}{k j:Nat}(hl:r.length=k)(hj:j<k):(aRow r k j).set j (r.getD j 0)=aRow r k (j+1):=by
 have e:(r.take j).length=j:=by simp[hl];omega
 rw[aRow,List.set_append_right _ _ (by omega),e,Nat.sub_self,show k-j=(k-(j+1))+1 by omega,List.replicate_succ,List.set_cons_zero,aRow,yB (d:=0) (by omega),List.append_assoc];rfl
theorem qPS {r:List Int}{k:Nat}(hl:r.length=k):aRow r k k=r:=by rw[aRow,Nat.sub_self,List.take_of_length_le (by omega)];simp
theorem qOL (l:List Int)(i:Nat)(c:Int):(ints l).set i (.int .i64 c)=ints (l.set i c):=by simp[ints,List.map_set]
theorem qAK {n:Nat}{zs:List Int}(h:inR n zs=true){i:Nat}(hi:i<zs.length):∃y:Nat,zs.getD i 0=(y:Int)/\y<n:=by
 unfold inR at h;have h1:=List.all_eq_true.1 h _ (uW (d:=0) hi);have h2:=of_decide_eq_true h1;exact⟨(zs.getD i 0).toNat,by omega,by omega⟩
section
variable {w6 w:World} {o k m ng sc:Nat} {sa:Option Addr} {ac:List Bool} {hs:List Value} {dn:List (List Int)}
theorem AutS.read (h:AutS w6 o k m ng sa sc ac hs dn [] w)(hd:dn.length=m):w.heap[o]?=some (.cells #[.int .i64 (k:Int),.int .i64 0,.slice sa m sc,.slice (some ⟨ng,0,none⟩) m m] 29 (0,0))/\RowT w.heap.size 4 w (.slice sa m sc) (bls ac)/\RowT w.heap.size 22 w (.slice (some ⟨ng,0,none⟩) m m) hs/\tP w.heap.size 3 ints w hs dn:=by
 obtain⟨X,hB,hT⟩:=h;have h1:=hB.own (r:=⟨w6.heap.size,4,.slice sa m sc,m,bls ac,1⟩) (by simp);have h2:=hB.own (r:=⟨w6.heap.size,22,.slice (some ⟨ng,0,none⟩) m m,m,hs,1⟩) (by simp);rw[List.take_of_length_le (by have:=h2.1;simp only at this;omega)]at hT;exact⟨hB.box,RowT.of_owns h1,RowT.of_owns h2,hT.rowsT⟩
end
theorem qAS (B:Nat)(w:World)(v:Value)(I:SynI)(a8:B<=w.heap.size)(h:qAT B w v I)(a9:tX I=true):Calls Tryz.prog 66 #[v] w fun e w'=>∃v',e=.returned v'/\tR w'.heap.size w' v' (autI I)/\w.grownBy w' none:=by
 obtain⟨⟨k1,k6,m1,m4⟩,⟨e7,H4,f4,c9⟩,h4,H8⟩:=lQ a9;obtain⟨vT,vW,vI,vA,vP,rfl,hT,hW,hI,hA,hP⟩:=h;obtain⟨wA,wC,rfl⟩:=hW.shape;obtain⟨pA,pC,rfl⟩:=hP.shape;obtain⟨m,hm⟩:=Nm I.tab.length;obtain⟨k,hk⟩:=Nm I.images.length;obtain⟨wn,b8⟩:=Nm ((rK I.words).length);obtain⟨pn,c5⟩:=Nm ((bls I.plus).length);obtain⟨aA,aC,rfl⟩:=hA.shape;have ean:(bls I.accept).length=m:=by rw[zX,H4,hm]
 have eik:I.k=(k:Int):=by rw[<-c9,hk]
 obtain⟨tb,tf,tC,A,C,rfl,e9,b9,a0⟩:=hT.some_ (by omega);obtain⟨ib,io,iC,rfl,_,f7,d0,c8⟩:=hI.some_ (by rw[zJ];omega);rw[zJ,<-hk]at f7⊢;rw[<-hm]at e9 H8 m1 m4⊢;rw[ean]at hA⊢;rw[<-b8,<-c5,eik];rw[eik]at k1 k6
 have h8:∀x,x<m->∃rb ro rc,w.cell? ⟨tb,tf+x,none⟩=some (.slice (some ⟨rb,ro,none⟩) m rc)/\(m<=rc/\rc<=maxLen)/\∀y,y<m->w.cell? ⟨rb,ro+y,none⟩=some (.int .i64 ((I.tab.getD x []).getD y 0)):=fun x hx=>by
  have hl:(I.tab.getD x []).length=m:=by rw[(h4 _ (uW (by omega))).1,hm]
  have h1:=a0.hd x (by omega);have h2:=a0.row x (by omega);rw[hl]at h1 h2;obtain⟨rb,ro,rc,e,_,c1,c2,c3⟩:=h2.some_ (by rw[zJ,hl];omega);rw[zJ,hl]at e c1;rw[e]at h1;exact⟨rb,ro,rc,h1,⟨c1,c2⟩,fun y hy=>c3.int y (by rw[hl];exact hy)⟩
 have H0:∀a,a<k->∃y:Nat,w.cell? ⟨ib,io+a,none⟩=some (.int .i64 (y:Int))/\y<m/\I.images.getD a 0=(y:Int):=fun a ha=>by
  obtain⟨y,e,hy⟩:=qAK H8 (i:=a) (by omega);exact⟨y,by rw[<-e];exact c8.int a (by omega),hy,e⟩
 obtain⟨w1,h7⟩:=Nm (w.alloc (.cells #[.int .i64 (k:Int),.slice (some ⟨tb,tf,none⟩) m tC,.slice wA wn wC,.slice (some ⟨ib,io,none⟩) k iC,.slice aA m aC,.slice pA pn pC] 39));have g1:w.grownBy w1 none:=by rw[h7];exact Ga w _ none
 have n1:=heap_alloc_new w (.cells #[.int .i64 (k:Int),.slice (some ⟨tb,tf,none⟩) m tC,.slice wA wn wC,.slice (some ⟨ib,io,none⟩) k iC,.slice aA m aC,.slice pA pn pC] 39);have b6:w1.heap.size=w.heap.size+1:=by rw[h7];simp
 rw[<-h7]at n1;obtain⟨w2,H2⟩:=Nm (w1.alloc (.cells #[.int .i64 0,.int .i64 0,.slice none 0 0,.slice none 0 0] 29));have g2:w1.grownBy w2 none:=by rw[H2];exact Ga w1 _ none
 have n2:=heap_alloc_new w1 (.cells #[.int .i64 0,.int .i64 0,.slice none 0 0,.slice none 0 0] 29);rw[<-H2,b6]at n2;obtain⟨P,a1⟩:=Nm w.heap.size;rw[<-a1]at n1 n2;have d7:=zB n1 g2;have H3:=zC g1 g2;obtain⟨b0,b1,e5,g8,HG,f9⟩:=K6 h8 H0 d7 n2 H3 h7;obtain⟨f8,d9,HM,HK⟩:=K4 H2 a1 hm hk;have HA:=Kh (hA.kept H3 (by simp));have i1:=Kh H4;have g5:=Kh eik
 have d5:∀W:World,w2.grownBy W none->Calls Tryz.prog 96 #[.slice aA m aC] W fun e w'=>∃sa sc,e=.returned (.slice sa m sc)/\w'.ownsRow W.heap.size 4 1 (.slice sa m sc) m (bls I.accept)/\W.grownBy w' none:=fun W hW=>by
  have:=qIC B W (.slice aA m aC) I.accept ((hA.kept H3 (by simp)).kept hW (by simp)) (by omega) (by omega);rw[H4,<-hm]at this;exact this
 have g7:=Kh d5;have e8:tC<=9223372036854775807:=by unfold maxLen at b9;omega
 have f6:iC<=9223372036854775807:=by unfold maxLen at d0;omega
 clear h4 H8 hT hW hI hA hP hm hk b8 c5 a0 c8 b9 d0 h8 H0 d7 n1 n2 g1 g2 H3 h7 H2 a1 e7 H4 f4 c9 ean a9 d5 b6 eik;have k6':k<=6:=by omega
 have k1':1<=k:=by omega
 clear k1 k6;go_enter Tryz.func66,Tryz.ntmps66;go_upto_region 1 with fail;rw[<-f9.out,<-d9.out,<-f8.out];obtain⟨q0,q1,q2,q3,q4,q5⟩:=yD e5.out;refine qRK (k:=k) (m:=m) (ac:=I.accept) m4 ⟨q0,q4,q1⟩ g7.out ?_;intro z8 z9 z10 z11 z12 z13 z14 z15 z16 z17 w6 w7 o ng sa sc d3 a2;have e0:Hid (AutS w6 o k m ng sa sc I.accept (List.replicate m (.slice none 0 0)) ((autI I).next.take 0) [] w7):=Kh a2;have b4:=Kh d3;have H6:Hid (∀W:World,w6.grownBy W none->W.heap[P]?=some (.cells #[.int .i64 (k:Int),.slice (some ⟨tb,tf,none⟩) m tC,.slice wA wn wC,.slice (some ⟨ib,io,none⟩) k iC,.slice aA m aC,.slice pA pn pC] 39 (0,0))/\w.grownBy W none):=Kh (fun W hW=>⟨zB e5.out (zC b4.out hW),zC (zC HG.out b4.out) hW⟩);obtain⟨q0,q1,q2,q3,q4,q5⟩:=yD (H6.out _ a2.g).1;clear a2 d3;go_wp2
 go_loopg [4,5,6,7,21] m (fun gh a4 a5 a6 a7 a21 wr=>∃(x:Nat) (hs:List Value),gh+x=m/\a21=.int .i64 x/\AutS w6 o k m ng sa sc I.accept hs ((autI I).next.take x) [] wr)
 case atStart=>exact⟨0,_,rfl,rfl,e0.out⟩
 clear e0 q0 q1 q2 q3 q4 q5;obtain⟨x,hs,d2,rfl,h6⟩:=hrel;have b3:=Kh d2;have h3:=Kh h6;obtain⟨d6,h0⟩:=H6.out _ h6.g;obtain⟨q0,q1,q2,q3,q4,q5⟩:=yD d6;clear d2 h6 d6 q1 q2 q3 q4 q5;by_cases hx:x<m
 ·have e6:(x:Int)<m:=by omega
  obtain⟨rb,ro,rc,cr,c4,c0⟩:=b0.out x hx;have cr:=zK cr h0;have g0:=Kh c0;have g3:=Kh c4;have e3:Hid (((autI I).next.take x).length=x):=Kh (by rw[List.length_take,mB,<-HM.out];omega);have d8:Hid (((autI I).next.getD x []).length=k):=Kh (by rw[qGE (by rw[<-HM.out];exact hx),List.length_map,<-HK.out]);clear c0 c4 h0;go_upto_region 5 with fail;refine qRJ h3.out hx e3.out m4 k6' q0 ?_;intro z26 z27 z28 z29 z30 z31 z32 w9 cg h9
  have e2:Hid ((hs.set x (.slice (some ⟨cg,0,none⟩) k k))[x]?=some (.slice (some ⟨cg,0,none⟩) k k)):=Kh (by
   have:=h9.cells.2.2;rw[List.length_set]at this
   rw[List.getElem?_set_self (by omega)])
  rw[<-qLZ ((autI I).next.getD x [])]at h9;have H9:=Kh h9;obtain⟨p0,p1,p2,p3,p4,p5⟩:=yD (H6.out _ h9.g).1;clear h9 cr q0 p0 p1 p2 p4 p5 h3;go_wp2
  go_loopg [6,7,36] k (fun gh a6 a7 a36 wr=>∃j:Nat,gh+j=k/\a36=.int .i64 j/\AutS w6 o k m ng sa sc I.accept (hs.set x (.slice (some ⟨cg,0,none⟩) k k)) ((autI I).next.take x) (⟨w6.heap.size,3,.slice (some ⟨cg,0,none⟩) k k,k,ints (aRow ((autI I).next.getD x []) k j),1⟩::[]) wr)
  case atStart=>exact⟨0,rfl,rfl,H9.out⟩
  clear H9 p3;obtain⟨j,d1,rfl,h6⟩:=hrel;have b2:=Kh d1;have h3:=Kh h6;have h0:=(H6.out _ h6.g).2;have i0:=Kh h0;clear d1 h6;by_cases hj:j<k
  ·have f5:(j:Int)<k:=by omega
   obtain⟨y,ci,hy,ey⟩:=b1.out j hj;have ci:=zK ci h0;have cz:=zK (g0.out y hy) h0
   have hz:(I.tab.getD x []).getD y 0=((autI I).next.getD x []).getD j 0:=by
    rw[qGE (by rw[<-HM.out];exact hx),xZ (x:=0) (by rw[<-HK.out];exact hj),ey,Int.toNat_natCast]
   rw[hz]at cz;clear h0 hz ey;go_upto_region 9 with fail;refine qSQ h3.out hx hj hy m4 k6' e2.out cz g3.out ?_;intro z41 z42 z43 z44 z45 z46 z47 z48 z49 z50 z51 w10 a3;rw[qOL,qPR d8.out hj]at a3;have b5:=Kh a3;clear a3 ci cz h3;go_wp2;go_roundg (k-(j+1))
   case measure=>have:=b2.out;omega
   exact⟨j+1,by have:=b2.out;omega,by go_num,b5.out⟩
  have c7:j=k:=by have:=b2.out;omega
  have f5:¬(j:Int)<k:=by omega
  have b5:Hid (AutS w6 o k m ng sa sc I.accept (hs.set x (.slice (some ⟨cg,0,none⟩) k k)) ((autI I).next.take (x+1)) [] wr):=Kh (by
   have:=h3.out;rw[c7,qPS d8.out]at this;have:=this.fin e3.out hx e2.out;rw[yB (d:=[]) (by rw[mB,<-HM.out];exact hx)]
   exact this)
  clear h0 h3 c7;go_wp2;go_roundg (m-(x+1))
  case measure=>have:=b3.out;omega
  exact⟨x+1,_,by have:=b3.out;omega,by go_num,b5.out⟩
 have b7:x=m:=by have:=b3.out;omega
 have e6:¬(x:Int)<m:=(by omega);have H5:=h3.out;rw[b7,List.take_of_length_le (by rw[mB,<-HM.out];exact Nat.le_refl _)]at H5;obtain⟨d4,hf,hn,c6⟩:=H5.read (by rw[mB,<-HM.out]);have h5:=zB g8.out (zC b4.out H5.g);obtain⟨p0,p1,p2,p3⟩:=zL d4;obtain⟨r0,r1,r2,r3⟩:=zL h5;have f0:=zA h5 0;have f1:=zA h5 1;have f2:=zA h5 2;have f3:=zA h5 3;obtain⟨HF,HN,g4,e4,g6⟩:=K5 hf hn c6 h5 h0;clear H5 d4 hf hn c6 h5 h0 h3 b7 q0;go_wp2;refine bodyPost_ret (v:=.agg #[.int .i64 (k:Int),.int .i64 0,.slice sa m sc,.slice (some ⟨ng,0,none⟩) m m]) (by simp[results,Tryz.results66,go_sem,r0,r1,r2,r3]) rfl ?_;obtain⟨g9,H1⟩:=uF e4.out (.int .i64 (k:Int)) (.int .i64 0) (.slice sa m sc) (.slice (some ⟨ng,0,none⟩) m m)
 have H7:∀e',e'≠29->∀j,(some (P+1):Option Nat)=some j->wr.heap.size<=j\/xG wr e' j:=fun e' he j hj=>by
  have hj:=Oj hj;subst hj;exact .inr ⟨_,_,_,e4.out,fun e1=>he e1.symm⟩
 have hz:=H1.size;have eik:I.k=(k:Int):=g5.out;exact⟨_,rfl,⟨_,_,by simp only[autI,eik],((HF.out.kept H1 (H7 _ (by decide))).mono hz).row,Mat.of_rowT (HN.out.kept H1 (H7 _ (by decide))) (g4.out.kept H1 (H7 _ (by decide))) hz⟩,zC g6.out H1 (fun j e=>by have e:P+1=j:=Oj e;have:=d9.out;omega)⟩
end Go.Proofs.YtobakifdllameaaGreat
