/- Part 9 of the proof. -/
import Derived.Test.YtobakifdllameaaQa8
set_option linter.unusedVariables false
set_option linter.unusedSimpArgs false
set_option maxRecDepth 100000
set_option maxHeartbeats 16000000
namespace Go.Proofs.Ytobakifdllameaa
open Go.RowKit
theorem iE {w W:World}{sz m:Nat}{v:Value}{xs:List Value}(h:uQ w sz v m xs)(hg:w.grownBy W none):uQ W sz v m xs:=by
 rcases h with h|⟨b,off,cap,h1,h2,h3,h4⟩
 ·exact .inl h
 exact .inr ⟨b,off,cap,h1,h2,h3,fun j u hj=>zJ (h4 j u hj) hg⟩
theorem mL {w W:World}(h:GrownBut w W (fun _=>False)):w.grownBy W none:=h.grown (yD w none) (fun k hk=>hk.elim)
theorem vY.ne_own {w:World}{mb q base e sz n:Nat}{v:Value}{xs:List Value}(h:vY w mb q)(ho:w.ownsRow base e sz v n xs):v.ownBlock≠some mb:=by
 obtain⟨D,es,clock,hb,_⟩:=h;rcases ho.2 with ⟨hv,_⟩|⟨g,cap,cur,hv,_,hg,_⟩
 ·rw[hv];simp[Value.ownBlock]
 rw[hv];intro e;have e:g=mb:=by simpa [Value.ownBlock] using e
 subst e;rw[hb]at hg;simp at hg
theorem vY.ne_cells {w:World}{mb q b e:Nat}{c:Array Value}{m:Nat×Nat}(h:vY w mb q)(hb:w.heap[b]?=some (.cells c e m)):b≠mb:=by
 obtain⟨D,es,clock,hm,_⟩:=h;intro e;subst e;rw[hm]at hb;simp at hb
theorem EMem.appLast {X:Nat->Prop}{W W':World}{a9:List RowS}{r r':RowS}(h:EMem X W (a9++[r]))(hg:W.grownBy W' r.v.ownBlock)(ho:W'.ownsRow r'.base r'.e r'.sz r'.v r'.n r'.xs)(hm:lF W W' r.v r'.v):EMem X W' (a9++[r']):=by
 obtain⟨h2,h3,h1⟩:=List.pairwise_append.1 h.apart
 have h0:∀k,r'.v.ownBlock=some k->r.v.ownBlock=some k\/W.heap.size<=k:=fun k hk=>by
  rcases hm with hm|⟨_,hm⟩
  ·exact .inl (by rw[<-hm];exact hk)
  exact .inr (hm k hk)
 refine⟨fun s hs=>?_,?_,fun s hs k hk hx=>?_,fun k hk=>Nat.lt_of_lt_of_le (h.lt k hk) hg.size⟩
 ·rcases List.mem_append.1 hs with hs|hs
  ·refine(h.own s (List.mem_append_left _ hs)).kept hg ?_
   rcases hb:s.v.ownBlock with _|k
   ·exact .inl rfl
   exact .inr (fun e=>h1 s hs r (by simp) k hb e.symm)
  rw[List.mem_singleton]at hs;subst hs;exact ho
 ·rw[List.pairwise_append]
  refine⟨h2,by simp,fun s hs t ht k hk e=>?_⟩;rw[List.mem_singleton]at ht;subst ht;rcases h0 k e with e2|e2
  ·exact h1 s hs r (by simp) k hk e2
  have:=((h.own s (List.mem_append_left _ hs)).lt k hk).2;omega
 rcases List.mem_append.1 hs with hs|hs
 ·exact h.offX s (List.mem_append_left _ hs) k hk hx
 rw[List.mem_singleton]at hs;subst hs;rcases h0 k hk with e2|e2
 ·exact h.offX r (by simp) k e2 hx
 have:=h.lt k hx;omega
def yW (l:List ByteArray):List Value:=l.map .string
inductive WordsS (X:Nat->Prop)(w0:World)(P o mb:Nat)(rows:List RowS)(box:Array Value)(m q:Nat)(sW:Option Addr)(cW:Nat)(w:World):Prop
 | mk (ws:List ByteArray) (hl:ws.length=q) (hsz:∀i,(ws.getD i ⟨#[]⟩).size<=i) (hM:EMem X w (rows++[⟨P,9,.slice sW q cW,q,yW ws,1⟩])) (hMap:vY w mb q) (hB:w.heap[o]?=some (.cells box 90 (0,0)))
  (hBP:w.heap[P+1]?=some (.cells #[.int .i64 0,.bool false,.slice none 0 0,.slice none 0 0,.slice none 0 0,.slice none 0 0,.slice none 0 0,.slice none 0 0,.int .i64 0] 90 (0,0))) (hX:xQ X w0 w) (hg:w0.grownBy w none)
def gX (gs:List (List Nat))(d x:Nat)(s:List (List Nat)×List Int×List Int×List Nat):List (List Nat)×List Int×List Int×List Nat :=
 if wI (s.1.getD d []) (gs.getD x [])∈s.1 then (s.1,s.2.1,s.2.2.1,s.2.2.2++[s.1.idxOf (wI (s.1.getD d []) (gs.getD x []))])
 else (s.1++[wI (s.1.getD d []) (gs.getD x [])],s.2.1++[(d:Int)],s.2.2.1++[(x:Int)],s.2.2.2++[s.1.length])
def sO (gs:List (List Nat))(d:Nat)(s:List (List Nat)×List Int×List Int):Nat->List (List Nat)×List Int×List Int×List Nat
 | 0=>(s.1,s.2.1,s.2.2,[])
 | x+1=>gX gs d x (sO gs d s x)
def xT (gs:List (List Nat))(s:List (List Nat)×List Int×List Int):Nat->(List (List Nat)×List Int×List Int)×List (List Nat)
 | 0=>(s,[])
 | d+1=>(((sO gs d (xT gs s d).1 gs.length).1,(sO gs d (xT gs s d).1 gs.length).2.1,(sO gs d (xT gs s d).1 gs.length).2.2.1),(xT gs s d).2++[(sO gs d (xT gs s d).1 gs.length).2.2.2])
inductive ProcS (w0:World)(P o mb n:Nat)(gA:Option Addr)(gN gC:Nat)(gs els:List (List Nat))(pre las:List Int)(right:List (List Nat))(m d ub:Nat)(sW:Option Addr)(cW:Nat)(tl:List RowS)(w:World):Prop
 | mk (X:Nat->Prop) (u:Nat) (us hsE hsR:List Value) (ws:List ByteArray) (sE:Option Addr) (cE:Nat) (sP:Option Addr) (cP:Nat) (sL:Option Addr) (cL:Nat) (sR:Option Addr) (cR:Nat) (sU:Option Addr) (cU:Nat)
  (hl:els.length=m) (hpl:pre.length=m) (hll:las.length=m) (hrl:right.length=d) (hit:∀f∈els,IsT n f) (hu:u<=ub) (hwl:ws.length=m) (hwz:∀i,(ws.getD i ⟨#[]⟩).size<=i)
  (hM:EMem X w ([⟨P,22,.slice sE m cE,m,hsE,1⟩,⟨P,3,.slice sP m cP,m,ints pre,1⟩,⟨P,3,.slice sL m cL,m,ints las,1⟩,⟨P,22,.slice sR d cR,d,hsR,1⟩,⟨P,135,.slice sU u cU,u,us,2⟩,⟨P,9,.slice sW m cW,m,yW ws,1⟩]++tl))
  (hE:xO X 3 nats w hsE els) (hR:xO X 3 nats w hsR right) (hG:TX X w (.slice gA gN gC) gs) (hX:¬X o/\¬X (P+1)/\¬X mb) (hMap:vY w mb m)
  (hB:w.heap[o]?=some (.cells #[.int .i64 n,.bool true,.slice gA gN gC,.slice sE m cE,.slice sP m cP,.slice sL m cL,.slice sR d cR,.slice sU u cU,.int .i64 d] 90 (0,0)))
  (hBP:w.heap[P+1]?=some (.cells #[.int .i64 0,.bool false,.slice none 0 0,.slice none 0 0,.slice none 0 0,.slice none 0 0,.slice none 0 0,.slice none 0 0,.int .i64 0] 90 (0,0))) (hg:w0.grownBy w none)
def oD (gs:List (List Nat))(s:List (List Nat)×List Int×List Int)(n:Nat):Prop:=∃d x,d<(xT gs s d).1.1.length/\x<=gs.length/\(sO gs d (xT gs s d).1 x).1.length=2000/\∀f∈(sO gs d (xT gs s d).1 x).1,IsT n f
def qLX (gs els:List (List Nat))(pre las:List Int)(n bd:Nat)(gv:Value)(w:World)(e:Ending)(w':World):Prop :=
 (e=.returned (.tuple #[.agg #[.int .i64 0,.bool false,.slice none 0 0,.slice none 0 0,.slice none 0 0,.slice none 0 0,.slice none 0 0,.slice none 0 0,.int .i64 0],.int .i64 3])/\oD gs (els,pre,las) n/\w.grownBy w' none) \/
 ∃(X:Nat->Prop) (el:List (List Nat)) (pr la:List Int) (ri:List (List Nat)) (m d u:Nat) (us hsE hsR:List Value) (sE:Option Addr) (cE:Nat) (sP:Option Addr) (cP:Nat) (sL:Option Addr) (cL:Nat) (sR:Option Addr) (cR:Nat) (sU:Option Addr) (cU:Nat),
  e=.returned (.tuple #[.agg #[.int .i64 n,.bool true,gv,.slice sE m cE,.slice sP m cP,.slice sL m cL,.slice sR d cR,.slice sU u cU,.int .i64 d],.int .i64 0])/\xT gs (els,pre,las) d=((el,pr,la),ri)/\(d=m\/d=bd)/\m<=2000/\d<=m/\el.length=m/\pr.length=m/\la.length=m/\ri.length=d/\(∀f∈el,IsT n f) /\
  EMem X w' [⟨w.heap.size,22,.slice sE m cE,m,hsE,1⟩,⟨w.heap.size,3,.slice sP m cP,m,ints pr,1⟩,⟨w.heap.size,3,.slice sL m cL,m,ints la,1⟩,⟨w.heap.size,22,.slice sR d cR,d,hsR,1⟩,⟨w.heap.size,135,.slice sU u cU,u,us,2⟩]/\xO X 3 nats w' hsE el/\xO X 3 nats w' hsR ri/\TX X w' gv gs/\w.grownBy w' none
theorem eQ (ws:List ByteArray)(s:ByteArray):yW (ws++[s])=yW ws++[.string s]:=by simp[yW]
theorem fK {ws:List ByteArray}{s:ByteArray}{q:Nat}(hl:ws.length=q)(hz:∀i,(ws.getD i ⟨#[]⟩).size<=i)(hs:s.size<=q)(i:Nat):((ws++[s]).getD i ⟨#[]⟩).size<=i:=by
 rcases Nat.lt_or_ge i q with h|h
 ·rw[List.getD_eq_getElem?_getD,List.getElem?_append_left (by rw[hl];exact h),<-List.getD_eq_getElem?_getD]
  exact hz i
 rcases Nat.eq_or_lt_of_le h with e|h
 ·subst e
  rw[List.getD_eq_getElem?_getD,List.getElem?_append_right (by rw[hl];exact Nat.le_refl _),hl];simpa using hs
 rw[List.getD_eq_getElem?_getD,List.getElem?_eq_none (by simp[hl];omega)];simp[ByteArray.size]
inductive MidS (w0:World)(P o mb n:Nat)(gA:Option Addr)(gN gC:Nat)(gs els:List (List Nat))(pre las:List Int)(right:List (List Nat))(m q c d ub:Nat)(sW:Option Addr)(cW:Nat)(tl:List RowS)(w:World):Prop
 | mk (X:Nat->Prop) (u:Nat) (us hsE hsR:List Value) (ws:List ByteArray) (sE:Option Addr) (cE:Nat) (sP:Option Addr) (cP:Nat) (sL:Option Addr) (cL:Nat) (sR:Option Addr) (cR:Nat) (sU:Option Addr) (cU:Nat)
  (hl:els.length=m) (hpl:pre.length=m) (hll:las.length=m) (hrl:right.length=d) (hit:∀f∈els,IsT n f) (hu:u<=ub) (hwl:ws.length=q) (hwz:∀i,(ws.getD i ⟨#[]⟩).size<=i)
  (hM:EMem X w ([⟨P,22,.slice sE m cE,m,hsE,1⟩,⟨P,3,.slice sP m cP,m,ints pre,1⟩,⟨P,3,.slice sL m cL,m,ints las,1⟩,⟨P,22,.slice sR d cR,d,hsR,1⟩,⟨P,135,.slice sU u cU,u,us,2⟩,⟨P,9,.slice sW q cW,q,yW ws,1⟩]++tl))
  (hE:xO X 3 nats w hsE els) (hR:xO X 3 nats w hsR right) (hG:TX X w (.slice gA gN gC) gs) (hX:¬X o/\¬X (P+1)/\¬X mb) (hMap:vY w mb c)
  (hB:w.heap[o]?=some (.cells #[.int .i64 n,.bool true,.slice gA gN gC,.slice sE m cE,.slice sP m cP,.slice sL m cL,.slice sR d cR,.slice sU u cU,.int .i64 d] 90 (0,0)))
  (hBP:w.heap[P+1]?=some (.cells #[.int .i64 0,.bool false,.slice none 0 0,.slice none 0 0,.slice none 0 0,.slice none 0 0,.slice none 0 0,.slice none 0 0,.int .i64 0] 90 (0,0))) (hg:w0.grownBy w none)
section
variable {w0 w:World} {P o mb n gN gC m q c d ub cW:Nat} {gA sW:Option Addr} {gs els right:List (List Nat)} {pre las:List Int} {tl:List RowS}
theorem MidS.app (h:MidS w0 P o mb n gA gN gC gs els pre las right m q c d ub sW cW tl w)(a9:w0.heap.size<=P):∃ws,w.ownsRow P 9 1 (.slice sW q cW) q (yW ws)/\∀(s:ByteArray) (sW':Option Addr) (cW':Nat) (w':World),s.size<=q->w'.ownsRow P 9 1 (.slice sW' (q+1) cW') (q+1) (yW ws++[.string s])->w.grownBy w' (Value.slice sW q cW).ownBlock->lF w w' (.slice sW q cW) (.slice sW' (q+1) cW')->MidS w0 P o mb n gA gN gC gs els pre las right m (q+1) c d ub sW' cW' tl w':=by
 obtain⟨X,u,us,h5,h4,ws,sE,cE,sP,cP,sL,cL,sR,cR,sU,cU,hl,h7,h8,h6,h9,hu,h1,h3,hM,hE,hR,hG,hX,h0,hB,h2,hg⟩:=h;have ho:w.ownsRow P 9 1 (.slice sW q cW) q (yW ws):=hM.own ⟨P,9,.slice sW q cW,q,yW ws,1⟩ (by simp);refine⟨ws,ho,fun s sW' cW' w' hs ho' hg' hm'=>?_⟩;have k:=xQ.of_grown hM.lt hg' (fun j e hx=>hM.offX ⟨P,9,.slice sW q cW,q,yW ws,1⟩ (by simp) j e hx);refine .mk X u us h5 h4 (ws++[s]) sE cE sP cP sL cL sR cR sU cU hl h7 h8 h6 h9 hu (by simp[h1]) (fK h1 h3 hs) ?_ (hE.kept k hg'.size) (hR.kept k hg'.size) (hG.kept k hg'.size) hX (h0.kept hg' (h0.ne_own ho)) (zB hB hg' (zS ho hB (by decide))) (zB h2 hg' (zS ho h2 (by decide))) (zC hg hg' (fun j e=>by have:=(ho.lt j e).1;omega));rw[eQ];exact hM.appAt (j:=5) rfl (us:=[.string s]) ho' hg' hm'
theorem MidS.put (h:MidS w0 P o mb n gA gN gC gs els pre las right m q c d ub sW cW tl w)(a9:w0.heap.size<=mb):vY w mb c/\∀w',vY w' mb (c+1)->w.grownBy w' (some mb)->q=m->c+1=m->ProcS w0 P o mb n gA gN gC gs els pre las right m d ub sW cW tl w':=by
 obtain⟨X,u,us,h5,h4,ws,sE,cE,sP,cP,sL,cL,sR,cR,sU,cU,hl,h7,h8,h6,h9,hu,h3,h2,hM,hE,hR,hG,hX,h0,hB,h1,hg⟩:=h;refine⟨h0,fun w' hMap' hg' e1 e2=>?_⟩;subst e1;subst e2;have k:=xQ.of_grown hM.lt hg' (fun j e hx=>by have e:mb=j:=Oj e;subst e;exact hX.2.2 hx);exact .mk X u us h5 h4 ws sE cE sP cP sL cL sR cR sU cU hl h7 h8 h6 h9 hu h3 h2 (hM.far hg' (fun r hr=>h0.ne_own (hM.own r hr))) (hE.kept k hg'.size) (hR.kept k hg'.size) (hG.kept k hg'.size) hX hMap' (zB hB hg' (fun e=>h0.ne_cells hB (Oj e).symm)) (zB h1 hg' (fun e=>h0.ne_cells h1 (Oj e).symm)) (yN hg hg' (by show _<=mb;omega))
theorem ProcS.row {x:Nat}{sr:Option Addr}{cr:Nat}{ro:List Nat}(h:ProcS w0 P o mb n gA gN gC gs els pre las right m d ub sW cW [⟨P,3,.slice sr x cr,x,nats ro,1⟩] w)(a9:w0.heap.size<=P):w.ownsRow P 3 1 (.slice sr x cr) x (nats ro)/\∀(i:Nat) (sr':Option Addr) (cr':Nat) (w':World),w'.ownsRow P 3 1 (.slice sr' (x+1) cr') (x+1) (nats ro++[.int .i64 (i:Int)])->w.grownBy w' (Value.slice sr x cr).ownBlock->lF w w' (.slice sr x cr) (.slice sr' (x+1) cr')->ProcS w0 P o mb n gA gN gC gs els pre las right m d ub sW cW [⟨P,3,.slice sr' (x+1) cr',x+1,nats (ro++[i]),1⟩] w':=by
 obtain⟨X,u,us,h5,h4,ws,sE,cE,sP,cP,sL,cL,sR,cR,sU,cU,hl,h7,h8,h6,h9,hu,h3,h2,hM,hE,hR,hG,hX,h0,hB,h1,hg⟩:=h;have ho:w.ownsRow P 3 1 (.slice sr x cr) x (nats ro):=hM.own ⟨P,3,.slice sr x cr,x,nats ro,1⟩ (by simp);refine⟨ho,fun i sr' cr' w' ho' hg' hm'=>?_⟩;have k:=xQ.of_grown hM.lt hg' (fun j e hx=>hM.offX ⟨P,3,.slice sr x cr,x,nats ro,1⟩ (by simp) j e hx);refine .mk X u us h5 h4 ws sE cE sP cP sL cL sR cR sU cU hl h7 h8 h6 h9 hu h3 h2 ?_ (hE.kept k hg'.size) (hR.kept k hg'.size) (hG.kept k hg'.size) hX (h0.kept hg' (h0.ne_own ho)) (zB hB hg' (zS ho hB (by decide))) (zB h1 hg' (zS ho h1 (by decide))) (zC hg hg' (fun j e=>by have:=(ho.lt j e).1;omega));rw[show nats (ro++[i])=nats ro++[.int .i64 (i:Int)] by simp[nats]];exact hM.appAt (j:=6) rfl (us:=[.int .i64 (i:Int)]) ho' hg' hm'
theorem ProcS.more {a9:Nat}(h:ProcS w0 P o mb n gA gN gC gs els pre las right m d ub sW cW tl w)(a8:ub<=a9):ProcS w0 P o mb n gA gN gC gs els pre las right m d a9 sW cW tl w:=by
 obtain⟨X,u,us,h4,h3,ws,sE,cE,sP,cP,sL,cL,sR,cR,sU,cU,hl,h6,h7,h5,h8,hu,h2,h1,hM,hE,hR,hG,hX,h0,hB,h9,hg⟩:=h;exact .mk X u us h4 h3 ws sE cE sP cP sL cL sR cR sU cU hl h6 h7 h5 h8 (Nat.le_trans hu a8) h2 h1 hM hE hR hG hX h0 hB h9 hg
theorem ProcS.grow {w':World}(h:ProcS w0 P o mb n gA gN gC gs els pre las right m d ub sW cW tl w)(a9:w.grownBy w' none):ProcS w0 P o mb n gA gN gC gs els pre las right m d ub sW cW tl w':=by
 obtain⟨X,u,us,h4,h3,ws,sE,cE,sP,cP,sL,cL,sR,cR,sU,cU,hl,h6,h7,h5,h8,hu,h2,h1,hM,hE,hR,hG,hX,h0,hB,h9,hg⟩:=h;have k:=hM.keep a9;exact .mk X u us h4 h3 ws sE cE sP cP sL cL sR cR sU cU hl h6 h7 h5 h8 hu h2 h1 (hM.grow a9) (hE.kept k a9.size) (hR.kept k a9.size) (hG.kept k a9.size) hX (h0.kept a9 (by simp)) (zB hB a9) (zB h9 a9) (zC hg a9)
theorem vY.same {w w':World}{b q:Nat}(h:vY w b q)(e:w'.heap[b]?=w.heap[b]?):vY w' b q:=by
 obtain⟨D,es,clock,hb,h2⟩:=h;exact⟨D,es,clock,e.trans hb,h2⟩
theorem ProcS.new24 {w4:World}{gf x:Nat}{f:List Nat}(h:ProcS w0 P o mb n gA gN gC gs els pre las right m d ub sW cW tl w)(a2:w0.heap.size<=P)(a3:P+1<o)(a9:w.grownBy w4 none)(a5:w.heap.size<=gf)(a7:Arr w4 gf 3 (nats f))(a8:f.length=n)(hn:n<=maxLen)(a4:IsT n f)(a6:∀r∈tl,r.base=P/\r.e≠90):∃(FF:Nat->Prop) (u:Nat) (hsE:List Value) (rest:List RowS) (sE:Option Addr) (cE:Nat) (sP:Option Addr) (cP:Nat) (sL:Option Addr) (cL:Nat) (sR:Option Addr) (cR:Nat) (sU:Option Addr) (cU:Nat),FF o/\P<=w4.heap.size/\o<w4.heap.size/\(∀r∈rest,r.e≠90)/\w4.heap[o]?=some (.cells #[.int .i64 n,.bool true,.slice gA gN gC,.slice sE m cE,.slice sP m cP,.slice sL m cL,.slice sR d cR,.slice sU u cU,.int .i64 d] 90 (0,0))/\Many w4 FF w4 (⟨P,22,.slice sE m cE,m,hsE,1⟩::⟨P,3,.slice sP m cP,m,ints pre,1⟩::⟨P,3,.slice sL m cL,m,ints las,1⟩::rest) [] []/\∀(w6:World) (s1:Option Addr) (c1:Nat) (s2:Option Addr) (c2:Nat) (s3:Option Addr) (c3:Nat) (ls:List (Nat×Obj)),Many w4 FF w6 (⟨P,22,.slice s1 (m+1) c1,m+1,hsE++[.slice (some ⟨gf,0,none⟩) n n],1⟩::⟨P,3,.slice s2 (m+1) c2,m+1,ints pre++[.int .i64 (d:Int)],1⟩::⟨P,3,.slice s3 (m+1) c3,m+1,ints las++[.int .i64 (x:Int)],1⟩::rest) ls []->w6.heap[o]?=some (.cells #[.int .i64 n,.bool true,.slice gA gN gC,.slice s1 (m+1) c1,.slice s2 (m+1) c2,.slice s3 (m+1) c3,.slice sR d cR,.slice sU u cU,.int .i64 d] 90 (0,0))->MidS w0 P o mb n gA gN gC gs (els++[f]) (pre++[(d:Int)]) (las++[(x:Int)]) right (m+1) m m d ub sW cW tl w6:=by
 obtain⟨X,u,us,hsE,h8,ws,sE,cE,sP,cP,sL,cL,sR,cR,sU,cU,hl,b0,b3,a0,b4,hu,H9,H8,hM,hE,hR,hG,hX,h7,hB,H7,hg⟩:=h;have h5:=hM.fresh (W':=w4) a9 (Y:=fun j=>j=gf) (fun k e=>by subst e;exact⟨a5,a7.lt⟩);have k4:=hM.keep a9;have H0:=zB hB a9;have h4:=zB H7 a9;have h0:=h7.kept a9 (by simp);have b1:=zR H0;have H5:¬(X o\/o=gf):=fun h=>h.elim hX.1 (fun e=>by have:=zR hB;omega);have b6:¬(X (P+1)\/P+1=gf):=fun h=>h.elim hX.2.1 (fun e=>by have:=zR H7;omega);have b7:¬(X mb\/mb=gf):=fun h=>h.elim hX.2.2 (fun e=>by have:=h7.lt;omega)
 have H1:∀r∈([⟨P,22,.slice sE m cE,m,hsE,1⟩,⟨P,3,.slice sP m cP,m,ints pre,1⟩,⟨P,3,.slice sL m cL,m,ints las,1⟩,⟨P,22,.slice sR d cR,d,h8,1⟩,⟨P,135,.slice sU u cU,u,us,2⟩,⟨P,9,.slice sW m cW,m,yW ws,1⟩]++tl),r.base=P/\r.e≠90:=by
  intro r hr;rcases List.mem_append.1 hr with hr|hr
  ·simp only[List.mem_cons,List.not_mem_nil,or_false]at hr
   rcases hr with rfl|rfl|rfl|rfl|rfl|rfl<;>simp
  exact a6 r hr
 obtain⟨rows,h1⟩:=Nm ([⟨P,22,.slice sE m cE,m,hsE,1⟩,⟨P,3,.slice sP m cP,m,ints pre,1⟩,⟨P,3,.slice sL m cL,m,ints las,1⟩,⟨P,22,.slice sR d cR,d,h8,1⟩,⟨P,135,.slice sU u cU,u,us,2⟩,⟨P,9,.slice sW m cW,m,yW ws,1⟩]++tl:List RowS);rw[<-h1]at h5 H1
 have h9:∀k,rJ rows k->w0.heap.size<=k/\k≠o/\k≠P+1/\k≠mb/\¬(X k\/k=gf):=by
  intro k hk;obtain⟨r,hr,hk⟩:=hk;have h2:=h5.own r hr;have H2:=H1 r hr;refine⟨?_,fun e=>?_,fun e=>?_,fun e=>?_,h5.offX r hr k hk⟩
  ·have:=(h2.lt k hk).1
   rw[H2.1]at this;omega
  ·subst e;exact zS h2 H0 H2.2 hk
  ·subst e;exact zS h2 h4 H2.2 hk
  subst e;exact h0.ne_own h2 hk
 have b2:mb≠o:=fun e=>h0.ne_cells H0 e.symm;have H6:∀k,(rJ rows k\/k=o)->¬(X k\/k=gf):=fun k hk=>hk.elim (fun h=>(h9 k h).2.2.2.2) (fun e=>by subst e;exact H5);refine⟨fun k=>rJ rows k\/k=o,u,hsE,[⟨P,22,.slice sR d cR,d,h8,1⟩,⟨P,135,.slice sU u cU,u,us,2⟩,⟨P,9,.slice sW m cW,m,yW ws,1⟩]++tl,sE,cE,sP,cP,sL,cL,sR,cR,sU,cU,.inr rfl,Nat.le_of_lt (Nat.lt_of_succ_lt (zR h4)),b1,?_,H0,?_,?_⟩
 ·intro r hr
  exact(H1 r (by rw[h1];exact List.Mem.tail _ (List.Mem.tail _ (List.Mem.tail _ hr)))).2
 ·have:=h5.many (fun k=>rJ rows k\/k=o) (fun k hk=>.inl hk)
  rw[h1]at this⊢;exact this
 intro w6 s1 c1 s2 c2 s3 c3 ls h3 b8;have H3:=h5.after h3 H6;have k6:=h5.keepMany h3 H6;have H4:=h3.but.heap h4 (fun h=>h.elim (fun h=>(h9 _ h).2.2.1 rfl) (fun e=>by omega));have h6:=h0.same (h3.but.block mb h0.lt (fun h=>h.elim (fun h=>(h9 _ h).2.2.2.1 rfl) b2));have b5:=h3.but.grown (zC hg a9) (fun k hk=>.inr (hk.elim (fun h=>(h9 k h).1) (fun e=>by omega)))
 have a1:RowX (fun k=>X k\/k=gf) 3 w4 (.slice (some ⟨gf,0,none⟩) n n) (nats f):=by
  refine⟨?_,fun j e=>?_⟩
  ·have:=a7.rowT' (cap:=n) (by rw[zQ,a8];exact Nat.le_refl _) hn
   rwa [zQ,a8]at this
  have e:gf=j:=by simpa [Value.ownBlock] using e
  exact .inr e.symm
 refine .mk (fun k=>X k\/k=gf) u us (hsE++[.slice (some ⟨gf,0,none⟩) n n]) h8 ws s1 c1 s2 c2 s3 c3 sR cR sU cU (by simp[hl]) (by simp[b0]) (by simp[b3]) a0 ?_ hu H9 H8 ?_ ((((hE.kept k4 a9.size).mono (fun k hk=>.inl hk)).snoc a1).kept k6 h3.but.size) (((hR.kept k4 a9.size).mono (fun k hk=>.inl hk)).kept k6 h3.but.size) (((hG.kept k4 a9.size).mono (fun k hk=>.inl hk)).kept k6 h3.but.size) ⟨H5,b6,b7⟩ h6 b8 H4 b5
 ·intro g hg
  rcases List.mem_append.1 hg with h|h
  ·exact b4 g h
  rw[List.mem_singleton]at h;subst h;exact a4
 rw[show ints (pre++[(d:Int)])=ints pre++[.int .i64 (d:Int)] by simp[ints],show ints (las++[(x:Int)])=ints las++[.int .i64 (x:Int)] by simp[ints]];exact H3
theorem ProcS.word (h:ProcS w0 P o mb n gA gN gC gs els pre las right m d ub sW cW tl w){i:Nat}(hi:i<m):∃(lb:Nat) (V:ByteArray),sW=some ⟨lb,0,none⟩/\m<=cW/\cW<=maxLen/\w.cell? ⟨lb,i,none⟩=some (.string V)/\V.size<=i:=by
 obtain⟨X,u,us,h9,h8,ws,sE,cE,sP,cP,sL,cL,sR,cR,sU,cU,hl,H1,H2,H0,H3,hu,h1,h2,hM,hE,hR,hG,hX,h6,hB,H4,hg⟩:=h;have ho:w.ownsRow P 9 1 (.slice sW m cW) m (yW ws):=hM.own ⟨P,9,.slice sW m cW,m,yW ws,1⟩ (by simp);obtain⟨lb,rfl,h4,h3,h7⟩:=yY ho (by omega);have h0:=h7.cell i (by simp[yW,h1];exact hi)
 have h5:(yW ws)[i]'(by simp[yW,h1];exact hi)=.string (ws.getD i ⟨#[]⟩):=by
  simp[yW,List.getD_eq_getElem?_getD,h1,hi]
 rw[h5]at h0;exact⟨lb,_,rfl,h4,h3,h0,h2 i⟩
theorem qER {w w':World}{b e n lb c i:Nat}{xs:List Value}{u:Value}(h:w.ownsRow b e 1 (.slice (some ⟨lb,0,none⟩) n c) n xs)(h':w'.ownsRow b e 1 (.slice (some ⟨lb,0,none⟩) n c) n xs)(hi:i<n)(hc:w.cell? ⟨lb,i,none⟩=some u):w'.cell? ⟨lb,i,none⟩=some u:=by
 have hl:xs.length=n:=by have:=h.1;omega
 obtain⟨k,e1,_,_,hA⟩:=yY h (by omega);obtain⟨k',e2,_,_,h0⟩:=yY h' (by omega);have e1:lb=k:=by simpa using e1
 have e2:lb=k':=by simpa using e2
 subst e1;subst e2;rw[hA.cell i (by omega)]at hc;rw[h0.cell i (by omega),hc]
theorem ProcS.new30 {lb:Nat}(h:ProcS w0 P o mb n gA gN gC gs els pre las right m d ub (some ⟨lb,0,none⟩) cW tl w)(a7:w0.heap.size<=P)(a8:P+1<o)(a9:∀r∈tl,r.base=P/\r.e≠90):∃(u:Nat) (us:List Value) (sU:Option Addr) (cU:Nat) (rs:List RowS),w.cell? ⟨o,7,none⟩=some (.slice sU u cU)/\u<=ub/\rs[4]?=some ⟨P,135,.slice sU u cU,u,us,2⟩/\∀w9,w.grownBy w9 none->Many w9 (rJ rs) w9 rs [] []/\P<=w9.heap.size/\∀(wM:World) (sU':Option Addr) (cU':Nat) (us2:List Value),Many w9 (rJ rs) wM (rs.set 4 ⟨P,135,.slice sU' (u+1) cU',u+1,us++us2,2⟩) [] []->wM.cell? ⟨o,7,none⟩=some (.slice sU u cU)/\wM.frozen? ⟨o,7,none⟩=false/\(∀(i:Nat) (V:Value),i<m->w.cell? ⟨lb,i,none⟩=some V->wM.cell? ⟨lb,i,none⟩=some V)/\ProcS w0 P o mb n gA gN gC gs els pre las right m d (ub+1) (some ⟨lb,0,none⟩) cW tl (wM.setCell ⟨o,7,none⟩ (.slice sU' (u+1) cU')):=by
 obtain⟨X,u,us,H1,H0,ws,sE,cE,sP,cP,sL,cL,sR,cR,sU,cU,hl,a2,a3,a1,a4,hu,H8,H7,hM,hE,hR,hG,hX,H3,hB,a6,hg⟩:=h;refine⟨u,us,sU,cU,[⟨P,22,.slice sE m cE,m,H1,1⟩,⟨P,3,.slice sP m cP,m,ints pre,1⟩,⟨P,3,.slice sL m cL,m,ints las,1⟩,⟨P,22,.slice sR d cR,d,H0,1⟩,⟨P,135,.slice sU u cU,u,us,2⟩,⟨P,9,.slice (some ⟨lb,0,none⟩) m cW,m,yW ws,1⟩]++tl,(zU hB).2.2.2.2.2.2.2.1,hu,rfl,fun w9 hg9=>?_⟩;have h8:=hM.grow hg9;have k9:=hM.keep hg9;have H6:=zB hB hg9;have h6:=zB a6 hg9;have h0:=H3.kept hg9 (by simp);refine⟨h8.many (rJ _) (fun _ h=>h),by have:=zR h6;omega,fun wM sU' cU' us2 hMM=>?_⟩
 have H9:∀r∈([⟨P,22,.slice sE m cE,m,H1,1⟩,⟨P,3,.slice sP m cP,m,ints pre,1⟩,⟨P,3,.slice sL m cL,m,ints las,1⟩,⟨P,22,.slice sR d cR,d,H0,1⟩,⟨P,135,.slice sU u cU,u,us,2⟩,⟨P,9,.slice (some ⟨lb,0,none⟩) m cW,m,yW ws,1⟩]++tl),r.base=P/\r.e≠90:=by
  intro r hr;rcases List.mem_append.1 hr with hr|hr
  ·simp only[List.mem_cons,List.not_mem_nil,or_false]at hr
   rcases hr with rfl|rfl|rfl|rfl|rfl|rfl<;>simp
  exact a9 r hr
 have h7:∀k,rJ ([⟨P,22,.slice sE m cE,m,H1,1⟩,⟨P,3,.slice sP m cP,m,ints pre,1⟩,⟨P,3,.slice sL m cL,m,ints las,1⟩,⟨P,22,.slice sR d cR,d,H0,1⟩,⟨P,135,.slice sU u cU,u,us,2⟩,⟨P,9,.slice (some ⟨lb,0,none⟩) m cW,m,yW ws,1⟩]++tl) k->w0.heap.size<=k/\k≠o/\k≠P+1/\k≠mb/\¬X k:=by
  intro k hk;obtain⟨r,hr,hk⟩:=hk;have h3:=h8.own r hr;have H2:=H9 r hr;refine⟨?_,fun e=>?_,fun e=>?_,fun e=>?_,h8.offX r hr k hk⟩
  ·have:=(h3.lt k hk).1
   rw[H2.1]at this;omega
  ·subst e;exact zS h3 H6 H2.2 hk
  ·subst e;exact zS h3 h6 H2.2 hk
  subst e;exact h0.ne_own h3 hk
 have H4:=h8.after hMM (fun k hk=>(h7 k hk).2.2.2.2);have kM:=h8.keepMany hMM (fun k hk=>(h7 k hk).2.2.2.2);have h9:=hMM.but.heap H6 (fun hj=>(h7 o hj).2.1 rfl);have H5:=hMM.but.heap h6 (fun hj=>(h7 _ hj).2.2.1 rfl);have h5:=h0.same (hMM.but.block mb h0.lt (fun hj=>(h7 _ hj).2.2.2.1 rfl));have a5:=hMM.but.grown (zC hg hg9) (fun k hk=>.inr (h7 k hk).1);have a0:=heap_setCell_same wM o 7 _ _ (.slice sU' (u+1) cU') h9;have h4:=zG wM ⟨o,7,none⟩ (.slice sU' (u+1) cU');have kS:xQ X wM _:=xQ.of_grown H4.lt h4 (fun j e hx=>by have e:o=j:=Oj e;subst e;exact hX.1 hx);refine⟨(zU h9).2.2.2.2.2.2.2.1,zA h9 7,fun i V hi hc=>?_,?_⟩
 ·have h1:w.ownsRow P 9 1 (.slice (some ⟨lb,0,none⟩) m cW) m (yW ws):=hM.own ⟨P,9,.slice (some ⟨lb,0,none⟩) m cW,m,yW ws,1⟩ (by simp)
  have h2:wM.ownsRow P 9 1 (.slice (some ⟨lb,0,none⟩) m cW) m (yW ws):=hMM.own 5 ⟨P,9,.slice (some ⟨lb,0,none⟩) m cW,m,yW ws,1⟩ rfl;exact qER h1 h2 hi hc
 refine .mk X (u+1) (us++us2) H1 H0 ws sE cE sP cP sL cL sR cR sU' cU' hl a2 a3 a1 a4 (by omega) H8 H7 (H4.far h4 (fun r hr=>zS (H4.own r hr) h9 ?_)) ((hE.kept k9 hg9.size).kept kM hMM.but.size |>.kept kS h4.size) ((hR.kept k9 hg9.size).kept kM hMM.but.size |>.kept kS h4.size) ((hG.kept k9 hg9.size).kept kM hMM.but.size |>.kept kS h4.size) hX (h5.kept h4 (fun e=>h5.ne_cells h9 (Oj e))) (by simpa using a0) (zB H5 h4 (by simp;omega)) (yN a5 h4 (by show _<=o;omega));simp only[List.cons_append,List.nil_append,List.set_cons_zero,List.set_cons_succ,List.mem_cons]at hr;rcases hr with rfl|rfl|rfl|rfl|rfl|rfl|hr
 ·simp
 ·simp
 ·simp
 ·simp
 ·simp
 ·simp
 exact(a9 r hr).2
end
def atW (right:List (List Nat))(x:Nat)(w:List Nat):Nat:=w.foldl (fun q a=>(right.getD q []).getD a 0) x
def rowE (pre las:List Int)(right:List (List Nat))(n x:Nat):List Nat:=(List.range n).map fun y=>atW right x (wQ pre las y)
def tabE (pre las:List Int)(right:List (List Nat))(n:Nat):List (List Nat):=(List.range n).map fun x=>rowE pre las right n x
theorem tN (pre a9:List Int)(right:List (List Nat))(n x:Nat):(rowE pre a9 right n x).length=n:=by simp[rowE]
theorem wF (pre a9:List Int)(right:List (List Nat))(n:Nat):(tabE pre a9 right n).length=n:=by simp[tabE]
theorem qFY {pre a9:List Int}{right:List (List Nat)}{n x y:Nat}(hy:y<n):(rowE pre a9 right n x).take (y+1)=(rowE pre a9 right n x).take y++[atW right x (wQ pre a9 y)]:=by
 rw[yF (d:=0) (by rw[tN];exact hy),zN (by rw[tN];exact hy)];simp[rowE]
theorem bK {pre a9:List Int}{right:List (List Nat)}{n x:Nat}(hx:x<n):(tabE pre a9 right n).take (x+1)=(tabE pre a9 right n).take x++[rowE pre a9 right n x]:=by
 rw[yF (d:=[]) (by rw[wF];exact hx),zN (by rw[wF];exact hx)];simp[tabE]
def qBX (right:List (List Nat))(n k:Nat):Prop:=right.length=n/\∀q,q<n->(right.getD q []).length=k/\∀a,a<k->(right.getD q []).getD a 0<n
theorem iG (right:List (List Nat))(x:Nat)(w:List Nat)(a:Nat):atW right x (w++[a])=(right.getD (atW right x w) []).getD a 0:=by simp[atW,List.foldl_append]
theorem qNE {w:List Nat}{j:Nat}{s:ByteArray}(hs:s=strOfNums (lets w))(hw:∀a∈w,a<26)(hj:j<w.length)(h:j<s.size):(s[j].toNat:Int)=97+(w.getD j 0:Nat):=by
 subst hs;have e:(strOfNums (lets w))[j]=(strOfNums (lets w)).data.toList[j]'(by simpa using h):=rfl;have hm:=hw _ (List.getElem_mem hj);rw[e];simp only[strOfNums_data,lets,List.getElem_map];rw[zN hj];simp;omega
theorem qAN (B C D:Nat)(w:World)(x0 x1 x2 x7 x8:Value)(a8:Option Addr)(c3:Nat)(v4 v5 v6:Value)(pre a9:List Int)(right:List (List Nat))(n k:Nat)(hB:B<=w.heap.size)(hC:C<=w.heap.size)(hD:D<=w.heap.size)(h4:Row B w v4 (ints pre))(h5:Row C w v5 (ints a9))(h6:TMat D w v6 right)(a6:pre.length=n)(a4:a9.length=n)(a5:sY pre a9 n k)(a7:qBX right n k)(hk:k<=6)(hn:n<=2000):Calls Try.prog 62 #[.agg #[x0,x1,x2,.slice a8 n c3,v4,v5,v6,x7,x8]] w (gV w (tabE pre a9 right n)):=by
 obtain⟨ta,tc,rfl⟩:=h6.shape;rw[a7.1]at h6⊢;obtain⟨wA,a2⟩:=Nm (w.alloc (.cells #[x0,x1,x2,.slice a8 n c3,v4,v5,.slice ta n tc,x7,x8] 90));have H0:wA.heap[w.heap.size]?=some (.cells #[x0,x1,x2,.slice a8 n c3,v4,v5,.slice ta n tc,x7,x8] 90 (0,0)):=by rw[a2];exact heap_alloc_new w _
 have a1:w.grownBy wA none:=by rw[a2];exact Ga w _ none
 have f4:wA.heap.size=w.heap.size+1:=by rw[a2,zW]
 obtain⟨P,hP⟩:=Nm w.heap.size;have f0:=Kh hP;rw[<-hP]at H0 hB hC hD f4;obtain⟨b6,g5,g0⟩:=K3 H0 a1 a2;have H4:=Kh (h4.kept a1 (by simp));have H5:=Kh (h5.kept a1 (by simp));have H6:=Kh (h6.kept a1 (by simp));obtain⟨f1,b3,g2,g3⟩:=K4 a5 a7 a6 a4;clear H0 a1 a2 h4 h5 h6 a5 a7 a6 a4;go_enter Try.func62,Try.ntmps62;go_upto_region 1 with fail;rw[<-g0.out,<-f0.out];clear hP;obtain⟨e0,e1,e2,e3,e4,e5,e6,e7,e8⟩:=zU b6.out;clear e0 e1 e2 e4 e5 e6 e7 e8;go_wp2
 go_loopg [3,13] n (fun gh v3 i wr=>∃(a:Nat) (sa:Option Addr) (sc:Nat),gh+a=n/\i=.int .i64 a/\v3=.slice sa a sc/\OwnT (P+1) wr (.slice sa a sc) a ((tabE pre a9 right n).take a)/\wA.grownBy wr none)
 case atStart=>exact⟨0,none,0,rfl,rfl,rfl,by simpa using OwnT.nil _ _,yD _ _⟩
 obtain⟨a,sa,sc,hg,rfl,rfl,h3,h7⟩:=hrel;obtain⟨HG,H7,b1⟩:=K3 hg h3 h7;clear e3;obtain⟨e0,e1,e2,e3,e4,e5,e6,e7,e8⟩:=zU (zB b6.out h7);clear hg h3 e0 e1 e2 e4 e5 e6 e7 e8;by_cases ha:a<n
 ·have i4:(a:Int)<n:=by omega
  obtain⟨wo,rfl⟩:=Nm (wr:World);clear h7;go_wp2
  go_loopg [5,6,7,8,9,19] n (fun gh ov v6 v7 v8 v9 i wr=>∃(q:Nat) (sr:Option Addr) (cr:Nat),gh+q=n/\i=.int .i64 q/\ov=.slice sr q cr/\wr.ownsRow wo.heap.size 3 1 (.slice sr q cr) q (nats ((rowE pre a9 right n a).take q))/\wo.grownBy wr none)
  case atStart=>exact⟨0,none,0,rfl,rfl,rfl,by simpa [nats] using World.ownsRow_nil _ _ _ _,yD _ _⟩
  obtain⟨q,sr,cr,hg,rfl,rfl,h3,h7⟩:=hrel;obtain⟨f2,H3,b0⟩:=K3 hg h3 h7;clear hg h3 e3;have h1:=zH b1.out h7;have cagg:=zB b6.out h1;obtain⟨e0,e1,e2,e3,e4,e5,e6,e7,e8⟩:=zU cagg;by_cases hq:q<n
  ·have g8:(q:Int)<n:=by omega
   have HW:=Kh (nY B C wr x0 x1 x2 (.slice a8 n c3) v4 v5 (.slice ta n tc) x7 x8 pre a9 n k q (by have:=h1.size;omega) (by have:=h1.size;omega) (H4.out.kept h1 (by simp)) (H5.out.kept h1 (by simp)) g2.out g3.out f1.out hk hn hq);clear h7 cagg;go_wp2_with fail;refine HW.out.mono ?_;rintro e w2 ⟨rfl,c4⟩;have b2:=Kh (pM f1.out q hq);obtain⟨W,c5⟩:=Nm (wQ pre a9 q);have g1:Hid ((rowE pre a9 right n a).take (q+1)=(rowE pre a9 right n a).take q++[atW right a W]):=Kh (by rw[c5];exact qFY hq);rw[<-c5]at b2⊢;obtain⟨S,hS⟩:=Nm (strOfNums (lets W));have HS:=Kh hS;have i6:S.size=W.length:=by rw[hS,strOfNums_size];simp[lets]
   have i5:=b2.out.2;rw[<-hS];have b5:=Kh (zH b0.out c4);have b4:=Kh (xW H3.out c4 (by simp));clear HW c4 c5 hS e0 e1 e2 e3 e4 e5 e6 e7 e8;obtain⟨wb,rfl⟩:=Nm (w2:World);go_wp2
   go_loopg [8,9] W.length (fun gh v8 v9 wr=>∃(j p:Nat),gh+j=W.length/\v9=.int .i64 j/\v8=.int .i64 p/\p<n/\p=atW right a (W.take j)/\∃m,wr=wb.drewN m)
   case atStart=>exact⟨0,a,by omega,rfl,rfl,ha,rfl,0,rfl⟩
   obtain⟨j,p,hg,rfl,rfl,hp,d1,m,rfl⟩:=hrel;have g4:=Kh hg;have H2:=Kh d1;clear hg d1;by_cases hj:j<W.length
   ·have f6:j<S.size:=by omega
    have f8:=qNE HS.out (fun x hx=>by have:=b2.out.1 x hx;omega) hj f6;have c0:=b2.out.1 (W.getD j 0) (by rw[zN hj];exact List.getElem_mem hj);obtain⟨l,hl⟩:=Nm (W.getD j 0);rw[<-hl]at f8 c0;have HL:=Kh hl;have h8:=zH b1.out (zH b5.out (zT wb m none));obtain⟨e0,e1,e2,e3,e4,e5,e6,e7,e8⟩:=zU (zB b6.out h8);obtain⟨rb,ro,rc,e,b8,f5,_,_,H1⟩:=(H6.out.kept h8 (by simp)).head (by rw[b3.out.1];omega);rw[b3.out.1]at b8 H1 e;simp only[Value.slice.injEq]at e;obtain⟨rfl,-,rfl⟩:=e;obtain⟨ra,rc2,ch,h2⟩:=H1 p hp;have a0:=(b3.out.2 p hp).1;have H9:=(b3.out.2 p hp).2 l c0;rw[a0]at ch;obtain⟨qb,qo,qc,e,_,i3,i2,c9⟩:=h2.row.some_ (by rw[zQ,a0];omega);rw[a0]at e;simp only[Value.slice.injEq]at e;obtain⟨rfl,-,rfl⟩:=e;have ce:=c9.nat l (by rw[a0];exact c0);have HT:Hid (atW right a (W.take (j+1))=(right.getD p []).getD l 0):=Kh (by rw[yF (d:=0) hj,iG,<-H2.out,<-HL.out]);obtain⟨z,hz⟩:=Nm ((right.getD p []).getD l 0);rw[<-hz]at ce H9 HT;clear hz hl H1 h2 c9 a0 h8 e0 e1 e2 e3 e4 e5 e7 e8;have f7:(j:Int)<S.size:=(by omega);have i1:(j:Int)<W.length:=(by omega);have g9:(p:Int)<n:=(by omega);have i0:(l:Int)<k:=(by omega);have d8:∀(x:Addr),(wb.drewN m).cell? x=wb.cell? x:=fun x=>rfl;rw[d8]at e6 ch ce;clear d8;go_wp2
    go_region
    go_wp2;go_roundg (W.length-(j+1))
    case measure=>have:=g4.out;omega
    exact⟨j+1,z,by omega,by go_num,rfl,H9,HT.out.symm,m+1,rfl⟩
   have d6:W.take j=W:=List.take_of_length_le (by omega);rw[d6]at H2;have f7:¬(j:Int)<S.size:=(by omega);have d2:=b5.out.size;have a3:=Kh (xW b4.out (zT wb m none) (by simp));have f3:=Kh (zH b5.out (zT wb m none));clear d6 b4 b5;obtain⟨w3,b7⟩:=Nm (wb.drewN m);have g7:wb.heap.size=w3.heap.size:=by rw[b7];rfl
   rw[<-b7]at a3 f3⊢;clear b7;go_wp2_with (first|(at_builtin;refine app1 rfl _ _ _ rfl yI wo.heap.size _ q (nats ((rowE pre a9 right n a).take q)) rfl a3.out _ rfl rfl ?c1 ?c2 ?c3 ?_)|fail)
   case c1=>unfold maxLen;omega
   case c2=>omega
   case c3=>omega
   intro sa' sc' w6 h0 H8 b9;have c6:=Kh h0;have c8:=Kh H8;clear h0 H8;go_wp2;go_roundg (n-(q+1))
   case measure=>have:=f2.out;omega
   refine⟨q+1,sa',sc',by omega,by go_num,rfl,?_,zC f3.out c8.out (fun q e=>(a3.out.lt q e).1)⟩;rw[g1.out,rK,<-H2.out];exact c6.out
  have d0:q=n:=by have:=f2.out;omega
  have d9:(rowE pre a9 right n a).take q=rowE pre a9 right n a:=by have h9:=tN pre a9 right n a;rw[d0];exact List.take_of_length_le (by omega)
  rw[d9]at H3;have d2:=H7.out.grow h7;obtain⟨hs,d5,d4,d3⟩:=d2;have h2:=RowT.of_owns H3.out;obtain⟨HR,c7,b4,a3⟩:=K4 h2 d5 d4 d3;have g6:=h7.size;have f9:P+1<=wr.heap.size:=by have:=b1.out.size;omega
  clear d0 d9 h7 h2 d5 d4 d3 e0 e1 e2 e3 e4 e5 e6 e7 e8 cagg h1;go_wp2_with (first|(at_builtin;refine app1 rfl _ _ _ rfl wH (P+1) _ a hs rfl c7.out _ rfl rfl ?c1 ?c2 ?c3 ?_)|fail)
  case c1=>unfold maxLen;omega
  case c2=>omega
  case c3=>exact f9
  intro sa' sc' w6 h0 H8 b9
  have c6:Hid (OwnT (P+1) w6 (.slice sa' (a+1) sc') (a+1) ((tabE pre a9 right n).take (a+1))):=Kh (by
   rw[bK ha]
   exact OwnT.push c7.out b4.out a3.out HR.out h0 H8)
  have c8:Hid (wA.grownBy w6 none):=Kh (zC (zH b1.out b0.out) H8 (fun x e=>by have:=(c7.out.lt x e).1;omega));clear h0 H8;go_wp2;go_roundg (n-(a+1))
  case measure=>have:=HG.out;omega
  exact⟨a+1,sa',sc',by omega,by go_num,rfl,c6.out,c8.out⟩
 have e9:a=n:=by have:=HG.out;omega
 have d7:=wF pre a9 right n;have HE:Hid ((tabE pre a9 right n).take a=tabE pre a9 right n/\(tabE pre a9 right n).length=a):=Kh ⟨List.take_of_length_le (by omega),by rw[d7,e9]⟩;clear e9 h7 d7;go_wp2;go_ret;rw[HE.out.1]at H7;refine⟨sa,sc,by rw[HE.out.2];rfl,?_,zH g5.out b1.out⟩;rw[HE.out.2];exact H7.out.base (by have:=f0.out;omega)
end Go.Proofs.Ytobakifdllameaa
namespace Go.Proofs.Ytobakifdllameaa
theorem iF {n:Nat}{g:List Nat}(hg:IsT n g):wI (List.range n) g=g:=by
 refine List.ext_getElem (by rw[tX,List.length_range,hg.1]) fun i h1 h2=>?_;have hi:i<n:=by rw[<-hg.1];exact h2
 simp only[wI,List.getElem_map,List.getElem_range];rw[zN h2]
theorem lS (n:Nat):IsT n (List.range n):=⟨List.length_range,fun x hx=>List.mem_range.1 hx⟩
theorem aX {n:Nat}{f:List Nat}(hf:IsT n f):wI f (List.range n)=f:=by
 refine List.ext_getElem (by rw[tX]) fun i h1 h2=>?_;simp only[wI,List.getElem_map];have:=hf.2 _ (List.getElem_mem h2);rw[zN (by simpa using this)];simp
theorem gI {n:Nat}{f g h:List Nat}(hf:IsT n f)(hg:IsT n g):wI (wI f g) h=wI f (wI g h):=by
 refine List.ext_getElem (by simp[tX]) fun i h1 h2=>?_;simp only[wI,List.getElem_map];have hi:i<f.length:=by simpa [wI] using h1
 have:=hf.2 _ (List.getElem_mem hi);rw[xS (x:=0) (by rw[hg.1];exact this)]
theorem lV {α:Type}{a b:List α}(h:a <+: b){i:Nat}(hi:i<a.length)(d:α):b.getD i d=a.getD i d:=by
 obtain⟨c,rfl⟩:=h;rw[List.getD_eq_getElem?_getD,List.getElem?_append_left hi,<-List.getD_eq_getElem?_getD]
theorem eJ {α:Type}[BEq α][LawfulBEq α]{l:List α}{x d:α}(h:x∈l):l.getD (l.idxOf x) d=x:=by
 rw[zN (List.idxOf_lt_length_of_mem h),List.getElem_idxOf]
theorem pJ {α:Type}{l:List α}(h:l.Nodup){i j:Nat}{d:α}(hi:i<l.length)(hj:j<l.length)(e:l.getD i d=l.getD j d):i=j:=by
 rw[zN hi,zN hj]at e;exact(List.getElem_inj h).1 e
structure EnI (gs:List (List Nat))(n:Nat)(el:List (List Nat))(pr la:List Int):Prop where
 l2:pr.length=el.length
 l3:la.length=el.length
 it:∀f∈el,IsT n f
 words:sY pr la el.length gs.length
 nodup:el.Nodup
 pos:0<el.length
 one:el.getD 0 []=List.range n
 val:∀i,i<el.length->(la.getD i 0<0/\i=0)\/(¬la.getD i 0<0/\el.getD i []=wI (el.getD (pr.getD i 0).toNat []) (gs.getD (la.getD i 0).toNat []))
theorem EnI.add {gs:List (List Nat)}{n d x:Nat}{el:List (List Nat)}{pr la:List Int}(h:EnI gs n el pr la)(hg:∀g∈gs,IsT n g)(hd:d<el.length)(hx:x<gs.length)(a9:wI (el.getD d []) (gs.getD x []) ∉ el):
  EnI gs n (el++[wI (el.getD d []) (gs.getD x [])]) (pr++[(d:Int)]) (la++[(x:Int)]) where
 l2:=by simp[h.l2]
 l3:=by simp[h.l3]
 it:=fun f hf=>by
  rcases List.mem_append.1 hf with hf|hf
  ·exact h.it f hf
  ·rw[List.mem_singleton]at hf;subst hf
   exact lZ (h.it _ (uP hd)) (hg _ (uP hx))
 words:=by
  have:=bC h.words h.l2 h.l3 hd hx;simpa using this
 nodup:=by
  rw[List.nodup_append];exact⟨h.nodup,by simp,fun a ha b hb=>by rw[List.mem_singleton]at hb;subst hb;exact fun e=>a9 (e ▸ ha)⟩
 pos:=by simp
 one:=by rw[xM h.pos];exact h.one
 val:=fun i hi=>by
  rcases Nat.lt_or_ge i el.length with h1|h1
  ·rw[xM (l:=la) (by rw[h.l3];exact h1),xM (l:=el) (i:=i) h1,xM (l:=pr) (by rw[h.l2];exact h1)]
   rcases h.val i h1 with h2|⟨h2,h3⟩
   ·exact .inl h2
   ·refine .inr ⟨h2,?_⟩
    rcases h.words i h1 with h4|⟨_,_,h5,h6⟩
    ·exact absurd h4 h2
    ·rw[xM (show (pr.getD i 0).toNat<el.length by omega)];exact h3
  ·have e:i=el.length:=by simp at hi;omega
   rw[xX (l:=la) (by rw[h.l3];exact e),xX (l:=el) (i:=i) e,xX (l:=pr) (by rw[h.l2];exact e)];refine .inr ⟨by omega,?_⟩;rw[Int.toNat_natCast,Int.toNat_natCast,xM (l:=el) hd]
theorem lY {gs:List (List Nat)}{n:Nat}(hg:∀g∈gs,IsT n g):∀x,x<=gs.length->EnI gs n (yJ gs n x).1 (yJ gs n x).2.1 (yJ gs n x).2.2
 | 0,_=>by
  refine⟨rfl,rfl,fun f hf=>?_,fun i hi=>?_,by simp[yJ],by simp[yJ],rfl,fun i hi=>?_⟩
  ·simp only[yJ,List.mem_singleton]at hf;subst hf;exact lS n
  ·have hi:i=0:=by simp[yJ]at hi;omega
   subst hi;exact .inl (by simp[yJ])
  ·have hi:i=0:=by simp[yJ]at hi;omega
   subst hi;exact .inl ⟨by simp[yJ],rfl⟩
 | x+1,hx=>by
  have ih:=lY hg x (by omega)
  rw[yJ]
  by_cases h:gs.getD x []∈(yJ gs n x).1
  ·rw[if_pos h];exact ih
  ·rw[if_neg h]
   have e:wI ((yJ gs n x).1.getD 0 []) (gs.getD x [])=gs.getD x []:=by
    rw[ih.one];exact iF (hg _ (uP (show x<gs.length by omega)))
   have:=ih.add (d:=0) (x:=x) hg ih.pos (by omega) (by rw[e];exact h);rw[e]at this;exact this
structure RowI (gs:List (List Nat))(n d:Nat)(s0:List (List Nat))(x:Nat)(t:List (List Nat)×List Int×List Int×List Nat):Prop where
 en:EnI gs n t.1 t.2.1 t.2.2.1
 pre:s0 <+: t.1
 len:t.2.2.2.length=x
 ent:∀a,a<x->t.2.2.2.getD a 0<t.1.length/\t.1.getD (t.2.2.2.getD a 0) []=wI (s0.getD d []) (gs.getD a [])
theorem qAQ {gs:List (List Nat)}{n d:Nat}{s:List (List Nat)×List Int×List Int}(hg:∀g∈gs,IsT n g)(h:EnI gs n s.1 s.2.1 s.2.2)(hd:d<s.1.length):∀x,x<=gs.length->RowI gs n d s.1 x (sO gs d s x)
 | 0,_=>⟨h,List.prefix_refl _,rfl,fun a ha=>by omega⟩
 | x+1,hx=>by
  have ih:=qAQ hg h hd x (by omega)
  rw[sO]
  obtain⟨⟨el,pr,la,ro⟩,ht⟩:∃t,t=sO gs d s x:=⟨_,rfl⟩
  rw[<-ht]at ih⊢
  obtain⟨he,hp,hl,hn⟩:=ih
  simp only at he hp hl hn
  have hdl:d<el.length:=Nat.lt_of_lt_of_le hd hp.length_le
  have hed:el.getD d []=s.1.getD d []:=lV hp hd _
  unfold gX
  simp only
  rw[hed]
  by_cases hin:wI (s.1.getD d []) (gs.getD x [])∈el
  ·rw[if_pos hin]
   refine⟨he,hp,by simp[hl],fun a ha=>?_⟩
   rcases Nat.lt_or_ge a x with h1|h1
   ·simp only;rw[xM (by rw[hl];exact h1)];exact hn a h1
   ·have:a=x:=by omega
    subst this
    simp only;rw[xX hl.symm]
    exact⟨List.idxOf_lt_length_of_mem hin,eJ hin⟩
  ·rw[if_neg hin]
   refine⟨?_,hp.trans (List.prefix_append _ _),by simp[hl],fun a ha=>?_⟩
   ·have:=he.add (d:=d) (x:=x) hg hdl (by omega) (by rw[hed];exact hin)
    rw[hed]at this;exact this
   ·simp only
    rcases Nat.lt_or_ge a x with h1|h1
    ·rw[xM (by rw[hl];exact h1)]
     have:=hn a h1
     rw[xM this.1]
     exact⟨by rw[List.length_append];exact Nat.lt_of_lt_of_le this.1 (Nat.le_add_right _ _),this.2⟩
    ·have:a=x:=by omega
     subst this
     rw[xX hl.symm,xX rfl]
     exact⟨by simp,rfl⟩
theorem dK (gs:List (List Nat))(d:Nat)(s:List (List Nat)×List Int×List Int):∀x,s.1 <+: (sO gs d s x).1
 | 0=>List.prefix_refl _
 | x+1=>by
  have ih:=dK gs d s x
  rw[sO]
  unfold gX
  split
  ·exact ih
  ·exact ih.trans (List.prefix_append _ _)
theorem qFU (gs:List (List Nat))(d:Nat)(s:List (List Nat)×List Int×List Int)(hd:s.1.length<=d)(hk:1<=gs.length):∀x,1<=x->([]:List Nat)∈(sO gs d s x).1
 | 1,_=>by
  rw[sO,sO]
  unfold gX
  have e:s.1.getD d []=[]:=by rw[List.getD_eq_getElem?_getD,List.getElem?_eq_none hd];rfl
  simp only[e,wI,List.map_nil]
  split
  ·assumption
  ·simp
 | x+2,_=>by
  have ih:=qFU gs d s hd hk (x+1) (by omega)
  rw[sO]
  unfold gX
  split
  ·exact ih
  ·exact List.mem_append_left _ ih
theorem dN (gs:List (List Nat))(s:List (List Nat)×List Int×List Int)(d:Nat):∀e,(xT gs s d).1.1 <+: (xT gs s (d+e)).1.1
 | 0=>List.prefix_refl _
 | e+1=>(dN gs s d e).trans (by rw[Nat.add_succ,xT];exact dK gs (d+e) (xT gs s (d+e)).1 gs.length)
theorem dP {gs:List (List Nat)}{n d:Nat}{s:List (List Nat)×List Int×List Int}(h1:1<=n)(hk:1<=gs.length)(a9:∀f∈(xT gs s d).1.1,IsT n f)(d':Nat)(hd:d'<d):d'<(xT gs s d').1.1.length:=by
 rcases Nat.lt_or_ge d' (xT gs s d').1.1.length with h|h
 ·exact h
 exfalso;have hm:=qFU gs d' (xT gs s d').1 h hk gs.length hk;have hp:=dN gs s (d'+1) (d-(d'+1));rw[show d'+1+(d-(d'+1))=d by omega,xT]at hp;have:=a9 [] (hp.subset hm);have:=this.1;simp at this;omega
structure Enm (gs:List (List Nat))(n:Nat)(el:List (List Nat))(pr la:List Int)(ri:List (List Nat))(d:Nat):Prop where
 en:EnI gs n el pr la
 rl:ri.length=d
 row:∀q,q<d->q<el.length/\(ri.getD q []).length=gs.length/\∀a,a<gs.length->(ri.getD q []).getD a 0<el.length/\el.getD ((ri.getD q []).getD a 0) []=wI (el.getD q []) (gs.getD a [])
theorem dO {gs:List (List Nat)}{n:Nat}{s:List (List Nat)×List Int×List Int}(hg:∀g∈gs,IsT n g)(h:EnI gs n s.1 s.2.1 s.2.2):∀d,(∀d',d'<d->d'<(xT gs s d').1.1.length)->Enm gs n (xT gs s d).1.1 (xT gs s d).1.2.1 (xT gs s d).1.2.2 (xT gs s d).2 d
 | 0,_=>⟨h,rfl,fun q hq=>by omega⟩
 | d+1,hlt=>by
  have ih:=dO hg h d (fun d' hd=>hlt d' (by omega))
  have hr:=qAQ hg (s:=(xT gs s d).1) ih.en (hlt d (by omega)) gs.length (Nat.le_refl _)
  rw[xT]
  refine⟨hr.en,by simp[ih.rl],fun q hq=>?_⟩
  simp only
  rcases Nat.lt_or_ge q d with h1|h1
  ·rw[xM (by rw[ih.rl];exact h1)]
   obtain⟨h2,h3,h4⟩:=ih.row q h1
   refine⟨Nat.lt_of_lt_of_le h2 hr.pre.length_le,h3,fun a ha=>?_⟩
   obtain⟨h5,h6⟩:=h4 a ha
   exact⟨Nat.lt_of_lt_of_le h5 hr.pre.length_le,by rw[lV hr.pre h5,lV hr.pre h2];exact h6⟩
  ·have:q=d:=by omega
   subst this
   rw[xX ih.rl.symm]
   refine⟨Nat.lt_of_lt_of_le (hlt q (by omega)) hr.pre.length_le,hr.len,fun a ha=>?_⟩
   obtain⟨h5,h6⟩:=hr.ent a ha
   exact⟨h5,by rw[lV hr.pre (hlt q (by omega))];exact h6⟩
theorem qNZ {gs:List (List Nat)}{n d:Nat}{el:List (List Nat)}{pr la:List Int}{ri:List (List Nat)}(hg:∀g∈gs,IsT n g)(h1:1<=n)(hk:1<=gs.length)(hp:xT gs (yJ gs n gs.length) d=((el,pr,la),ri))(a9:∀f∈el,IsT n f):Enm gs n el pr la ri d:=by
 have:=dO hg (lY hg gs.length (Nat.le_refl _)) d (dP h1 hk (by rw[hp];exact a9));rw[hp]at this;exact this
def valW (gs:List (List Nat))(n:Nat)(w:List Nat):List Nat:=w.foldl (fun f a=>wI f (gs.getD a [])) (List.range n)
theorem bI (gs:List (List Nat))(n:Nat)(w:List Nat)(a:Nat):valW gs n (w++[a])=wI (valW gs n w) (gs.getD a []):=by simp[valW,List.foldl_append]
theorem qIY {gs:List (List Nat)}{n:Nat}(hg:∀g∈gs,IsT n g)(w:List Nat)(hw:∀a∈w,a<gs.length):IsT n (valW gs n w):=by
 suffices h:∀(v:List Nat) (f:List Nat),IsT n f->(∀a∈v,a<gs.length)->IsT n (v.foldl (fun f a=>wI f (gs.getD a [])) f) from h w _ (lS n) hw
 intro v
 induction v with
 | nil=>intro f hf _;exact hf
 | cons a v ih=>intro f hf hv;exact ih _ (lZ hf (hg _ (uP (hv a (by simp))))) (fun b hb=>hv b (by simp[hb]))
section
variable {gs:List (List Nat)} {n:Nat} {el:List (List Nat)} {pr la:List Int} {ri:List (List Nat)}
theorem EnI.word (h:EnI gs n el pr la):∀i,i<el.length->el.getD i []=valW gs n (wQ pr la i):=by
 intro i
 induction i using Nat.strongRecOn with
 | ind i ih =>
  intro hi;rcases h.val i hi with ⟨h1,h2⟩|⟨h1,h2⟩
  ·subst h2;rw[pD h1,h.one];rfl
  rcases h.words i hi with h3|⟨_,_,h4,h5⟩
  ·exact absurd h3 h1
  rw[pE h.words hi h1,bI,h2,ih (pr.getD i 0).toNat (by omega) (by omega)]
theorem Enm.right (h:Enm gs n el pr la ri el.length):qBX ri el.length gs.length:=⟨h.rl,fun q hq=>⟨(h.row q hq).2.1,fun a ha=>((h.row q hq).2.2 a ha).1⟩⟩
theorem Enm.at (h:Enm gs n el pr la ri el.length)(hg:∀g∈gs,IsT n g){x:Nat}(hx:x<el.length)(w:List Nat)(hw:∀a∈w,a<gs.length):atW ri x w<el.length/\el.getD (atW ri x w) []=wI (el.getD x []) (valW gs n w):=by
 suffices hs:∀(m:Nat) (w:List Nat),w.length=m->(∀a∈w,a<gs.length)->atW ri x w<el.length/\el.getD (atW ri x w) []=wI (el.getD x []) (valW gs n w) from hs _ w rfl hw
 intro m
 induction m with
 | zero =>
  intro w hl _;have:w=[]:=List.eq_nil_of_length_eq_zero hl;subst this;exact⟨hx,(aX (h.en.it _ (uP hx))).symm⟩
 | succ m ih =>
  intro w hl hw;obtain⟨v,a,rfl⟩:∃v a,w=v++[a]:=⟨w.dropLast,w.getLast (by intro e;rw[e]at hl;simp at hl),(List.dropLast_concat_getLast _).symm⟩;have hv:∀b∈v,b<gs.length:=fun b hb=>hw b (by simp[hb]);have ha:=hw a (by simp);obtain⟨h1,h2⟩:=ih v (by simpa using hl) hv;rw[iG,bI];obtain⟨h3,h4⟩:=(h.row _ h1).2.2 a ha;refine⟨h3,?_⟩;rw[h4,h2,gI (h.en.it _ (uP hx)) (qIY hg v hv)]
theorem Enm.tab (h:Enm gs n el pr la ri el.length)(hg:∀g∈gs,IsT n g){x y:Nat}(hx:x<el.length)(hy:y<el.length):((tabE pr la ri el.length).getD x []).getD y 0<el.length/\el.getD (((tabE pr la ri el.length).getD x []).getD y 0) []=wI (el.getD x []) (el.getD y []):=by
 have e:((tabE pr la ri el.length).getD x []).getD y 0=atW ri x (wQ pr la y):=by
  rw[zN (l:=tabE pr la ri el.length) (by rw[wF];exact hx)];simp only[tabE,List.getElem_map,List.getElem_range];rw[zN (by rw[tN];exact hy)];simp only[rowE,List.getElem_map,List.getElem_range]
 rw[e,h.en.word y hy];exact h.at hg hx _ (pM h.en.words y hy).1
theorem Enm.image (h:Enm gs n el pr la ri el.length)(hg:∀g∈gs,IsT n g){a:Nat}(ha:a<gs.length):gs.getD a []∈el:=by
 obtain⟨h1,h2⟩:=(h.row 0 h.en.pos).2.2 a ha;rw[h.en.one,iF (hg _ (uP ha))]at h2;rw[<-h2];exact uP h1
end
open Go.RowKit
theorem dE {W:World}{g e:Nat}{u:Value}{m:Nat×Nat}(h:W.heap[g]?=some (.cells #[u] e m)):uQ W 1 (.slice (some ⟨g,0,none⟩) 1 1) 1 [u]:=by
 have c0:=zF h 0;simp only[List.getElem_toArray,List.getElem_cons_zero]at c0;refine .inr ⟨g,0,1,rfl,rfl,by unfold maxLen;omega,fun j u' hj=>?_⟩
 match j,hj with
 | 0,hj=>simp at hj;subst hj;simpa using c0
theorem zV {w:World}{p e:Nat}{x0 x1 x2 x3 x4 x5:Value}(h:w.heap[p]?=some (.cells #[x0,x1,x2,x3,x4,x5] e (0,0))):w.cell? ⟨p,0,none⟩=some x0/\w.cell? ⟨p,1,none⟩=some x1/\w.cell? ⟨p,2,none⟩=some x2/\w.cell? ⟨p,3,none⟩=some x3/\w.cell? ⟨p,4,none⟩=some x4/\w.cell? ⟨p,5,none⟩=some x5:=by
 have c0:=zF h 0;have c1:=zF h 1;have c2:=zF h 2;have c3:=zF h 3;have c4:=zF h 4;have c5:=zF h 5;exact⟨by simpa using c0,by simpa using c1,by simpa using c2,by simpa using c3,by simpa using c4,by simpa using c5⟩
theorem vZ {w:World}{p e:Nat}{z0 z1 z2 z3 z4 z5:Value}(h:w.heap[p]?=some (.cells #[z0,z1,z2,z3,z4,z5] e (0,0)))(x0 x1 x2 x3 x4 x5:Value):((((((w.setCell ⟨p,0,none⟩ x0).setCell ⟨p,1,none⟩ x1).setCell ⟨p,2,none⟩ x2).setCell ⟨p,3,none⟩ x3).setCell ⟨p,4,none⟩ x4).setCell ⟨p,5,none⟩ x5).heap[p]?=some (.cells #[x0,x1,x2,x3,x4,x5] e (0,0))/\w.grownBy ((((((w.setCell ⟨p,0,none⟩ x0).setCell ⟨p,1,none⟩ x1).setCell ⟨p,2,none⟩ x2).setCell ⟨p,3,none⟩ x3).setCell ⟨p,4,none⟩ x4).setCell ⟨p,5,none⟩ x5) (some p):=by
 have s0:=heap_setCell_same w p 0 _ _ x0 h;have s1:=heap_setCell_same _ p 1 _ _ x1 s0;have s2:=heap_setCell_same _ p 2 _ _ x2 s1;have s3:=heap_setCell_same _ p 3 _ _ x3 s2;have s4:=heap_setCell_same _ p 4 _ _ x4 s3;have s5:=heap_setCell_same _ p 5 _ _ x5 s4;refine⟨by rw[s5];simp,?_⟩;have t:=fun(W:World) (i:Nat) (u:Value)=>zG W ⟨p,i,none⟩ u;exact zH (zH (zH (zH (zH (t _ 0 _) (t _ 1 _)) (t _ 2 _)) (t _ 3 _)) (t _ 4 _)) (t _ 5 _)
structure BoxS (B:Nat)(X:Nat->Prop)(o ty:Nat)(w0 wk:World)(rs:List RowS)(c:Array Value)(w:World):Prop where
 mem:EMem X w rs
 typ:∀r∈rs,r.base=B/\r.e≠ty
 box:w.heap[o]?=some (.cells c ty (0,0))
 off:¬X o
 size:w0.heap.size<=B
 old:w0.heap.size<=o
 base:B<=wk.heap.size
 grown:w0.grownBy w none
 kept:xQ X wk w
 wk:wk.heap.size<=w.heap.size
section
variable {B:Nat} {X:Nat->Prop} {o ty:Nat} {w0 wk w:World} {rs:List RowS} {c:Array Value}
theorem BoxS.grow (h:BoxS B X o ty w0 wk rs c w){w':World}(hg:w.grownBy w' none):BoxS B X o ty w0 wk rs c w' :=
 ⟨h.mem.grow hg,h.typ,zB h.box hg,h.off,h.size,h.old,h.base,zC h.grown hg,h.kept.trans (h.mem.keep hg),Nat.le_trans h.wk hg.size⟩
theorem BoxS.set (h:BoxS B X o ty w0 wk rs c w)(f:Nat)(u:Value):BoxS B X o ty w0 wk rs (c.setIfInBounds f u) (w.setCell ⟨o,f,none⟩ u):=by
 have hs:=heap_setCell_same w o f _ _ u h.box;have hg:=zG w ⟨o,f,none⟩ u;exact⟨h.mem.far hg (fun r hr=>zS (h.mem.own r hr) h.box (h.typ r hr).2),h.typ,hs,h.off,h.size,h.old,h.base,yN h.grown hg (by show _<=o;have:=h.old;omega),h.kept.trans (xQ.of_grown h.mem.lt hg (fun j e hx=>by have e:o=j:=Oj e;subst e;exact h.off hx)),Nat.le_trans h.wk hg.size⟩
theorem BoxS.own (h:BoxS B X o ty w0 wk rs c w){r:RowS}(hr:r∈rs):w.ownsRow r.base r.e r.sz r.v r.n r.xs:=h.mem.own r hr
theorem BoxS.nil (h:BoxS B X o ty w0 wk rs c w){e sz:Nat}(he:e≠ty):BoxS B X o ty w0 wk (rs++[⟨B,e,.slice none 0 0,0,[],sz⟩]) c w :=
 ⟨h.mem.add (yD _ none) (World.ownsRow_nil _ _ _ _) (fun j e=>by simp[Value.ownBlock]at e),fun r hr=>by
  rcases List.mem_append.1 hr with hr|hr
  ·exact h.typ r hr
  ·rw[List.mem_singleton]at hr;subst hr;exact⟨rfl,he⟩,h.box,h.off,h.size,h.old,h.base,h.grown,h.kept,h.wk⟩
theorem BoxS.add (h:BoxS B X o ty w0 wk rs c w){w':World}(hg:w.grownBy w' none){e sz n:Nat}{v:Value}{xs:List Value}(ho:w'.ownsRow w.heap.size e sz v n xs)(he:e≠ty):BoxS B X o ty w0 wk (rs++[⟨B,e,v,n,xs,sz⟩]) c w' :=
 ⟨h.mem.add hg (wJ ho (Nat.le_trans h.base h.wk)) (fun k hk=>(ho.lt k hk).1),fun r hr=>by
  rcases List.mem_append.1 hr with hr|hr
  ·exact h.typ r hr
  ·rw[List.mem_singleton]at hr;subst hr;exact⟨rfl,he⟩,zB h.box hg,h.off,h.size,h.old,h.base,zC h.grown hg,h.kept.trans (h.mem.keep hg),Nat.le_trans h.wk hg.size⟩
theorem BoxS.push (h:BoxS B X o ty w0 wk rs c w):Many w (rJ rs) w rs [] []/\B<=w.heap.size/\∀(wM:World) (j:Nat) (r:RowS) (v':Value) (n':Nat) (us:List Value),rs[j]?=some r->Many w (rJ rs) wM (rs.set j ⟨r.base,r.e,v',n',r.xs++us,r.sz⟩) [] []->BoxS B X o ty w0 wk (rs.set j ⟨r.base,r.e,v',n',r.xs++us,r.sz⟩) c wM:=by
 refine⟨h.mem.many _ (fun _ h=>h),Nat.le_trans h.base h.wk,fun wM j r v' n' us hr hMM=>?_⟩
 have hf:∀k,rJ rs k->B<=k/\k≠o/\¬X k:=fun k hk=>by
  obtain⟨r,hr,hk⟩:=hk;have h0:=h.mem.own r hr;refine⟨by have:=(h0.lt k hk).1;rw[(h.typ r hr).1]at this;exact this,fun e=>?_,h.mem.offX r hr k hk⟩;subst e;exact zS h0 h.box (h.typ r hr).2 hk
 refine⟨h.mem.after hMM (fun k hk=>(hf k hk).2.2),fun s hs=>?_,hMM.but.heap h.box (fun hj=>(hf o hj).2.1 rfl),h.off,h.size,h.old,h.base,hMM.but.grown h.grown (fun k hk=>.inr (Nat.le_trans h.size (hf k hk).1)),h.kept.trans (h.mem.keepMany hMM (fun k hk=>(hf k hk).2.2)),Nat.le_trans h.wk hMM.but.size⟩;rcases List.mem_or_eq_of_mem_set hs with hs|rfl
 ·exact h.typ s hs
 exact h.typ r (List.mem_of_getElem? hr)
theorem qGH {w:World}{b e n g cap i:Nat}{xs:List Value}(h:w.ownsRow b e 1 (.slice (some ⟨g,0,none⟩) n cap) n xs)(hi:i<n)(u:Value):(w.setCell ⟨g,i,none⟩ u).ownsRow b e 1 (.slice (some ⟨g,0,none⟩) n cap) n (xs.set i u):=by
 refine⟨by rw[List.length_set];exact h.1,?_⟩;rcases h.2 with ⟨hv,_⟩|⟨g',cap',cur,hv,hb,hg,hnc,hcm,hcs,htake⟩
 ·simp at hv
 simp only[Value.slice.injEq,Option.some.injEq,Addr.mk.injEq]at hv;obtain⟨⟨rfl,_⟩,_,rfl⟩:=hv;have hs:=heap_setCell_same w g i _ _ u hg;refine .inr ⟨g,cap,_,rfl,hb,hs,hnc,hcm,by simpa using hcs,?_⟩;rw[<-htake];simp[List.take_set]
theorem BoxS.put (h:BoxS B X o ty w0 wk rs c w){j g n cap b e i:Nat}{xs:List Value}(hr:rs[j]?=some ⟨b,e,.slice (some ⟨g,0,none⟩) n cap,n,xs,1⟩)(hi:i<n)(u:Value):BoxS B X o ty w0 wk (rs.set j ⟨b,e,.slice (some ⟨g,0,none⟩) n cap,n,xs.set i u,1⟩) c (w.setCell ⟨g,i,none⟩ u):=by
 have h0:=List.mem_of_getElem? hr;have ho:=h.mem.own _ h0;have ht:=h.typ _ h0;simp only at ho ht;have hg:=zG w ⟨g,i,none⟩ u;have h7:g≠o:=fun e1=>by subst e1;exact zS ho h.box ht.2 rfl
 obtain⟨h4,h2⟩:=List.getElem?_eq_some_iff.1 hr;have h3:=List.pairwise_iff_getElem.1 h.mem.apart;refine⟨⟨fun r hr'=>?_,?_,fun r hr' k hk=>?_,fun k hk=>Nat.lt_of_lt_of_le (h.mem.lt k hk) hg.size⟩,fun r hr'=>?_,zB h.box hg (fun e1=>h7 (Oj e1)),h.off,h.size,h.old,h.base,zC h.grown hg (fun k e1=>?_),h.kept.trans (xQ.of_grown h.mem.lt hg (fun k e1 hx=>?_)),Nat.le_trans h.wk hg.size⟩
 ·obtain⟨q,hq,rfl⟩:=List.getElem_of_mem hr'
  rw[List.getElem_set];have h1:q<rs.length:=by simpa using hq
  split
  ·exact qGH ho hi u
  rename_i hne
  refine(h.mem.own _ (List.getElem_mem h1)).kept hg (.inr (fun e1=>?_));rcases Nat.lt_or_gt_of_ne hne with hlt|hlt
  ·exact h3 j q h4 h1 hlt g (by rw[h2];rfl) e1
  exact h3 q j h1 h4 hlt g e1 (by rw[h2];rfl)
 ·rw[List.pairwise_iff_getElem]
  intro p q hp hq h5;have h6:p<rs.length:=by simpa using hp
  have h1:q<rs.length:=by simpa using hq
  have:=h3 p q h6 h1 h5;rw[List.getElem_set,List.getElem_set]
  split<;>split
  ·omega
  ·rename_i e1 e2;subst e1;rw[h2]at this;exact this
  ·rename_i e1 e2;subst e2;rw[h2]at this;exact this
  exact this
 ·rcases List.mem_or_eq_of_mem_set hr' with hr'|rfl
  ·exact h.mem.offX r hr' k hk
  exact h.mem.offX _ h0 k hk
 ·rcases List.mem_or_eq_of_mem_set hr' with hr'|rfl
  ·exact h.typ r hr'
  exact ht
 ·have e1:g=k:=Oj e1
  have:=(ho.lt g rfl).1;have:=h.size;omega
 have e1:g=k:=Oj e1;subst e1;exact h.mem.offX _ h0 g rfl hx
end
def tabI (ts:List (List Nat)):List (List Int):=ts.map fun r=>r.map fun(x:Nat)=>(x:Int)
theorem xJ (ts:List (List Nat)):(tabI ts).length=ts.length:=by simp[tabI]
theorem aJ (l:List Nat):nats l=ints (l.map fun(x:Nat)=>(x:Int)):=by simp[nats,ints]
theorem nZ (ts:List (List Nat))(x:Nat):(tabI ts).getD x []=(ts.getD x []).map fun(y:Nat)=>(y:Int):=by
 rcases Nat.lt_or_ge x ts.length with h|h
 ·rw[zN (by rw[xJ];exact h),zN h];simp[tabI]
 rw[List.getD_eq_getElem?_getD,List.getD_eq_getElem?_getD,List.getElem?_eq_none (by rw[xJ];exact h),List.getElem?_eq_none h];rfl
theorem lI (ts:List (List Nat))(x y:Nat):ent (tabI ts) x y=((ts.getD x []).getD y 0:Nat):=by
 rw[ent,nZ];obtain⟨r,hr⟩:=Nm (ts.getD x []);rw[<-hr];rcases Nat.lt_or_ge y r.length with h|h
 ·rw[zN (by simpa using h),zN h];simp
 rw[List.getD_eq_getElem?_getD,List.getD_eq_getElem?_getD,List.getElem?_eq_none (by simpa using h),List.getElem?_eq_none h];rfl
theorem qFG (ts:List (List Nat))(x y:Nat):entN (tabI ts) x y=(ts.getD x []).getD y 0:=by rw[entN,lI];rfl
theorem TMat.mat {B:Nat}{w:World}{v:Value}{ts:List (List Nat)}(h:TMat B w v ts):Mat B w v (tabI ts):=by
 by_cases h0:0<ts.length
 ·obtain⟨b,off,cap,rfl,hc,hm,hb,h4,h3⟩:=h.head h0
  have h2:∀x,∃a c,x<ts.length->w.cell? ⟨b,off+x,none⟩=some (.slice a (ts.getD x []).length c)/\RowT B 3 w (.slice a (ts.getD x []).length c) (nats (ts.getD x [])):=by
   intro x;by_cases hx:x<ts.length
   ·obtain⟨a,c,h1⟩:=h3 x hx
    exact⟨a,c,fun _=>h1⟩
   exact⟨none,0,fun h=>absurd h hx⟩
  obtain⟨A,hA⟩:=Classical.axiomOfChoice h2;obtain⟨C,hC⟩:=Classical.axiomOfChoice hA;refine .inr ⟨b,off,cap,A,C,by rw[xJ],by rw[xJ];exact hc,hm,hb,h4,fun x hx=>?_,fun x hx=>?_⟩
  ·rw[xJ]at hx
   rw[nZ,List.length_map];exact(hC x hx).1
  rw[xJ]at hx;have h1:=(hC x hx).2.row;rw[nZ,List.length_map];rw[aJ]at h1;exact h1
 have:ts=[]:=List.eq_nil_of_length_eq_zero (by omega);subst this;obtain⟨a,c,rfl⟩:=h.shape;exact .inl ⟨a,c,rfl,rfl⟩
open Go.Maps
structure KeyK {α:Type}(mt kt:TypeId)(V:α->Prop)(kv:α->Value):Prop where
 key:Keyed Try.prog kt
 und:Try.prog.underlying mt=some (.map kt 3)
 of:∀a,V a->(keyOf Try.prog kt (kv a)).isSome=true
 inj:∀a b,V a->V b->kv a=kv b->a=b
section
variable {α:Type} {mt kt:TypeId} {V:α->Prop} {kv:α->Value}
def MapK (kt:TypeId)(V:α->Prop)(kv:α->Value)(w:World)(b n c:Nat)(f:α->Option Nat):Prop :=
 ∃D:DataW Unit,w.ownsMap Try.prog kt (plainElem Try.prog 3) b n D/\size D=c /\
  ∀a l,V a->keyOf Try.prog kt (kv a)=some l->has D l=(f a).isSome/\D.atKey l (.lit (.int .i64 0))=.lit (.int .i64 (((f a).getD 0:Nat):Int))
theorem MapK.made (kt:TypeId)(V:α->Prop)(kv:α->Value)(w:World):MapK kt V kv (w.alloc (.map #[] 0)) w.heap.size 0 0 (fun _=>none):=by
 refine⟨.map [],World.ownsMap_made _ _ _ _,rfl,fun x _ _ _=>⟨by simp[has_eq],?_⟩⟩;rw[WideAt.atKey_none _ (by simp)];simp
variable {w w':World} {b n c:Nat} {f:α->Option Nat}
theorem MapK.kept {row:Option Nat}(h:MapK kt V kv w b n c f)(hg:w.grownBy w' row)(a9:row≠some b):MapK kt V kv w' b n c f:=by
 obtain⟨D,h1,h2,h3⟩:=h;exact⟨D,h1.kept hg (fun e=>a9 e.symm),h2,h3⟩
theorem MapK.mono {n':Nat}(h:MapK kt V kv w b n c f)(hn:n<=n'):MapK kt V kv w b n' c f:=by
 obtain⟨D,h1,h2,h3⟩:=h;exact⟨D,h1.mono hn,h2,h3⟩
theorem MapK.lt (h:MapK kt V kv w b n c f):b<w.heap.size:=by
 obtain⟨D,h1,_⟩:=h;exact h1.lt
theorem MapK.obj (h:MapK kt V kv w b n c f):∃es clock,w.heap[b]?=some (.map es clock):=by
 obtain⟨D,⟨es,clock,hb,_⟩,_⟩:=h;exact⟨es,clock,hb⟩
theorem MapK.lookup (h:MapK kt V kv w b n c f)(K:KeyK mt kt V kv){x:α}(hx:V x):(Instr.lookup mt (.map (some b)) (kv x) true).run Try.prog w=.ok (.tuple #[.int .i64 (((f x).getD 0:Nat):Int),.bool (f x).isSome]) w:=by
 obtain⟨D,h1,h2,h3⟩:=h;obtain⟨kl,h4⟩:=Option.isSome_iff_exists.1 (K.of x hx);obtain⟨v,ps,h0,hv⟩:=h1.look_ok K.key K.und (jS w) (plainElem_int uX (by decide)) h4;obtain⟨c,rfl,hc,_⟩:=plainElem_int_inv uX hv;obtain⟨e1,e2⟩:=h3 x kl hx h4;have e3:=congrArg Prod.fst hc;simp only[e2]at e3;rw[h0,e1]
 have e4:(((f x).getD 0:Nat):Int)=c:=by
  simp only[Lit.int.injEq,DataW.lit.injEq,true_and]at e3;exact e3
 rw[e4]
theorem MapK.len (h:MapK kt V kv w b n c f)(K:KeyK mt kt V kv):(Builtin.len_ #[mt] 3 #[.map (some b)]).run Try.prog w=.ok (.int .i64 (c:Nat)) w:=by
 obtain⟨D,h1,h2,h3⟩:=h;have h0:=h1.len K.und 3;rw[h2]at h0;exact h0
theorem qFJ [DecidableEq α]{ops:Array Oper}{a9:List Oper}{o:Oper}{a:Act}{Q:Exit->Act->World->Prop}(K:KeyK mt kt V kv)(hg:o.guard=none)(m x v:Operand)(a8:o.op=Op.mapUpdate mt m x v)(b n c:Nat)(f:α->Option Nat)(z:α)(y:Nat)(hm:a.eval m=.map (some b))(hx:a.eval x=kv z)(hv:a.eval v=.int .i64 (y:Int))(h:MapK kt V kv w b n c f)(hn:n<maxLen)(hz:V z)(hy:y<4611686018427387904)(hK:∀w',MapK kt V kv w' b (n+1) (if (f z).isSome then c else c+1) (fun q=>if q=z then some y else f q)->w.grownBy w' (some b)->wpList Try.prog ops Q a9 (a.put o.dst undef) w'):wpList Try.prog ops Q (o::a9) a w:=by
 obtain⟨D,h1,h2,h3⟩:=h;obtain⟨kl,h0⟩:=Option.isSome_iff_exists.1 (K.of z hz);obtain⟨w',h4,h5,h7⟩:=h1.update K.key K.und hn h0 (plainElem_int uX (eH (x:=(y:Int)) ⟨by omega,by omega⟩));refine wpList_plain hg fun K' hK'=>?_;unfold Oper.wp;simp[execOp,a8,hm,hx,hv,h4,Result.andThen];refine hK' _ _ (hK w' ⟨_,h5,?_,fun q ql hq hql=>?_⟩ h7)
 ·rw[size_put (h1.tidy K.key),(h3 z kl hz h0).1,h2]
 by_cases e:q=z
 ·subst e
  rw[h0]at hql;cases hql;refine⟨by rw[has_put_same h1.isMap (K.key.key h0)];simp,?_⟩;simp only[if_pos];rw[atKey_put_same h1.isMap (K.key.key h0)];rfl
 have h6:ql≠kl:=fun h=>e (K.inj q z hq hz (K.key.inj (hql.trans (congrArg some h)) h0));obtain⟨e1,e2⟩:=h3 q ql hq hql;simp only[if_neg e];exact⟨by rw[has_put_other h6,e1],by rw[atKey_put_other h6,e2]⟩
end
end Go.Proofs.Ytobakifdllameaa
