/- Part 28 of the proof: CAut, ProdS2, ProdS3, PView. -/
import Derived.Test.YtjfdomfendbhfaaQe23
import Derived.Test.YtjfdomfendbhfaaQe27
set_option linter.unusedVariables false
set_option linter.unusedSimpArgs false
namespace Go.Proofs.Ytjfdomfendbhfaa
open Go.RowKit
def autD (ps:List (List ByteArray)) (letters:Int):List DfaV:=ps.map fun p=>yM p letters
def qCE (w:World) (E:Int) (ds:List DfaV) (e:Ending) (w':World):Prop:=∃ sa n sc,e=.returned (.tuple #[.slice sa n sc,.int .i64 E])/\w.grownBy w' none/\((E≠0)\/(E=0/\n=ds.length/\∃ l,l.map (·.1)=ds/\DsUp w.heap.size w' (.slice sa n sc) l))
set_option maxRecDepth 100000 in
set_option maxHeartbeats 1600000 in
theorem lN (B:Nat) (w:World) (v:Value) (ps:List (List ByteArray)) (letters:Int) (hB:B<=w.heap.size) (h:vI B w v ps) (hl:ps.length<=4096) :
  Calls Try.prog 56 #[v,.int .i64 letters] w (qCE w (wW letters ps) (autD ps letters)):=by
 obtain⟨a,c,rfl⟩:=h.shape
 obtain⟨n,hn⟩:∃ n,n=ps.length:=⟨_,rfl⟩
 have HN:=Kh hn;have H:=Kh h
 rw[<- hn]at hl H ⊢
 clear h hn
 go_enter Try.func56,Try.ntmps56
 go_wp2
 go_loopg [7,8,16] n (fun gh s7 s8 i wr=>∃ k:Nat,gh+k=n/\i=.int .i64 k/\wW letters (ps.drop k)=wW letters ps/\w.grownBy wr none)
 case atStart=>exact⟨0,rfl,rfl,rfl,zN _ _⟩
 case round =>
  obtain⟨k,H6,rfl,b2,hg⟩:=hrel
  have h9:=Kh H6;have HG:=Kh hg;have h4:=Kh b2
  clear H6 b2
  by_cases hk:k < n
  ·have b5:(k:Int) < n:=by omega
   have H5:=H.out.kept hg (by simp)
   obtain⟨b,off,cap,e,c6,h8,a6,h3⟩:=H5.at_ (by rw[<- HN.out];omega)
   rw[<- HN.out]at e h8 h3
   simp only[Value.slice.injEq,true_and]at e
   obtain⟨rfl,rfl⟩:=e
   obtain⟨sa,sc,c1,h2,H1⟩:=h3 k hk
   obtain⟨q,hq⟩:∃ q,q=ps.getD k []:=⟨_,rfl⟩
   rw[<- hq]at c1 h2 H1
   have c4:c<=9223372036854775807:=by unfold maxLen at a6;omega
   have HV:Hid (∀ W:World,wr.grownBy W none->Calls Try.prog 36 #[.agg #[.slice sa q.length sc],.int .i64 letters] W fun e w'=>e=.returned (.int .i64 (patW q letters))/\w.grownBy w' none):=Kh (fun W hW=>(nK B W _ q letters (h2.kept hW (by simp)) H1).mono fun e w' ⟨he,hg'⟩=>⟨he,zB HG.out (zD hW hg') (by simp)⟩)
   have HQ:=Kh hq
   obtain⟨E,hE⟩:∃ E,E=patW q letters:=⟨_,rfl⟩
   rw[<- hE]at HV
   have HE:=Kh hE
   obtain⟨ql,H4⟩:∃ n,n=q.length:=⟨_,rfl⟩
   rw[<- H4]at c1 HV
   clear H5 h3 h2 H1 hq hg hE H4
   go_wp2_with fail
   refine(HV.out _ (Ga wr _ none)).mono ?_
   rintro e w1 ⟨rfl,h7⟩
   have H0:=Kh h7
   clear h7 HV
   by_cases hE:E=0
   ·have e1:(E != 0)=false:=by simp[hE]
    have b0:=Kh hE
    clear hE
    go_wp2
    go_roundg (n - (k+1))
    case measure=>have:=h9.out;omega
    case rel=>exact⟨k+1,by have:=h9.out;omega,by go_num,(iR (by rw[<- HN.out];exact hk) (by rw[<- HQ.out,<- HE.out];exact b0.out)).trans h4.out,H0.out⟩
   ·have e1:(E != 0)=true:=by rw[bne_iff_ne];exact hE
    have b0:=Kh hE
    have c0:Hid (wW letters ps=E):=Kh (by rw[<- h4.out,dG (by rw[<- HN.out];exact hk) (by rw[<- HQ.out,<- HE.out];exact hE),<- HQ.out,<- HE.out])
    clear hE
    go_wp2
    refine bodyPost_ret (v:=.tuple #[.slice none 0 0,.int .i64 E]) (by simp[results,Try.results56,go_sem]) rfl ?_
    exact⟨none,0,0,by rw[c0.out],H0.out,.inl (by rw[c0.out];exact b0.out)⟩
  ·have a3:k=n:=by have:=h9.out;omega
   have a8:Hid (wW letters ps=0):=Kh (by rw[<- h4.out];exact dF (by rw[<- HN.out];exact hk))
   have c5:¬ (k:Int) < n:=by omega
   have c8:Hid (∀ j,j < n->patW (ps.getD j []) letters=0):=Kh (fun j hj=>by
    have:=vA.1 a8.out
    rw[zF (by rw[<- HN.out];exact hj)]
    exact this _ (List.getElem_mem _))
   clear a3 h4 h9
   obtain⟨wo,rfl⟩:∃ wo:World,wo=wr:=⟨_,rfl⟩
   go_wp2_with (first|(at_make;refine make0N rfl _ _ _ rfl fV .i64 .i64 _ (n+1) rfl rfl (by simp) ?m2 ?m3 ?_)|fail)
   case m2=>omega
   case m3=>unfold maxLen;omega
   intro w1 h6 h7
   have b9:Hid (DsUp w.heap.size w1 (.slice (some ⟨wo.heap.size,0,none⟩) 0 (n+1)) []):=Kh ⟨wX h6 HG.out.size,fun x hx=>absurd hx (by simp)⟩
   have H0:=Kh (zB HG.out h7 (by simp))
   clear h6 h7 hg HG
   go_wp2
   go_loopg [9,11,12,13,33] n (fun gh v9 s11 s12 s13 i wr=>∃ (k:Nat) (sa:Option Addr) (sc:Nat) (l:List (DfaV × Value × Value)),gh+k=n/\i=.int .i64 k/\v9=.slice sa k sc/\l.map (·.1)=autD (ps.take k) letters/\DsUp w.heap.size wr (.slice sa k sc) l/\l.length=k/\w.grownBy wr none)
   case atStart=>exact⟨0,_,_,[],rfl,rfl,rfl,rfl,b9.out,rfl,H0.out⟩
   case round =>
    clear b9 H0
    obtain⟨k,sa,sc,l,H6,rfl,rfl,b4,b6,b3,hg⟩:=hrel
    have h9:=Kh H6;have HG:=Kh hg;have H9:=Kh b4;have b1:=Kh b6;have H8:=Kh b3
    clear H6 b4 b6 b3
    by_cases hk:k < n
    ·have b5:(k:Int) < n:=by omega
     have H5:=H.out.kept hg (by simp)
     obtain⟨b,off,cap,e,c6,h8,a6,h3⟩:=H5.at_ (by rw[<- HN.out];omega)
     rw[<- HN.out]at e h8 h3
     simp only[Value.slice.injEq,true_and]at e
     obtain⟨rfl,rfl⟩:=e
     obtain⟨ea,ec,c1,h2,H1⟩:=h3 k hk
     have a2:=c8.out k hk
     have a7:Hid (autD (ps.take (k+1)) letters=autD (ps.take k) letters ++ [yM (ps.getD k []) letters]):=Kh (by
      rw[zW (d:=[]) (by rw[<- HN.out];exact hk),autD,List.map_append];rfl)
     obtain⟨q,hq⟩:∃ q,q=ps.getD k []:=⟨_,rfl⟩
     rw[<- hq]at c1 h2 H1 a2 a7
     have c4:c<=9223372036854775807:=by unfold maxLen at a6;omega
     have HV:Hid (∀ W:World,wr.grownBy W none->Calls Try.prog 83 #[.agg #[.slice ea q.length ec],.int .i64 letters] W (bM W 0 (yM q letters))):=Kh (fun W hW=>by
      have:=pdfa_anyT B W _ q letters (h2.kept hW (by simp)) (by have:=hW.size;have:=HG.out.size;omega) H1
      rw[a2]at this
      exact this)
     obtain⟨ql,H4⟩:∃ n,n=q.length:=⟨_,rfl⟩
     obtain⟨D,hD⟩:∃ D,D=yM q letters:=⟨_,rfl⟩
     rw[<- H4]at c1 HV
     rw[<- hD]at HV a7
     have d9:=hg.size
     clear H5 h3 h2 H1 hq hg H4 a2 hD
     go_wp2_with fail
     refine(HV.out _ (Ga wr _ none)).mono ?_
     rintro e w1 ⟨f1,x1,rfl,a1,h7⟩
     obtain⟨fa1,fl1,fc1,na1,nl1,nc1,rfl,rfl⟩:=a1.shapes
     have H0:=Kh (zB (Ga wr (.cells #[.slice ea ql ec] 28) none) h7 (by simp))
     have b8:=Kh a1
     obtain⟨dl,a5⟩:∃ x,x=D.letters:=⟨_,rfl⟩
     obtain⟨dst,H2⟩:∃ x,x=D.start:=⟨_,rfl⟩
     rw[<- a5,<- H2]
     have d7:=Kh a5;have d6:=Kh H2
     clear h7 a1 HV c1 a5 H2
     obtain⟨w2,a0⟩:∃ w2,w2=w1.alloc (.cells #[.int .i64 dl,.int .i64 dst,.slice fa1 fl1 fc1,.slice na1 nl1 nc1] 42):=⟨_,rfl⟩
     have H7:=Ga w1 (.cells #[.int .i64 dl,.int .i64 dst,.slice fa1 fl1 fc1,.slice na1 nl1 nc1] 42) none
     have h8:=heap_alloc_new w1 (.cells #[.int .i64 dl,.int .i64 dst,.slice fa1 fl1 fc1,.slice na1 nl1 nc1] 42)
     obtain⟨R,hR⟩:∃ R,R=w1.heap.size:=⟨_,rfl⟩
     rw[<- a0]at H7 h8
     rw[<- hR]at h8
     have c9:=Kh (b8.out.grow H7)
     have a9:=Kh (zB H0.out H7 (by simp))
     have H3:=Kh (b1.out.grow a9.out)
     have c7:=Kh a0;have d4:=Kh hR
     obtain⟨d0,d1,d2,d3⟩:=zG h8
     have e0:=a9.out.size
     clear a0 hR H7 h8 b1 H0 b8
     go_upto_region 13 with fail
     rw[<- c7.out,<- d4.out]
     go_wp2_with (first|(at_builtin;refine qBV rfl _ _ _ rfl fV w.heap.size (.slice sa k sc) k (mO l) rfl ?h0 [.int .i64 dl,.int .i64 dst,.slice fa1 fl1 fc1,.slice na1 nl1 nc1] rfl rfl ?h1 ?c1 ?c2 ?c3 ?_)|fail)
     case h0=>have:=H3.out.own;rw[H8.out]at this;exact this
     case h1=>intro u hu;simp at hu;rcases hu with rfl|rfl|rfl|rfl <;> rfl
     case c1=>unfold maxLen;omega
     case c2=>omega
     case c3=>have:=HG.out.size;omega
     intro sa' sc' w3 h5 a4
     have b7:=H3.out.push (v':=.slice sa' (k+1) sc') (x:=(D,.slice fa1 fl1 fc1,.slice na1 nl1 nc1)) c9.out (by rw[H8.out];unfold dval;rw[<- d7.out,<- d6.out];exact h5) a4
     have d8:=Kh b7
     have d5:Hid (w.grownBy w3 none):=Kh (zB (zB HG.out a9.out (by simp)) a4 (fun x e=>(H3.out.own.lt x e).1))
     clear h5 a4 b7
     go_wp2
     go_roundg (n - (k+1))
     case measure=>have:=h9.out;omega
     case rel=>exact⟨k+1,sa',sc',l ++ [(D,.slice fa1 fl1 fc1,.slice na1 nl1 nc1)],by have:=h9.out;omega,by go_num,rfl,by rw[a7.out,List.map_append,H9.out];rfl,d8.out,by rw[List.length_append,H8.out];rfl,d5.out⟩
    ·have a3:k=n:=by have:=h9.out;omega
     have b5:¬ (k:Int) < n:=by omega
     have HE:Hid (ps.take k=ps):=Kh (List.take_of_length_le (by rw[<- HN.out];omega))
     rw[HE.out]at H9
     clear hg a3
     go_wp2
     refine bodyPost_ret (v:=.tuple #[.slice sa k sc,.int .i64 0]) (by simp[results,Try.results56,go_sem]) rfl ?_
     exact⟨sa,k,sc,by rw[a8.out],HG.out,.inr ⟨a8.out,by rw[<- H9.out,List.length_map,H8.out],l,H9.out,b1.out⟩⟩
end Go.Proofs.Ytjfdomfendbhfaa
namespace Go.Proofs.Ytjfdomfendbhfaa
open Go.RowKit Go.Maps
theorem DsO.dfa {B:Nat} {w:World} {g off k:Nat} {ds:List DfaV} (h:DsO B w g off ds) (hok:OkT ds k) {i:Nat} (hi:i < ds.length) :
  ∃ n fb fo fc b of2 cap RB RO RC,VD (ds.getD i dN) n k/\n<=512/\w.cell? ⟨g,off+i * 4,none⟩=some (.int .i64 (k:Int))/\w.cell? ⟨g,off+i * 4+1,none⟩=some (.int .i64 ((st0 (ds.getD i dN):Nat):Int))/\w.cell? ⟨g,off+i * 4+2,none⟩=some (.slice (some ⟨fb,fo,none⟩) n fc)/\w.cell? ⟨g,off+i * 4+3,none⟩=some (.slice (some ⟨b,of2,none⟩) n cap)/\DAt B w (ds.getD i dN) n k fb fo fc b of2 cap RB RO RC:=by
 obtain⟨n,hv,h5⟩:=hok i hi
 obtain⟨f,nx,h1,h2,h3,h4,hd⟩:=h.at_ i hi
 obtain⟨fb,fo,fc,b,of2,cap,RB,RO,RC,e,h0⟩:=hd.at hv
 rw[dAgg]at e
 simp only[Value.agg.injEq]at e
 have e:=congrArg Array.toList e
 simp only[List.cons.injEq,and_true]at e
 obtain⟨e1,e2,e3,e4⟩:=e
 exact⟨n,fb,fo,fc,b,of2,cap,RB,RO,RC,hv,h5,by rw[h1,e1],by rw[h2,e2],by rw[h3,e3],by rw[h4,e4],h0⟩
theorem qBU {X:Nat->Prop} {w:World} {g n:Nat} {f:List Nat} (h:Arr w g 3 (nats f)) (hn:f.length=n) (hm:n<=maxLen) (hX:X g):RowX X 3 w (.slice (some ⟨g,0,none⟩) n n) (nats f):=RowX.of_new h hn (Nat.le_refl _) hm hX
theorem prod_start {w wr:World} {G np k:Nat} {pv:Value} {x0:List Nat} (hg:w.grownBy wr none) (hG:Arr wr G 3 (nats x0)) (hGl:w.heap.size<=G) (hx:x0.length=np) (hnp:np<=4096) {w5:World}
  (hw5:w5=(((wr.alloc (.cells #[.slice (some ⟨G,0,none⟩) np np] 34)).alloc (.cells #[.int .i64 0] 3)).alloc (.cells #[.int .i64 0] 3)).alloc (.cells #[.int .i64 (k:Int),pv,.slice (some ⟨wr.heap.size,0,none⟩) 1 1,.slice none 0 0,.slice (some ⟨wr.heap.size+1,0,none⟩) 1 1,.slice (some ⟨wr.heap.size+1+1,0,none⟩) 1 1] 111)) :
  BoxS w.heap.size (fun q=>q=G) (wr.heap.size+1+1+1) 111 w w5 (⟨w.heap.size,34,.slice (some ⟨wr.heap.size,0,none⟩) 1 1,1,[.slice (some ⟨G,0,none⟩) np np],1⟩ :: ⟨w.heap.size,3,.slice none 0 0,0,nats [],1⟩ :: ⟨w.heap.size,3,.slice (some ⟨wr.heap.size+1,0,none⟩) 1 1,1,nats [0],1⟩ :: ⟨w.heap.size,3,.slice (some ⟨wr.heap.size+1+1,0,none⟩) 1 1,1,nats [0],1⟩ :: []) #[.int .i64 (k:Int),pv,.slice (some ⟨wr.heap.size,0,none⟩) 1 1,.slice none 0 0,.slice (some ⟨wr.heap.size+1,0,none⟩) 1 1,.slice (some ⟨wr.heap.size+1+1,0,none⟩) 1 1] w5
  /\ vM (fun q=>q=G) 3 nats w5 [.slice (some ⟨G,0,none⟩) np np] [x0]/\w.grownBy w5 none:=by
 obtain⟨w2,h2⟩:∃ w2,w2=wr.alloc (.cells #[.slice (some ⟨G,0,none⟩) np np] 34):=⟨_,rfl⟩
 obtain⟨w3,h1⟩:∃ w3,w3=w2.alloc (.cells #[.int .i64 0] 3):=⟨_,rfl⟩
 obtain⟨w4,h0⟩:∃ w4,w4=w3.alloc (.cells #[.int .i64 0] 3):=⟨_,rfl⟩
 have h4:w2.heap.size=wr.heap.size+1:=by rw[h2,zM]
 have h3:w3.heap.size=wr.heap.size+1+1:=by rw[h1,zM,h4]
 have h8:w4.heap.size=wr.heap.size+1+1+1:=by rw[h0,zM,h3]
 rw[<- h2,<- h1,<- h0]at hw5
 have g2:wr.grownBy w2 none:=by rw[h2];exact Ga _ _ _
 have g3:w2.grownBy w3 none:=by rw[h1];exact Ga _ _ _
 have g4:w3.grownBy w4 none:=by rw[h0];exact Ga _ _ _
 have g5:w4.grownBy w5 none:=by rw[hw5];exact Ga _ _ _
 have h7:=hg.size
 have h5:1<=maxLen:=by unfold maxLen;omega
 have o2:w2.ownsRow wr.heap.size 34 1 (.slice (some ⟨wr.heap.size,0,none⟩) 1 1) 1 [.slice (some ⟨G,0,none⟩) np np]:=by rw[h2];exact World.ownsRow_lit wr #[_] 1 (Nat.le_refl _) h5 rfl
 have o3:w3.ownsRow w2.heap.size 3 1 (.slice (some ⟨wr.heap.size+1,0,none⟩) 1 1) 1 (nats [0]):=by rw[h1,<- h4];exact World.ownsRow_lit w2 #[_] 1 (Nat.le_refl _) h5 rfl
 have o4:w4.ownsRow w3.heap.size 3 1 (.slice (some ⟨wr.heap.size+1+1,0,none⟩) 1 1) 1 (nats [0]):=by rw[h0,<- h3];exact World.ownsRow_lit w3 #[_] 1 (Nat.le_refl _) h5 rfl
 have m0:EMem (fun q=>q=G) wr []:=⟨fun r hr=>by simp at hr,List.Pairwise.nil,fun r hr=>by simp at hr,fun k hk=>by subst hk;exact hG.lt⟩
 have m1:=m0.add g2 (r:=⟨w.heap.size,34,.slice (some ⟨wr.heap.size,0,none⟩) 1 1,1,[.slice (some ⟨G,0,none⟩) np np],1⟩) (wX (base':=w.heap.size) o2 h7) (fun k hk=>(o2.lt k hk).1)
 have m2:=m1.add (zN w2 none) (r:=⟨w.heap.size,3,.slice none 0 0,0,nats [],1⟩) (World.ownsRow_nil _ _ _ _) (fun k hk=>by simp[Value.ownBlock]at hk)
 have m3:=m2.add g3 (r:=⟨w.heap.size,3,.slice (some ⟨wr.heap.size+1,0,none⟩) 1 1,1,nats [0],1⟩) (wX (base':=w.heap.size) o3 (by rw[h4];omega)) (fun k hk=>(o3.lt k hk).1)
 have m4:=m3.add g4 (r:=⟨w.heap.size,3,.slice (some ⟨wr.heap.size+1+1,0,none⟩) 1 1,1,nats [0],1⟩) (wX (base':=w.heap.size) o4 (by rw[h3];omega)) (fun k hk=>(o4.lt k hk).1)
 have h9:=zB (zB (zB hg g2 (by simp)) g3 (by simp)) g4 (by simp)
 have h6:=zB h9 g5 (by simp)
 have H0:w5.heap[wr.heap.size+1+1+1]?=some (.cells #[.int .i64 (k:Int),pv,.slice (some ⟨wr.heap.size,0,none⟩) 1 1,.slice none 0 0,.slice (some ⟨wr.heap.size+1,0,none⟩) 1 1,.slice (some ⟨wr.heap.size+1+1,0,none⟩) 1 1] 111 (0,0)):=by
  rw[hw5,<- h8];exact heap_alloc_new w4 _
 have H1:=((((hG.kept g2 (by simp)).kept g3 (by simp)).kept g4 (by simp)).kept g5 (by simp))
 have H2:=hG.lt
 refine⟨⟨m4.grow g5,fun r hr=>?_,H0,fun e=>by have e:wr.heap.size+1+1+1=G:=e;omega,Nat.le_refl _,by omega,by have:=g5.size;omega,h6,wL.refl _ _,Nat.le_refl _⟩,vM.nil.snoc (qBU H1 hx (by unfold maxLen;omega) rfl),h6⟩
 simp only[List.nil_append,List.append_assoc,List.cons_append,List.mem_cons,List.not_mem_nil,or_false]at hr
 have d1:(34:Nat)≠111:=by decide
 have d2:(3:Nat)≠111:=by decide
 rcases hr with rfl|rfl|rfl|rfl
 ·exact⟨rfl,d1⟩
 ·exact⟨rfl,d2⟩
 ·exact⟨rfl,d2⟩
 ·exact⟨rfl,d2⟩
section
variable {α:Type} {mt kt:TypeId} {V:α->Prop} {kv:α->Value} {w:World}
theorem MapK.upd [DecidableEq α] {w:World} {b n c:Nat} {f:α->Option Nat} (h:MapK kt V kv w b n c f) (K:KeyK mt kt V kv) {z:α} {y:Nat} (hn:n < maxLen) (hz:V z) (hy:y < 4611686018427387904) :
  ∃ w' r,(Instr.mapUpdate mt (.map (some b)) (kv z) (.int .i64 (y:Int))).run Try.prog w=.ok r w'/\MapK kt V kv w' b (n+1) (if (f z).isSome then c else c+1) (fun q=>if q=z then some y else f q)/\w.grownBy w' (some b):=by
 obtain⟨D,h1,h2,h3⟩:=h
 obtain⟨kl,h0⟩:=Option.isSome_iff_exists.1 (K.of z hz)
 obtain⟨w',h4,h5,h7⟩:=h1.update K.key K.und hn h0 (plainElem_int uV (dO (x:=(y:Int)) ⟨by omega,by omega⟩))
 refine⟨w',_,h4,⟨_,h5,?_,fun q ql hq hql=>?_⟩,h7⟩
 ·rw[size_put (h1.tidy K.key),(h3 z kl hz h0).1,h2]
 ·by_cases e:q=z
  ·subst e
   rw[h0]at hql
   cases hql
   refine⟨by rw[has_put_same h1.isMap (K.key.key h0)];simp,?_⟩
   simp only[if_pos]
   rw[atKey_put_same h1.isMap (K.key.key h0)];rfl
  ·have h6:ql≠kl:=fun h=>e (K.inj q z hq hz (K.key.inj (hql.trans (congrArg some h)) h0))
   obtain⟨e1,e2⟩:=h3 q ql hq hql
   simp only[if_neg e]
   exact⟨by rw[has_put_other h6,e1],by rw[atKey_put_other h6,e2]⟩
end
end Go.Proofs.Ytjfdomfendbhfaa
namespace Go.Proofs.Ytjfdomfendbhfaa
open Go.RowKit Go.Maps
section
variable {w0 w w':World} {B o mb k np m q rb:Nat} {pv:Value} {L:List (List Nat)} {nxl fr bl xs:List Nat}
theorem ProdS.open_ (h:ProdS w0 B o mb k np pv L nxl fr bl m q (⟨B,3,.slice (some ⟨rb,0,none⟩) np np,np,nats xs,1⟩ :: []) w) (hg:w.grownBy w' (some mb)) (hb:∃ es clock,w'.heap[mb]?=some (.map es clock)) :
  ∃ X hs sS sN sF sB cS cN cF cB,BoxS B (fun j=>X j\/j=mb) o 111 w0 w' (⟨B,34,.slice sS m cS,m,hs,1⟩ :: ⟨B,3,.slice sN q cN,q,nats nxl,1⟩ :: ⟨B,3,.slice sF m cF,m,nats fr,1⟩ :: ⟨B,3,.slice sB m cB,m,nats bl,1⟩ :: []) #[.int .i64 (k:Int),pv,.slice sS m cS,.slice sN q cN,.slice sF m cF,.slice sB m cB] w'/\vM X 3 nats w' (hs ++ [.slice (some ⟨rb,0,none⟩) np np]) (L ++ [xs])/\vM X 3 nats w' hs L/\¬ X mb/\w0.heap.size<=mb/\(L.length=m/\nxl.length=q/\fr.length=m/\bl.length=m)/\hs.length=m:=by
 obtain⟨X,hs,sS,sN,sF,sB,cS,cN,cF,cB,u,c,hB,hE,hM,h4,h5,hu,hl,H0⟩:=h
 have h1:o≠mb:=fun e=>by
  obtain⟨es,clock,hb⟩:=hM.obj
  have:=hB.box
  rw[e,hb]at this;simp at this
 have h0:=hB.far hg (fun r hr=>xU (es:=#[]) (clock:=0) (hB.mem.own r hr) hM.obj) h4 h1 h5
 have h9:=h0.kept
 have h3:=h0.wk
 have h2:=h0.rebase
 have H2:RowX (fun j=>X j\/(Value.slice (some ⟨rb,0,none⟩) np np).ownBlock=some j) 3 w' (.slice (some ⟨rb,0,none⟩) np np) (nats xs):=RowX.of_owns (h2.own (r:=⟨B,3,.slice (some ⟨rb,0,none⟩) np np,np,nats xs,1⟩) (by simp)) (fun j hj=>.inr hj)
 have h6:=BoxS.retire (rs:=(⟨B,34,.slice sS m cS,m,hs,1⟩ :: ⟨B,3,.slice sN q cN,q,nats nxl,1⟩ :: ⟨B,3,.slice sF m cF,m,nats fr,1⟩ :: ⟨B,3,.slice sB m cB,m,nats bl,1⟩ :: [])) (r:=⟨B,3,.slice (some ⟨rb,0,none⟩) np np,np,nats xs,1⟩) h2
 have h8:mb < w'.heap.size:=Nat.lt_of_lt_of_le hM.lt h3
 have H1:=h6.stand h8 (fun r hr=>xU (es:=#[]) (clock:=0) (h6.mem.own r hr) hb) h1
 have h7:=(hE.kept h9 h3).mono (X':=fun j=>X j\/(Value.slice (some ⟨rb,0,none⟩) np np).ownBlock=some j) (fun j hj=>.inl hj)
 refine⟨_,hs,sS,sN,sF,sB,cS,cN,cF,cB,H1,h7.snoc H2,h7,fun e=>?_,h5,hl,H0⟩
 rcases e with e|e
 ·exact h4 e
 ·exact xU (es:=#[]) (clock:=0) (h2.own (r:=⟨B,3,.slice (some ⟨rb,0,none⟩) np np,np,nats xs,1⟩) (by simp)) hb e
theorem iQ {X:Nat->Prop} {wk:World} {hs:List Value} {sS sN sF sB:Option Addr} {cS cN cF cB u c:Nat} (hB:BoxS B (fun j=>X j\/j=mb) o 111 w0 wk (⟨B,34,.slice sS m cS,m,hs,1⟩ :: ⟨B,3,.slice sN q cN,q,nats nxl,1⟩ :: ⟨B,3,.slice sF m cF,m,nats fr,1⟩ :: ⟨B,3,.slice sB m cB,m,nats bl,1⟩ :: []) #[.int .i64 (k:Int),pv,.slice sS m cS,.slice sN q cN,.slice sF m cF,.slice sB m cB] w) (hE:vM X 3 nats wk hs L) (hM:MapK 9 (jZ np) (fun l=>.string (txtT (kb l))) wk mb u c (numE L)) (hmx:¬ X mb) (hmb:w0.heap.size<=mb) (hu:u<=m) (hl:L.length=m/\nxl.length=q/\fr.length=m/\bl.length=m) (hhs:hs.length=m):ProdS w0 B o mb k np pv L nxl fr bl m q [] w :=
 ⟨X,hs,sS,sN,sF,sB,cS,cN,cF,cB,u,c,(hB.less (fun j h=>.inl h)).rebase,hE.kept (fun j hj=>hB.kept j (.inl hj)) hB.wk,hM.of_block (hB.kept mb (.inr rfl)),hmx,hmb,hu,hl,hhs⟩
end
end Go.Proofs.Ytjfdomfendbhfaa
namespace Go.Proofs.Ytjfdomfendbhfaa
open Go.RowKit Go.Maps
def LRow (w:World) (sb i:Nat) (x:List Nat):Prop:=∃ g off cap,w.cell? ⟨sb,i,none⟩=some (.slice (some ⟨g,off,none⟩) x.length cap)/\x.length<=cap/\cap<=maxLen/\∀ j,j < x.length->w.cell? ⟨g,off+j,none⟩=some (.int .i64 ((x.getD j 0:Nat):Int))
theorem LRow.grow {w w':World} {sb i:Nat} {x:List Nat} (h:LRow w sb i x) (hg:w.grownBy w' none):LRow w' sb i x:=by
 obtain⟨g,off,cap,h1,h2,h3,h4⟩:=h
 exact⟨g,off,cap,xI h1 hg,h2,h3,fun j hj=>xI (h4 j hj) hg⟩
structure ProdV (w:World) (o k:Nat) (pv:Value) (L:List (List Nat)) (nxl fr bl:List Nat) (sb sc nb nc fb fc bb bc:Nat):Prop where
 box:w.heap[o]?=some (.cells #[.int .i64 (k:Int),pv,.slice (some ⟨sb,0,none⟩) L.length sc,.slice (some ⟨nb,0,none⟩) (L.length * k) nc,.slice (some ⟨fb,0,none⟩) L.length fc,.slice (some ⟨bb,0,none⟩) L.length bc] 111 (0,0))
 caps:L.length<=sc/\sc<=maxLen/\L.length * k<=nc/\nc<=maxLen/\L.length<=fc/\fc<=maxLen/\L.length<=bc/\bc<=maxLen
 row:∀ i,i < L.length->L.getD i []≠[]->LRow w sb i (L.getD i [])
 nx:∀ i,i < L.length * k->w.cell? ⟨nb,i,none⟩=some (.int .i64 ((nxl.getD i 0:Nat):Int))
 fr:∀ i,i < L.length->w.cell? ⟨fb,i,none⟩=some (.int .i64 ((fr.getD i 0:Nat):Int))
 by_:∀ i,i < L.length->w.cell? ⟨bb,i,none⟩=some (.int .i64 ((bl.getD i 0:Nat):Int))
 nlt:nb < w.heap.size
section
variable {w w':World} {o k:Nat} {pv:Value} {L:List (List Nat)} {nxl fr bl:List Nat} {sb sc nb nc fb fc bb bc:Nat}
theorem ProdV.grow (h:ProdV w o k pv L nxl fr bl sb sc nb nc fb fc bb bc) (hg:w.grownBy w' none):ProdV w' o k pv L nxl fr bl sb sc nb nc fb fc bb bc :=
 ⟨zA h.box hg (by simp),h.caps,fun i hi hn=>(h.row i hi hn).grow hg,fun i hi=>xI (h.nx i hi) hg,fun i hi=>xI (h.fr i hi) hg,fun i hi=>xI (h.by_ i hi) hg,Nat.lt_of_lt_of_le h.nlt hg.size⟩
theorem ProdV.cells (h:ProdV w o k pv L nxl fr bl sb sc nb nc fb fc bb bc):w.cell? ⟨o,0,none⟩=some (.int .i64 (k:Int))/\w.cell? ⟨o,1,none⟩=some pv/\w.cell? ⟨o,2,none⟩=some (.slice (some ⟨sb,0,none⟩) L.length sc)/\w.cell? ⟨o,3,none⟩=some (.slice (some ⟨nb,0,none⟩) (L.length * k) nc)/\w.cell? ⟨o,4,none⟩=some (.slice (some ⟨fb,0,none⟩) L.length fc)/\w.cell? ⟨o,5,none⟩=some (.slice (some ⟨bb,0,none⟩) L.length bc):=by
 have c0:=zK h.box 0 (by simp)
 have c1:=zK h.box 1 (by simp)
 have c2:=zK h.box 2 (by simp)
 have c3:=zK h.box 3 (by simp)
 have c4:=zK h.box 4 (by simp)
 have c5:=zK h.box 5 (by simp)
 simp only[List.getElem_toArray,List.getElem_cons_zero,List.getElem_cons_succ]at c0 c1 c2 c3 c4 c5
 exact⟨c0,c1,c2,c3,c4,c5⟩
theorem ProdS.view {w0:World} {B mb np m q:Nat} (h:ProdS w0 B o mb k np pv L nxl fr bl m q [] w) (h0:0 < m) (hq:q=m * k) (hk:0 < k):∃ sb sc nb nc fb fc bb bc,ProdV w o k pv L nxl fr bl sb sc nb nc fb fc bb bc:=by
 obtain⟨sS',cS',sN',cN',sF',cF',sB',cB',h6,h5⟩:=h.cells
 obtain⟨X,hs,sS,sN,sF,sB,cS,cN,cF,cB,u,c,hB,hE,hM,h8,h9,hu,⟨rfl,H2,H1,H0⟩,H3⟩:=h
 have h7:0 < q:=by rw[hq];exact Nat.mul_pos h0 hk
 obtain⟨sb,e,h1,h2,h3⟩:=h5 h0
 have h4:=hB.box
 rw[h6]at h4
 simp only[Option.some.injEq,Obj.cells.injEq,and_true]at h4
 have h4:=congrArg Array.toList h4
 simp only[List.cons.injEq,and_true,true_and,Value.slice.injEq]at h4
 obtain⟨⟨rfl,rfl⟩,⟨rfl,rfl⟩,⟨rfl,rfl⟩,⟨rfl,rfl⟩⟩:=h4
 subst e
 obtain⟨nb,rfl,n1,n2,na⟩:=uS (hB.own (r:=⟨B,3,.slice sN' q cN',q,nats nxl,1⟩) (by simp)) h7
 obtain⟨fb,rfl,f1,f2,fa⟩:=uS (hB.own (r:=⟨B,3,.slice sF' L.length cF',L.length,nats fr,1⟩) (by simp)) h0
 obtain⟨bb,rfl,b1,b2,ba⟩:=uS (hB.own (r:=⟨B,3,.slice sB' L.length cB',L.length,nats bl,1⟩) (by simp)) h0
 subst hq
 exact⟨sb,cS',nb,cN',fb,cF',bb,cB',h6,⟨h1,h2,n1,n2,f1,f2,b1,b2⟩,fun i hi hne=>h3 i hi hne,fun i hi=>na.nat i (by omega),fun i hi=>fa.nat i (by omega),fun i hi=>ba.nat i (by omega),na.lt⟩
end
end Go.Proofs.Ytjfdomfendbhfaa
