/- Part 20 of the proof. -/
import Derived.Test.YtobakifdllameaaQc19
import Derived.Deep.DeepCutAuto
import Derived.Lib.OwnBridge
set_option linter.unusedVariables false
set_option linter.unusedSimpArgs false
set_option maxRecDepth 100000
set_option maxHeartbeats 16000000
namespace Go.Proofs.Ytobakifdllameaa
open Go.RowKit
structure Sp (w0 w:World)(bi bm g n:Nat)(mv:Value)(bs:List Bool)(made:List Nat):Prop where
 box1:w.heap[bi]?=some (.cells #[.slice (some ⟨g,0,none⟩) n n] 26 (0,0))
 box2:w.heap[bm]?=some (.cells #[mv] 22 (0,0))
 own:w.ownsRow w0.heap.size 3 1 mv made.length (nats made)
 shape:∃sa sc,mv=.slice sa made.length sc
 arr:Arr w g 4 (bls bs)
 len:bs.length=n
 cnt:made.length=bs.count true
 mem:∀x,x<n->(bs.getD x false=true↔x∈made)
 lt:∀x∈made,x<n
 lo:w0.heap.size<=bi/\w0.heap.size<=bm/\w0.heap.size<=g
 fr:w0.grownBy w none
theorem Sp.made_le {w0 w:World}{bi bm g n:Nat}{mv:Value}{bs:List Bool}{made:List Nat}(h:Sp w0 w bi bm g n mv bs made):made.length<=n:=by
 rw[h.cnt,<-h.len];exact List.count_le_length
structure Keep (w w':World)(bm g:Nat)(mv mv':Value):Prop where
 size:w.heap.size<=w'.heap.size
 k1:∀k,k<w.heap.size->k≠g->k≠bm->mv.ownBlock≠some k->w'.heap[k]?=w.heap[k]?
 k2:mv'.ownBlock=mv.ownBlock\/((∀k,k<w.heap.size->k≠g->k≠bm->w'.heap[k]?=w.heap[k]?)/\∀k,mv'.ownBlock=some k->w.heap.size<=k)
def oH (made:List Nat)(x:Nat):List Nat:=if x∈made then made else made++[x]
theorem nI {made:List Nat}{x y:Nat}:y∈oH made x↔y∈made\/y=x:=by
 unfold oH
 split
 ·constructor
  ·exact .inl
  rintro (h|rfl)
  ·exact h
  assumption
 simp
theorem lM (made:List Nat)(x:Nat):∃r,oH made x=made++r:=by
 unfold oH
 split
 ·exact⟨[],by simp⟩
 exact⟨[x],rfl⟩
def qTV (w0 w:World)(bi bm g n:Nat)(mv:Value)(made:List Nat)(x:Nat)(e:Ending)(w':World):Prop :=
 e=.returned (.tuple #[])/\∃bs' mv',Sp w0 w' bi bm g n mv' bs' (oH made x)/\Keep w w' bm g mv mv'
theorem dR {bs:List Bool}{x:Nat}(hx:x<bs.length)(h:bs.getD x false=false):(bs.set x true).count true=bs.count true+1:=by
 rw[List.count_set hx];have:bs[x]=false:=by simpa [List.getD,List.getElem?_eq_getElem hx] using h
 simp[this]
theorem Sp.set {w0 w w3:World}{bi bm g n x:Nat}{mv:Value}{bs:List Bool}{made:List Nat}{sa:Option Addr}{sc:Nat}(h:Sp w0 w bi bm g n mv bs made)(hx:x<n)(hb:bs.getD x false=false)(h1:w3.heap[bi]?=some (.cells #[.slice (some ⟨g,0,none⟩) n n] 26 (0,0)))(h2:w3.heap[bm]?=some (.cells #[.slice sa (made.length+1) sc] 22 (0,0)))(h3:w3.ownsRow w0.heap.size 3 1 (.slice sa (made.length+1) sc) (made.length+1) (nats made++[.int .i64 (x:Int)]))(h4:Arr w3 g 4 (bls (bs.set x true)))(h5:w0.grownBy w3 none)(h6:Keep w w3 bm g mv (.slice sa (made.length+1) sc)):qTV w0 w bi bm g n mv made x (.returned (.tuple #[])) w3:=by
 have h0:¬x∈made:=fun hm=>by rw[(h.mem x hx).2 hm]at hb;cases hb
 refine⟨rfl,bs.set x true,_,⟨h1,h2,?_,?_,h4,by rw[List.length_set];exact h.len,?_,fun y hy=>?_,fun y hy=>?_,h.lo,h5⟩,h6⟩
 ·rw[oH,if_neg h0,List.length_append,qN];exact h3
 ·rw[oH,if_neg h0,List.length_append];exact⟨_,_,rfl⟩
 ·rw[oH,if_neg h0,List.length_append,dR (by rw[h.len];exact hx) hb,h.cnt];rfl
 ·rw[nI]
  by_cases e:x=y
  ·subst e
   rw[qEN _ _ _ _ (by rw[h.len];exact hx)];simp
  rw[getD_set_ne _ _ _ _ _ e,h.mem y hy];exact⟨.inl,fun hh=>hh.elim id (fun e'=>absurd e'.symm e)⟩
 rcases nI.1 hy with hy|rfl
 ·exact h.lt y hy
 exact hx
theorem qFC (w0 w:World)(bi bm g n x:Nat)(mv:Value)(bs:List Bool)(made:List Nat)(hx:x<n)(hn:n<=400)(h:Sp w0 w bi bm g n mv bs made):Calls Try.prog 108 #[.int .i64 (x:Int),.pointer (some ⟨bi,0,none⟩),.pointer (some ⟨bm,0,none⟩)] w (qTV w0 w bi bm g n mv made x):=by
 have H:=Kh h;have b5:=h.made_le;obtain⟨sa,sc,rfl⟩:=h.shape;have ci:=zG h.box1 0;have cx:=h.arr.bool x (by rw[h.len];exact hx);have fx:=h.arr.frozen x;simp only[List.getElem_toArray,List.getElem_cons_zero]at ci;have b4:(x:Int)<n:=by omega
 clear h;cases hb:bs.getD x false
 ·rw[hb]at cx
  have HB:=Kh hb;clear hb;have h8:=H.out.arr.bool_set x (by rw[H.out.len];exact hx) true;have h4:=zF w ⟨g,x,none⟩ (.bool true);go_enter Try.func108,Try.ntmps108;go_upto_region 2 with fail
  generalize hW:w.setCell ⟨g,x,none⟩ (.bool true)=w1 at h8 h4
  have HW:=Kh hW;have b6:=H.out.lo;have a4:=zC H.out.fr h4 (by simp;omega);have a0:=H.out.box2;have h9:=H.out.own
  have H1:=zB a0 h4 (fun e=>by
   have:=Oj e
   exact(H.out.arr.type_ne a0 (by decide)) this)
  have H4:=zB H.out.box1 h4 (fun e=>(H.out.arr.type_ne H.out.box1 (by decide)) (Oj e))
  have h0:=h9.kept h4 (.inr (fun e=>by
   obtain⟨cur,rest,hh,_⟩:=H.out.arr
   exact zS h9 hh (by decide) e))
  have cm:=zG H1 0;simp only[List.getElem_toArray,List.getElem_cons_zero]at cm;obtain⟨a8,a7,H5,a1⟩:=K4 H4 H1 h8 h4;clear hW ci cx fx h8 h4 a0 h9 H4 H1;go_wp2_with (at_builtin;refine iM rfl _ _ _ rfl yJ w0.heap.size _ made.length (nats made) rfl h0 _ rfl rfl ?c1 ?c2 ?c3 ?_)
  case c1=>unfold maxLen;omega
  case c2=>omega
  case c3=>exact a4.size
  intro sa' sc' w3 h7 H2 b0 a3;have H8:=zS h0 a7.out (by decide);have h5:=zB a7.out H2 H8;have b7:=zA h5 0;have b1:=zG h5 0;simp only[List.getElem_toArray,List.getElem_cons_zero]at b1;have H3:=zB a8.out H2 (zS h0 a8.out (by decide))
  have h6:=H5.out.kept H2 (by
   obtain⟨cur,rest,hh,_⟩:=H5.out
   exact zS h0 hh (by decide))
  have H9:=zC a4 H2 (fun k e=>(h0.lt k e).1);obtain⟨a9,H7,a5,a6,H6,b3⟩:=K6 H3 h5 h6 h7 H2 a3;clear H3 h5 h6 h7 H2 h0 cm a3;go_wp2
  go_end0
  have H0:=zF w3 ⟨bm,0,none⟩ (.slice sa' (made.length+1) sc');have a2:=a1.out.size;refine H.out.set hx HB.out (sa:=sa') (sc:=sc') ?_ (heap_setCell_same w3 bm 0 _ _ _ H7.out) ?_ ?_ (zC H9 H0 (by simp;omega)) ⟨Nat.le_trans a2 (Nat.le_trans H6.out.size H0.size),fun k hk h1 h2 h3=>?_,?_⟩
  ·refine zB a9.out H0 (fun e=>?_)
   have e':=Oj e;have h1:=a9.out;rw[<-e',H7.out]at h1;simp at h1
  ·exact a6.out.kept H0 (.inr (zS a6.out H7.out (by decide)))
  ·exact a5.out.kept H0 (fun e=>(a5.out.type_ne H7.out (by decide)) (Oj e).symm)
  ·exact(H0.block k (by have:=H6.out.size;omega) (fun e=>h2 (Oj e))).trans ((H6.out.block k (by omega) (fun e=>h3 e.symm)).trans (a1.out.block k hk (fun e=>h1 (Oj e))))
  rcases b3.out with e|⟨e1,e2⟩
  ·exact .inl e
  exact .inr ⟨fun k hk h1 h2=>(H0.block k (by have:=H6.out.size;omega) (fun e=>h2 (Oj e))).trans ((e1.block k (by omega) (by simp)).trans (a1.out.block k hk (fun e=>h1 (Oj e)))),fun k hk=>Nat.le_trans a2 (e2 k hk)⟩
 rw[hb]at cx;have HB:=Kh hb;clear hb;go_enter Try.func108,Try.ntmps108;go_wp2
 go_end0
 have b2:oH made x=made:=by rw[oH,if_pos ((H.out.mem x hx).1 HB.out)]
 refine⟨rfl,bs,_,by rw[b2];exact H.out,Nat.le_refl _,fun _ _ _ _ _=>rfl,.inl rfl⟩
theorem jY {w w':World}{base e size:Nat}{v:Value}{n:Nat}{xs:List Value}(h:w.ownsRow base e size v n xs)(hb:∀k,v.ownBlock=some k->w'.heap[k]?=w.heap[k]?):w'.ownsRow base e size v n xs:=by
 refine⟨h.1,?_⟩;rcases h.2 with h2|⟨g,cap,cur,rfl,h2,h3,h4⟩
 ·exact .inl h2
 exact .inr ⟨g,cap,cur,rfl,h2,(hb g rfl).trans h3,h4⟩
theorem Arr.of_block {w w':World}{g:Nat}{e:TypeId}{xs:List Value}(h:Arr w g e xs)(hb:w'.heap[g]?=w.heap[g]?):Arr w' g e xs:=by
 obtain⟨cur,rest,h,hc⟩:=h;exact⟨cur,rest,hb.trans h,hc⟩
def qPV (v u:Value):Prop:=∀k,v.ownBlock=some k->u.ownBlock≠some k
theorem Keep.gens {w0 w w':World}{bi bm g n base m:Nat}{mv a9 gv:Value}{bs:List Bool}{made:List Nat}{xs:List Value}(hk:Keep w w' bm g mv a9)(h:Sp w0 w bi bm g n mv bs made)(hg:w.ownsRow base 3 1 gv m xs)(ha:qPV gv mv):w'.ownsRow base 3 1 gv m xs/\qPV gv a9:=by
 have h2:gv.ownBlock≠some g:=by
  obtain⟨cur,rest,hh,_⟩:=h.arr;exact zS hg hh (by decide)
 have h0:gv.ownBlock≠some bm:=zS hg h.box2 (by decide);refine⟨jY hg (fun k e=>hk.k1 k (hg.lt k e).2 (fun e'=>h2 (by rw[e,e'])) (fun e'=>h0 (by rw[e,e'])) (ha k e)),fun k e=>?_⟩;rcases hk.k2 with h1|⟨_,h1⟩
 ·rw[h1];exact ha k e
 intro e';have:=h1 k e';have:=(hg.lt k e).2;omega
theorem Keep.pre {w0 w w':World}{bi bm g n kb:Nat}{mv a8:Value}{bs a7:List Bool}{made a9 pre:List Nat}(hk:Keep w w' bm g mv a8)(h:Sp w0 w bi bm g n mv bs made)(h':Sp w0 w' bi bm g n a8 a7 a9)(hp:∃r,a9=pre++r)(ha:Arr w kb 3 (nats pre)):Arr w' kb 3 (nats pre):=by
 have h1:kb≠g:=by
  rintro rfl;obtain⟨cur,rest,hh,_⟩:=h.arr;exact(ha.type_ne hh (by decide)) rfl
 have h0:kb≠bm:=ha.type_ne h.box2 (by decide);rcases hk.k2 with e|⟨e,_⟩
 ·by_cases hkb:mv.ownBlock=some kb
  ·have h2:=e.trans hkb
   obtain⟨r,rfl⟩:=hp;have ho:=h'.own;rcases ho.2 with ⟨rfl,_⟩|⟨g',cap',cur',rfl,_⟩
   ·simp[Value.ownBlock]at h2
   have eg:g'=kb:=by simpa [Value.ownBlock] using h2
   subst eg;have:=Arr.of_owns ho;rw[eQ]at this;exact this.front
  exact ha.of_block (hk.k1 kb ha.lt h1 h0 hkb)
 exact ha.of_block (e kb ha.lt h1 h0)
structure GInv (t:List (List Int))(gs made:List Nat)(k:Nat):Prop where
 gen:∀x∈made,Gen t gs x
 all:∀x,x<k->x∈made
 lt:∀g∈gs,g<t.length
 le:gs.length<=k
theorem GInv.add {t:List (List Int)}{gs made:List Nat}{k x y:Nat}(h:GInv t gs made k)(hx:x∈made)(hy:y∈made):GInv t gs (oH made (entN t x y)) k :=
 ⟨fun z hz=>by
  rcases nI.1 hz with hz|rfl
  ·exact h.gen z hz
  ·exact .mul x y (h.gen x hx) (h.gen y hy),fun z hz=>nI.2 (.inl (h.all z hz)),h.lt,h.le⟩
theorem GInv.next {t:List (List Int)}{gs made:List Nat}{k:Nat}(h:GInv t gs made k)(hk:k∈made):GInv t gs made (k+1) :=
 ⟨h.gen,fun x hx=>by
  rcases Nat.lt_succ_iff_lt_or_eq.1 hx with hx|rfl
  ·exact h.all x hx
  ·exact hk,h.lt,by have:=h.le;omega⟩
theorem GInv.new {t:List (List Int)}{gs made:List Nat}{k:Nat}(h:GInv t gs made k)(hk:k<t.length):GInv t (gs++[k]) (oH made k) (k+1) :=
 ⟨fun z hz=>by
  rcases nI.1 hz with hz|rfl
  ·exact(h.gen z hz).mono (fun g hg=>List.mem_append_left _ hg)
  ·exact .base _ (by simp),fun x hx=>by
  rw[nI]
  rcases Nat.lt_succ_iff_lt_or_eq.1 hx with hx|rfl
  ·exact .inl (h.all x hx)
  ·exact .inr rfl,fun g hg=>by
  rcases List.mem_append.1 hg with hg|hg
  ·exact h.lt g hg
  ·simp at hg;omega,by have:=h.le;simp;omega⟩
def qPQ (w:World)(t:List (List Int))(e:Ending)(w':World):Prop :=
 ∃(sa:Option Addr) (sc:Nat) (gs:List Nat),e=.returned (.slice sa gs.length sc)/\Row w'.heap.size w' (.slice sa gs.length sc) (nats gs)/\(∀g∈gs,g<t.length)/\(∀x,x<t.length->Gen t gs x)/\w.grownBy w' none
structure SG (w w':World)(bi bm g:Nat)(t:List (List Int))(gv mv:Value)(bs:List Bool)(gs made:List Nat)(k:Nat):Prop where
 sp:Sp w w' bi bm g t.length mv bs made
 own:w'.ownsRow w.heap.size 3 1 gv gs.length (nats gs)
 ap:qPV gv mv
 inv:GInv t gs made k
theorem SG.add {w w1 w2:World}{bi bm g:Nat}{t:List (List Int)}{gv mv a9:Value}{bs a8:List Bool}{gs made:List Nat}{k x y:Nat}(h:SG w w1 bi bm g t gv mv bs gs made k)(hx:x∈made)(hy:y∈made)(h1:Sp w w2 bi bm g t.length a9 a8 (oH made (entN t x y)))(hk:Keep w1 w2 bm g mv a9):SG w w2 bi bm g t gv a9 a8 gs (oH made (entN t x y)) k :=
 ⟨h1,(hk.gens h.sp h.own h.ap).1,(hk.gens h.sp h.own h.ap).2,h.inv.add hx hy⟩
theorem qGB {l:List Nat}{i:Nat}(hi:i<l.length):l.getD i 0∈l:=by
 simp only[List.getD,List.getElem?_eq_getElem hi];exact List.getElem_mem hi
theorem qBN (B:Nat)(w:World)(v:Value)(t:List (List Int))(hB:B<=w.heap.size)(h:Mat B w v t)(hs:Shape t):Calls Try.prog 99 #[v] w (qPQ w t):=by
 obtain⟨b,off,cap,RB,RO,RC,rfl,g4,f4,hq⟩:=h.sq hs;have f8:cap<=9223372036854775807:=by unfold maxLen at f4;omega
 have e7:=hs.pos;have b5:=hs.le;have HQ:=Kh hq;have HS:=Kh hs;clear hq hs h;go_enter Try.func99,Try.ntmps99;go_wp2_with (at_make;refine qV rfl _ _ _ rfl wX rfl _ _ _ _ t.length rfl rfl rfl rfl ?b1 ?b2 ?_;(case b1=>omega);(case b2=>(unfold maxLen;omega));intro w1 a3 b6 c0);rw[<-qW]at a3;rw[zX]at a3 c0;have d3:=zB (heap_alloc_new w (.cells #[.slice none 0 0] 22)) b6;have c8:=zH (Ga w (.cells #[.slice none 0 0] 22) none) b6
 have d5:Sp w (w1.alloc (.cells #[.slice (some ⟨w.heap.size+1,0,none⟩) t.length t.length] 26)) w1.heap.size w.heap.size (w.heap.size+1) t.length (.slice none 0 0) (List.replicate t.length false) []:=by
  have hA:=Ga w1 (.cells #[.slice (some ⟨w.heap.size+1,0,none⟩) t.length t.length] 26) none;refine⟨heap_alloc_new w1 _,zB d3 hA,World.ownsRow_nil _ _ _ _,⟨none,0,rfl⟩,a3.kept hA (by simp),by simp,by simp[List.count_replicate],fun x hx=>?_,by simp,⟨by omega,Nat.le_refl _,by omega⟩,zH c8 hA⟩;simp[List.getD,List.getElem?_replicate,hx]
 have d8:=Kh d5;clear d5 d3 c8 a3 b6
 go_loopg [3,7,18] t.length (fun g gv mul i wr=>∃(k p:Nat) (sa:Option Addr) (sc:Nat) (gs made:List Nat) (mv:Value) (bs:List Bool),g+k=t.length/\gv=.slice sa gs.length sc/\mul=.int .i64 p/\i=.int .i64 k/\p<=made.length /\
   SG w wr w1.heap.size w.heap.size (w.heap.size+1) t (.slice sa gs.length sc) mv bs gs made k)
 case atStart=>exact⟨0,0,none,0,[],[],.slice none 0 0,_,rfl,rfl,rfl,rfl,Nat.le_refl _,d8.out,World.ownsRow_nil _ _ _ _,fun k hk=>by simp[Value.ownBlock]at hk,⟨by simp,fun x hx=>absurd hx (by omega),by simp,by simp⟩⟩
 clear d8 c0;obtain⟨k,p,sa,sc,gs,made,mv,bs,d0,rfl,rfl,rfl,hp,h6⟩:=hrel;have HG:=Kh d0;have ST:=Kh h6;clear d0 h6;have f0:=ST.out.sp.made_le;have ci:=zG ST.out.sp.box1 0;simp only[List.getElem_toArray,List.getElem_cons_zero]at ci;by_cases hk:k<t.length
 ·have g1:(k:Int)<t.length:=by omega
  have ck:=ST.out.sp.arr.bool k (by rw[ST.out.sp.len];exact hk);have g3:=ST.out.inv.le;cases hbk:bs.getD k false
  ·rw[hbk]at ck
   have g5:=Kh hbk;clear hbk;have h0:=ST.out.own;obtain⟨wo,rfl⟩:=Nm (wr:World);go_wp2_with (at_builtin;refine iM rfl _ _ _ rfl yJ w.heap.size _ gs.length (nats gs) rfl h0 _ rfl rfl ?c1 ?c2 ?c3 ?_)
   case c1=>unfold maxLen;omega
   case c2=>omega
   case c3=>exact ST.out.sp.fr.size
   intro sa1 sc1 w2 h7 H5 f3 a0
   have h5:Hid (Sp w w2 w1.heap.size w.heap.size (w.heap.size+1) t.length mv bs made/\qPV (.slice sa1 (gs.length+1) sc1) mv):=by
    have S:=ST.out.sp;have d4:=ST.out.ap;have n1:=zS h0 S.box1 (by decide);have n2:=zS h0 S.box2 (by decide)
    have n3:(Value.slice sa gs.length sc).ownBlock≠some (w.heap.size+1):=by
     obtain⟨cur,rest,hh,_⟩:=S.arr;exact zS h0 hh (by decide)
    refine⟨⟨zB S.box1 H5 n1,zB S.box2 H5 n2,jY S.own (fun q hq=>H5.block q (S.own.lt q hq).2 (fun e=>d4 q e.symm hq)),S.shape,S.arr.kept H5 n3,S.len,S.cnt,S.mem,S.lt,S.lo,zC S.fr H5 (fun x e=>(h0.lt x e).1)⟩,fun q hq=>?_⟩;rcases a0 with e|⟨_,e⟩
    ·rw[e]at hq;exact d4 q hq
    intro e6;have:=e q hq;have:=(S.own.lt q e6).2;omega
   have e0:=Kh h7;clear h0 h7 H5 a0 ci ck;go_wp2_with fail;refine(qFC w w2 w1.heap.size w.heap.size (w.heap.size+1) t.length k mv bs made hk b5 h5.out.1).mono ?_;rintro e w3 ⟨rfl,bs3,mv3,H9,h8⟩
   have H8:SG w w3 w1.heap.size w.heap.size (w.heap.size+1) t (.slice sa1 (gs.length+1) sc1) mv3 bs3 (gs++[k]) (oH made k) (k+1):=by
    have d2:=h8.gens h5.out.1 (show w2.ownsRow w.heap.size 3 1 (.slice sa1 (gs.length+1) sc1) (gs.length+1) (nats (gs++[k])) by rw[qN];exact e0.out) h5.out.2;exact⟨H9,by rw[List.length_append];exact d2.1,d2.2,ST.out.inv.new hk⟩
   have H4:=Kh H8
   have c6:p<=(oH made k).length:=by
    obtain⟨r,hr⟩:=lM made k;rw[hr,List.length_append];omega
   have a1:(gs++[k]).length=gs.length+1:=by simp
   have e1:=Kh a1;clear H9 h8 H8 h5 e0 a1;go_wp2
   go_loopg [7] (t.length-p) (fun g mul wr=>∃(p:Nat) (made:List Nat) (mv:Value) (bs:List Bool),g+p=t.length/\mul=.int .i64 p/\p<=made.length /\
     SG w wr w1.heap.size w.heap.size (w.heap.size+1) t (.slice sa1 (gs.length+1) sc1) mv bs (gs++[k]) made (k+1))
   case atStart=>exact⟨p,_,_,_,by have:=H4.out.sp.made_le;omega,rfl,c6,H4.out⟩
   clear H4 c6;obtain⟨p,made,mv,bs,c9,rfl,hp,h6⟩:=hrel;have f6:=Kh c9;have ST:=Kh h6;clear c9 h6;have f0:=ST.out.sp.made_le;have cm:=zG ST.out.sp.box2 0;simp only[List.getElem_toArray,List.getElem_cons_zero]at cm;obtain⟨ma,mc,a2⟩:=ST.out.sp.shape;rw[a2]at cm;by_cases hpm:p<made.length
   ·obtain⟨kb,f2,f1,b3,H3⟩:=xI (a2 ▸ ST.out.sp.own) (by omega)
    subst f2;have e8:(p:Int)<made.length:=(by omega);have cp:=H3.nat p hpm;obtain⟨x,hx⟩:=Nm (made.getD p 0);have a5:x∈made:=(by rw[hx];exact qGB hpm);have H7:=ST.out.sp.lt x a5;rw[<-hx]at cp;unfold maxLen at b3
    have h3:Arr wr kb 3 (nats (made.take (p+1))):=by
     have:=H3;rw[<-List.take_append_drop (p+1) made,eQ]at this;exact this.front
    obtain⟨b9,HX,d7⟩:=K3 h3 hx a5;have c5:(made.take (p+1)).length=p+1:=by rw[List.length_take];omega
    have d9:=Kh c5;have e9:=Kh a2;clear a2 h3 hx a5 H3 c5;obtain⟨wo,rfl⟩:=Nm (wr:World);go_wp2
    go_loopg [47] (p+1) (fun g jv wr=>∃(j:Nat) (made':List Nat) (mv':Value) (bs':List Bool),g+j=p+1/\jv=.int .i64 j/\(∃r,made'=made++r)/\Arr wr kb 3 (nats (made.take (p+1))) /\
      SG w wr w1.heap.size w.heap.size (w.heap.size+1) t (.slice sa1 (gs.length+1) sc1) mv' bs' (gs++[k]) made' (k+1))
    case atStart=>exact⟨0,made,mv,bs,rfl,rfl,⟨[],by simp⟩,b9.out,ST.out⟩
    clear cp cm;obtain⟨j,made',mv',bs',d1,rfl,hr,h3,h6⟩:=hrel;obtain⟨f7,ST',HR,h9⟩:=K4 d1 h6 hr h3;clear d1 h6 hr h3;by_cases hj:j<p+1
    ·have cj:=h9.out.nat j (by rw[d9.out];exact hj)
     obtain⟨y,hy⟩:=Nm ((made.take (p+1)).getD j 0);have a4:y∈made:=(by rw[hy];exact List.mem_of_mem_take (qGB (by rw[d9.out];exact hj)));have H6:=ST.out.sp.lt y a4;rw[<-hy]at cj;have g2:(j:Int)<(p:Int)+1:=(by omega);have e5:(x:Int)<t.length:=(by omega);have e3:(y:Int)<t.length:=(by omega);have b8:=HQ.out.kept ST'.out.sp.fr (by simp);have cx:=b8.hd x H7;have cxy:=b8.el x y H7 H6;have e4:=pO HS.out H7 H6;have e2:=pO HS.out H6 H7;have d6:=Kh a4;clear b8 hy a4;go_wp2_with fail;refine(qFC w _ w1.heap.size w.heap.size (w.heap.size+1) t.length (entN t x y) mv' bs' made' e4 b5 ST'.out.sp).mono ?_;rintro e w4 ⟨rfl,bs4,mv4,h4,h2⟩
     have H2:∀z∈made,z∈made':=by
      obtain⟨r,hr⟩:=HR.out;intro z hz;rw[hr];exact List.mem_append_left _ hz
     have H0:=Kh (ST'.out.add (H2 x d7.out) (H2 y d6.out) h4 h2)
     have a7:Hid (∃r,oH made' (entN t x y)=made++r):=by
      obtain⟨r,hr⟩:=HR.out;obtain⟨r2,a8⟩:=lM made' (entN t x y);exact⟨r++r2,by rw[a8,hr,List.append_assoc]⟩
     have b0:Hid (Arr w4 kb 3 (nats (made.take (p+1)))):=by
      obtain⟨r,hr⟩:=a7.out;exact h2.pre ST'.out.sp h4 ⟨made.drop (p+1)++r,by rw[hr,<-List.append_assoc,List.take_append_drop]⟩ h9.out
     have b7:=HQ.out.kept h4.fr (by simp);have cy:=b7.hd y H6;have cyx:=b7.el y x H6 H7;clear b7 h4 h2 cx cxy cj H2;go_wp2_with fail;refine(qFC w _ w1.heap.size w.heap.size (w.heap.size+1) t.length (entN t y x) mv4 bs4 _ e2 b5 H0.out.sp).mono ?_;rintro e w5 ⟨rfl,bs5,mv5,H1,h1⟩
     have H2:∀z∈made,z∈oH made' (entN t x y):=by
      obtain⟨r,hr⟩:=a7.out;intro z hz;rw[hr];exact List.mem_append_left _ hz
     have a6:=Kh (H0.out.add (H2 y d6.out) (H2 x d7.out) H1 h1)
     have c4:Hid (∃r,oH (oH made' (entN t x y)) (entN t y x)=made++r):=by
      obtain⟨r,hr⟩:=a7.out;obtain⟨r2,a8⟩:=lM (oH made' (entN t x y)) (entN t y x);exact⟨r++r2,by rw[a8,hr,List.append_assoc]⟩
     have a9:Hid (Arr w5 kb 3 (nats (made.take (p+1)))):=by
      obtain⟨r,hr⟩:=c4.out;exact h1.pre H0.out.sp H1 ⟨made.drop (p+1)++r,by rw[hr,<-List.append_assoc,List.take_append_drop]⟩ b0.out
     clear H1 h1 cy cyx H2;go_wp2;go_roundg (p+1-(j+1))
     case measure=>have:=f7.out;omega
     exact⟨j+1,_,_,_,by omega,by go_num,c4.out,a9.out,a6.out⟩
    have b4:p+1<=made'.length:=by
     obtain⟨r,hr⟩:=HR.out;rw[hr,List.length_append];omega
    have f9:=ST'.out.sp.made_le;go_wp2;go_roundg (t.length-(p+1))
    case measure=>have:=f6.out;omega
    exact⟨p+1,made',mv',bs',by omega,by go_num,b4,ST'.out⟩
   go_wp2;go_roundg (t.length-(k+1))
   case measure=>have:=HG.out;omega
   exact⟨k+1,p,sa1,sc1,gs++[k],made,mv,bs,by omega,by rw[e1.out],rfl,by go_num,hp,by have:=ST.out;rw[<-e1.out]at this;exact this⟩
  rw[hbk]at ck;have c7:k∈made:=(ST.out.sp.mem k hk).1 hbk;have f5:=Kh c7;clear hbk c7;go_wp2;go_roundg (t.length-(k+1))
  case measure=>have:=HG.out;omega
  exact⟨k+1,p,sa,sc,gs,made,mv,bs,by omega,rfl,rfl,by go_num,hp,ST.out.sp,ST.out.own,ST.out.ap,ST.out.inv.next f5.out⟩
 go_wp2;go_ret;have g0:k=t.length:=by have:=HG.out;omega
 exact⟨sa,sc,gs,rfl,Row.of_owns ST.out.own,ST.out.inv.lt,fun x hx=>ST.out.inv.gen x (ST.out.inv.all x (by omega)),ST.out.sp.fr⟩
theorem qBQ (B:Nat)(w:World)(v:Value)(t:List (List Int))(h:Mat B w v t):Calls Try.prog 97 #[v] w fun e w'=>e=.returned (.int .i64 (rJ t))/\w=w':=by
 by_cases h0:0<t.length
 ·obtain⟨b,off,cap,A,C,rfl,H6,H2,hm⟩:=h.some_ h0
  have H5:cap<=9223372036854775807:=by unfold maxLen at H2;omega
  have HM:=Kh hm;clear hm;by_cases h4:400<t.length
  ·go_enter Try.func97,Try.ntmps97
   go_wp2;go_ret;exact⟨xH (qGX h4).symm,rfl⟩
  have H4:((t.length:Int) == 0)=false:=by rw[beq_eq_false_iff_ne];omega
  go_enter Try.func97,Try.ntmps97;go_wp2
  go_loopg [15] t.length (fun g i wr=>∃k:Nat,g+k=t.length/\i=.int .i64 k/\qTL t k/\w=wr)
  case atStart=>exact⟨0,rfl,rfl,fun x hx=>absurd hx (by omega),rfl⟩
  obtain⟨k,hg,rfl,h6,rfl⟩:=hrel;have OK:=Kh h6;clear h6;by_cases hk:k<t.length
  ·have h8:=HM.out.hd k hk
   have h3:=HM.out.row k hk;have h7:=h3.len_le;rw[zN]at h7;unfold maxLen at h7;obtain⟨r,hr⟩:=Nm (t.getD k []);rw[<-hr]at h8 h3 h7;have HG:=Kh hg;have HR:=Kh hr;clear hg hr;by_cases hl:r.length=t.length
   ·have h5:=Kh hl
    have H0:((r.length:Int) != t.length)=false:=by rw[hl];simp
    obtain⟨rb,ro,rc,e,hb,h1,h2,h9⟩:=h3.some_ (by rw[zN];omega);simp only[Value.slice.injEq]at e;obtain⟨eA,-,rfl⟩:=e;rw[eA]at h8;have HA:=Kh eA;have RA:=Kh h9;rw[hl]at h8;rw[zN,hl]at h1;clear eA h9 hl;go_wp2
    go_loopg [26] t.length (fun g j wr'=>∃y:Nat,g+y=t.length/\j=.int .i64 y/\qMI t.length r y/\w=wr')
    case atStart=>exact⟨0,rfl,rfl,fun x hx=>absurd hx (by omega),rfl⟩
    obtain⟨y,hg,rfl,h6,rfl⟩:=hrel;have OKY:=Kh h6;clear h6;by_cases hy:y<t.length
    ·have H1:=RA.out.int y (by rw[h5.out];exact hy)
     obtain⟨z,hz⟩:=Nm (r.getD y 0);rw[<-hz]at H1;have HZ:=Kh hz;have H3:=Kh hg;clear hz hg;by_cases hb1:z<0
     ·go_wp2
      go_ret;exact⟨xH (iS h4 hk (qBR (y:=y) (by rw[<-HR.out,h5.out];exact hy) (by rw[<-HR.out,<-HZ.out];exact .inl hb1))).symm,rfl⟩
     by_cases hb2:(t.length:Int)<=z
     ·go_wp2
      go_ret;exact⟨xH (iS h4 hk (qBR (y:=y) (by rw[<-HR.out,h5.out];exact hy) (by rw[<-HR.out,<-HZ.out];exact .inr hb2))).symm,rfl⟩
     go_wp2;go_roundg (t.length-(y+1))
     case measure=>have:=H3.out;omega
     refine⟨y+1,by omega,by go_num,fun x hx=>?_,rfl⟩;rcases Nat.lt_succ_iff_lt_or_eq.1 hx with hx|rfl
     ·exact OKY.out x hx
     rw[<-HZ.out];omega
    go_wp2;go_roundg (t.length-(k+1))
    case measure=>have:=HG.out;omega
    refine⟨k+1,by omega,by go_num,fun x hx=>?_,rfl⟩;rcases Nat.lt_succ_iff_lt_or_eq.1 hx with hx|rfl
    ·exact OK.out x hx
    rw[<-HR.out,oV];exact⟨h5.out,fun z hz=>OKY.out z (by rw[h5.out]at hz;omega)⟩
   have H0:((r.length:Int) != t.length)=true:=by rw[bne_iff_ne];omega
   have h5:=Kh hl;clear hl;go_wp2;go_ret;exact⟨xH (iS h4 hk (by rw[<-HR.out];exact qJM h5.out)).symm,rfl⟩
  go_wp2;go_ret;exact⟨xH (qJI h4 h0 (fun x hx=>OK.out x (by omega))).symm,rfl⟩
 obtain⟨a,c,e⟩:=h.shape;have ht:t=[]:=List.eq_nil_of_length_eq_zero (by omega);subst ht;subst e;clear h0;go_enter Try.func97,Try.ntmps97;go_wp2;go_ret;exact⟨rfl,rfl⟩
theorem qBB (B:Nat)(w:World)(v:Value)(t:List (List Int))(hB:B<=w.heap.size)(h:Mat B w v t):Calls Try.prog 76 #[v] w fun e w'=>e=.returned (.int .i64 (qJ t))/\w.grownBy w' none:=by
 by_cases hE:rJ t=0
 ·have hs:=qFP hE
  obtain⟨HS,HE,H⟩:=K3 hs hE h;clear hs hE h;go_enter Try.func76,Try.ntmps76;go_wp2_with fail;refine(qBQ B w v t H.out).mono ?_;rintro e w' ⟨rfl,rfl⟩;rw[HE.out];go_wp2_with fail;refine(qBN B w v t hB H.out HS.out).mono ?_;rintro e w1 ⟨sa,sc,gs,rfl,h0,h5,h1,h2⟩;obtain⟨HR,h3,h4⟩:=K3 h0 h5 h1;have HM:=Kh ((H.out.kept h2 (by simp)).mono (show B<=w1.heap.size by have:=h2.size;omega));clear h0 h5 h1;go_wp2_with fail;refine(dT w1.heap.size w1 v _ t gs (Nat.le_refl _) HM.out HS.out HR.out h3.out).mono ?_;rintro e w2 ⟨rfl,h6⟩;have hg:=zH h2 h6;cases hb:eV t gs
  ·have hv:qJ t=5:=qGQ HE.out (fun ha=>by
    rw[eU (fun g hg=>ha g (h3.out g hg))]at hb;cases hb)
   have HV:=Kh hv;clear hb hv;go_wp2;go_ret;exact⟨xH HV.out.symm,hg⟩
  have hv:qJ t=0:=gP HE.out (dU HS.out h4.out (fun g hg=>⟨h3.out g hg,by
   have:fZ t gs:=by simpa [eV] using hb
   exact this g hg⟩))
  have HV:=Kh hv;clear hb hv;go_wp2;go_ret;exact⟨xH HV.out.symm,hg⟩
 have hb:(rJ t != 0)=true:=by rw[bne_iff_ne];exact hE
 have HE:=Kh hE;clear hE;go_enter Try.func76,Try.ntmps76;go_wp2_with fail;refine(qBQ B w v t h).mono ?_;rintro e w' ⟨rfl,rfl⟩;go_wp2;go_ret;exact⟨xH (qBD HE.out).symm,zV _ _⟩
theorem qBC (B:Nat)(w:World)(v:Value)(t:List (List Int))(hB:B<=w.heap.size)(h:Mat B w v t):Calls Try.prog 57 #[v] w fun e w'=>e=.returned (.bool (qJ t == 0))/\w.grownBy w' none:=by
 go_enter Try.func57,Try.ntmps57;go_wp2_with fail;refine(qBB B w v t hB h).mono ?_;rintro e w1 ⟨rfl,hg⟩;go_wp2;go_ret;exact⟨rfl,hg⟩
theorem qGY (n k:Nat)(hk:k<n):(List.range k++List.replicate (n-k) 0).set k k=List.range (k+1)++List.replicate (n-(k+1)) 0:=by
 rw[List.set_append_right _ _ (by simp),List.length_range,Nat.sub_self,List.range_succ,List.append_assoc];congr 1;rw[show n-k=n-(k+1)+1 by omega,List.replicate_succ,List.set_cons_zero];rfl
theorem qCZ (w:World)(a:Option Addr)(n cap:Nat)(hn:n<=400):Calls Try.prog 101 #[.slice a n cap] w fun e w'=>e=.returned (.slice (some ⟨w.heap.size,0,none⟩) n n)/\Arr w' w.heap.size 3 (nats (List.range n))/\w.grownBy w' none:=by
 go_enter Try.func101,Try.ntmps101;go_wp2_with (at_make;refine qV rfl _ _ _ rfl yJ rfl _ _ _ _ n rfl rfl rfl rfl ?b1 ?b2 ?_;(case b1=>omega);(case b2=>(unfold maxLen;omega));intro w1 h3 h7 h8);rw[<-yS]at h3;have HA:=Kh h3;clear h3
 go_loopg [10] n (fun g i wr=>∃k:Nat,g+k=n/\i=.int .i64 k/\Arr wr w.heap.size 3 (nats (List.range k++List.replicate (n-k) 0))/\w.grownBy wr none)
 case atStart=>exact⟨0,rfl,rfl,by simpa using HA.out,h7⟩
 clear HA h7 h8;obtain⟨k,hg,rfl,h0,h6⟩:=hrel;have HG:=Kh hg;clear hg;by_cases hk:k<n
 ·have H1:(k:Int)<n:=by omega
  have h1:(List.range k++List.replicate (n-k) 0).length=n:=by simp;omega
  have ck:=h0.nat k (by rw[h1];exact hk);have fk:=h0.frozen k;have h2:=h0.nat_set k (by rw[h1];exact hk) k;rw[qGY n k hk]at h2;have h9:=Kh h2;clear h2 h1 h0;go_wp2;go_roundg (n-(k+1))
  case measure=>have:=HG.out;omega
  exact⟨k+1,by omega,by go_num,h9.out,zC h6 (zF _ _ _)⟩
 have h5:k=n:=by have:=HG.out;omega
 have H0:=Kh h5;have h4:=Kh h0;clear h0 h5;go_wp2;go_ret;refine⟨rfl,?_,h6⟩;have:=h4.out;rw[H0.out,Nat.sub_self,List.replicate_zero,List.append_nil]at this;exact this
def cenB (t:List (List Int))(x:Nat):Bool:=(List.range t.length).all fun y=>entN t x y == entN t y x
def kP (t:List (List Int)):Bool:=(List.range t.length).all (cenB t)
theorem qPB {t:List (List Int)}{x y:Nat}(hy:y<t.length)(h:entN t x y≠entN t y x):cenB t x=false:=by
 rw[<-Bool.not_eq_true,cenB,List.all_eq_true];intro ha;exact h (by simpa using ha y (List.mem_range.2 hy))
def qTT (t:List (List Int))(x k:Nat):Prop:=∀y,y<k->entN t x y=entN t y x
theorem qDH {t:List (List Int)}{x:Nat}(h:qTT t x t.length):cenB t x=true:=by
 rw[cenB,List.all_eq_true];intro y hy;simpa using h y (List.mem_range.1 hy)
theorem qHV {n:Nat}(p:Fin n->Bool):((List.finRange n).filter p).length=n↔∀x,p x=true:=by
 have h1:(List.finRange n).length=n:=List.length_finRange;constructor
 ·intro h x
  have h2:=(List.length_filter_eq_length_iff (p:=p) (l:=List.finRange n)).1 (by rw[h,h1]);exact h2 x (List.mem_finRange x)
 intro h;rw[List.filter_eq_self.2 (fun a _=>h a),h1]
structure CenAt (K:Nat)(W:World)(cb pb:Nat)(t:List (List Int))(b off cap:Nat)(RB RO RC:Nat->Nat):Prop where
 box:W.cell? ⟨pb,0,none⟩=some (.slice (some ⟨b,off,none⟩) t.length cap)
 clo:W.cell? ⟨cb,0,none⟩=some (.func (.func 78) #[] #[.pointer (some ⟨pb,0,none⟩)])
 hd:∀x,x<t.length->W.cell? ⟨b,off+x,none⟩=some (.slice (some ⟨RB x,RO x,none⟩) t.length (RC x))
 lt:cb<K/\pb<K/\b<K/\∀x,x<t.length->RB x<K
 el:∀x y,x<t.length->y<t.length->W.cell? ⟨RB x,RO x+y,none⟩=some (.int .i64 (entN t x y))
section
variable {K:Nat} {W W':World} {cb pb:Nat} {t:List (List Int)} {b off cap:Nat} {RB RO RC:Nat->Nat}
theorem CenAt.mono (h:CenAt K W cb pb t b off cap RB RO RC)(hk:∀p u,p.block<K->W.cell? p=some u->W'.cell? p=some u):CenAt K W' cb pb t b off cap RB RO RC :=
 ⟨hk _ _ h.lt.2.1 h.box,hk _ _ h.lt.1 h.clo,fun x hx=>hk _ _ h.lt.2.2.1 (h.hd x hx),h.lt,fun x y hx hy=>hk _ _ (h.lt.2.2.2 x hx) (h.el x y hx hy)⟩
theorem qEW (w:World)(h:CenAt K w cb pb t b off cap RB RO RC)(a8:t.length<=cap)(a7:cap<=9223372036854775807)(a9:∀x,x<t.length->t.length<=RC x/\RC x<=9223372036854775807)(x:Nat)(hx:x<t.length):Calls Try.prog 78 #[.int .i64 (x:Int),.pointer (some ⟨pb,0,none⟩)] w fun r w'=>r=.returned (.bool (cenB t x))/\∃m,w'=w.drewN m:=by
 have HQ:=Kh h;have h6:=Kh a9;have hp:=h.box;have ce:=h.hd x hx;have H6:(x:Int)<t.length:=by omega
 have h0:=a9 x hx;have H3:=h0.1;have H2:=h0.2;clear h a9 h0;go_enter Try.func78,Try.ntmps78;go_wp2
 go_loopg [4,7] t.length (fun g a4 i wr=>∃k m:Nat,g+k=t.length/\i=.int .i64 k/\qTT t x k/\wr=w.drewN m)
 case atStart=>exact⟨0,0,rfl,rfl,fun x hx=>absurd hx (by omega),rfl⟩
 obtain⟨y,m,hg,rfl,h4,rfl⟩:=hrel;have HG:=Kh hg;have OK:=Kh h4;clear hg h4;by_cases hy:y<t.length
 ·have H5:(y:Int)<t.length:=by omega
  have cy:=HQ.out.hd y hy;have cxy:=HQ.out.el x y hx hy;have cyx:=HQ.out.el y x hy hx;have H0:=(h6.out y hy).1;have h9:=(h6.out y hy).2;obtain⟨p,h3⟩:=Nm (entN t x y);obtain⟨q,h2⟩:=Nm (entN t y x);rw[<-h3]at cxy;rw[<-h2]at cyx;have h8:=Kh h3;have h7:=Kh h2;clear h3 h2;by_cases h1:p=q
  ·have e1:((p:Int) != (q:Int))=false:=by rw[h1];simp
   have H1:=Kh h1;clear h1;go_wp2
   first|(go_quiet (fail);go_wp2)|skip
   go_roundg (t.length-(y+1))
   case measure=>have:=HG.out;omega
   refine⟨y+1,_,by omega,by go_num,fun z hz=>?_,rfl⟩;rcases Nat.lt_succ_iff_lt_or_eq.1 hz with hz|rfl
   ·exact OK.out z hz
   rw[<-h8.out,<-h7.out];exact H1.out
  have e1:((p:Int) != (q:Int))=true:=by rw[bne_iff_ne];omega
  have H1:=Kh h1;clear h1;go_wp2
  first|(go_quiet (fail);go_wp2)|skip
  go_ret;exact⟨yY (qPB hy (by rw[<-h8.out,<-h7.out];exact H1.out)).symm,_,World.drewN_drewN _ _ _⟩
 have h5:y=t.length:=by have:=HG.out;omega
 have H4:=Kh h5;clear h5;go_wp2;go_ret;exact⟨yY (qDH (by rw[<-H4.out];exact OK.out)).symm,_,rfl⟩
theorem qEV (w:World)(h:CenAt K w cb pb t b off cap RB RO RC)(a9:t.length<=cap)(a7:cap<=9223372036854775807)(a8:∀x,x<t.length->t.length<=RC x/\RC x<=9223372036854775807)(x:Nat)(hx:x<t.length):Calls Try.prog 102 #[.int .i64 (x:Int),.pointer (some ⟨cb,0,none⟩)] w fun r w'=>r=.returned (.bool (!cenB t x))/\∃m,w'=w.drewN m:=by
 have HC:=Kh (qEW w h a9 a7 a8 x hx);have h0:=h.clo;have eg:∀args w,(callFunc 78 args).run Try.prog w=.ok (.enter 78 args) w:=enters_of Try.func78 (by kernel_rfl) rfl;obtain⟨c,hc⟩:=Nm (cenB t x);rw[<-hc]at HC⊢;clear h a8 hc;go_enter Try.func102,Try.ntmps102;go_wp2_with (first|(go_at_fn 78;refine HC.out.mono ?_;rintro e w1 ⟨rfl,m,rfl⟩)|fail);go_ret;exact⟨rfl,m,rfl⟩
end
open Go.Lib Go.Sort Go.Shelf in
theorem qIG (B : Nat)(w : World)(pb b off cap : Nat)(RB RO RC : Nat → Nat)(t : List (List Int))(hB : B ≤ w.heap.size)(hq : Sq B w t b off RB RO RC)(hM : Mat B w (.slice (some ⟨b, off, none⟩) t.length cap) t)(hs : Shape t)(hv : qJ t = 0)(a9 : t.length ≤ cap)(a8 : cap ≤ 9223372036854775807)(hp : w.cell? ⟨pb, 0, none⟩ = some (.slice (some ⟨b, off, none⟩) t.length cap)): Calls Try.prog 77 #[.slice (some ⟨b, off, none⟩) t.length cap, .func (.func 78) #[] #[.pointer (some ⟨pb, 0, none⟩)]] w fun e w' => (∃ sa sc m, e = .returned (.slice sa m sc) ∧ (m = t.length ↔ kP t = true)) ∧ w.grownBy w' none := by
 have hn := hs.pos
 have hn4 := hs.le
 have hpb : pb < w.heap.size := World.block_lt_of_cell? w _ hp
 obtain⟨w1,hw1⟩:=Nm (w.alloc (.cells #[.func (.func 78) #[] #[.pointer (some ⟨pb, 0, none⟩)]] 81))
 have hg1 : w.grownBy w1 none := by rw [hw1]; exact Ga w _ none
 have hb1 := heap_alloc_new w (.cells #[.func (.func 78) #[] #[.pointer (some ⟨pb, 0, none⟩)]] 81)
 obtain⟨cb,hcb⟩:=Nm w.heap.size
 rw [← hw1, ← hcb] at hb1
 have hcl := zG hb1 0
 simp only [List.getElem_toArray, List.getElem_cons_zero] at hcl
 have hcb1 : cb < w1.heap.size := zQ hb1
 have hC : CenAt w1.heap.size w1 cb pb t b off cap RB RO RC := ⟨zJ hp hg1, hcl, fun x hx => zJ (hq.hd x hx) hg1, ⟨hcb1, by have := hg1.size; omega, by have := hg1.size; have := hq.ltw; omega, fun x hx => by have := hg1.size; have := (hq.ltr x hx).2; omega⟩, fun x y hx hy => zJ (hq.el x y hx hy) hg1⟩
 have hrc : ∀ x, x < t.length → t.length ≤ RC x ∧ RC x ≤ 9223372036854775807 := fun x hx => ⟨(hq.cap x hx).1, by have := (hq.cap x hx).2; unfold maxLen at this; exact this⟩
 have HC := Kh hC; have HRC := Kh hrc; have HG1 := Kh hg1; have HW1 := Kh hw1; have HCB := Kh hcb
 have HV := Kh (qBC B w1 _ t (Nat.le_trans hB hg1.size) (hM.kept hg1 (by simp)))
 rw [show (qJ t == 0) = true by rw [hv]; rfl] at HV
 obtain⟨n,hN⟩:=Nm t.length
 have HN := Kh hN
 rw [← hN] at a9 hn hn4 HV ⊢
 clear hq hM hs hv hp hpb hw1 hg1 hb1 hcb hcl hcb1 hC hrc hN
 go_enter Try.func77, Try.ntmps77
 go_upto_region 1 with fail
 rw [← HW1.out, ← HCB.out]
 go_wp2_with fail
 refine HV.out.mono ?_
 rintro e w2 ⟨rfl, hg2⟩
 have HEL := Kh (qCZ w2 (some ⟨b, off, none⟩) n cap hn4)
 have HG2 := Kh hg2
 clear hg2 HV
 go_wp2_with fail
 refine HEL.out.mono ?_
 rintro e w3 ⟨rfl, harr, hg3⟩
 obtain⟨g,hg⟩:=Nm w2.heap.size
 rw [← hg] at harr ⊢
 have HDF : Hid (Calls Try.prog 100 #[.slice (some ⟨g, 0, none⟩) n n, .func (.func 102) #[] #[.pointer (some ⟨cb, 0, none⟩)]] w3 fun e w' => (∃ m, e = .returned (.slice (some ⟨g, 0, none⟩) m n) ∧ (m = n ↔ kP t = true)) ∧ w2.grownBy w' none) := Kh (by
  have hC3 : CenAt w1.heap.size w3 cb pb t b off cap RB RO RC := HC.out.mono (fun p u _ hu => zJ hu (zC HG2.out hg3))
  haveI : Inhabited (Fin n) := ⟨⟨0, by omega⟩⟩
  have hK : w1.heap.size ≤ g := by rw [hg]; exact HG2.out.size
  have hgl : g < w3.heap.size := harr.lt
  have hdl : ((List.finRange n).toArray).size = n := by simp
  have hpred : ∀ (W : World), CenAt w1.heap.size W cb pb t b off cap RB RO RC → ∀ x : Fin n, FnGives Try.prog 102 #[.pointer (some ⟨cb, 0, none⟩)] #[.int .i64 ((x.val : Nat) : Int)] (.bool (!cenB t x.val)) W := fun W hW x => qEV W hW (by rw [← HN.out]; exact a9) a8 HRC.out x.val (by rw [← HN.out]; exact x.isLt)
  have := Try.slices_DeleteFunc (fun x : Fin n => Value.int .i64 ((x.val : Nat) : Int)) (fun _ => rfl) (fun x => !cenB t x.val) 102 #[.pointer (some ⟨cb, 0, none⟩)] (enters_of Try.func102 (by kernel_rfl) rfl) ⟨0, by omega⟩ Try.zeroValue3 g 0 n (List.finRange n).toArray w3
   (fun W x hb => hpred W (hC3.mono (fun p u hp hu => (hb.cell (by omega)).trans hu)) x)
   (fun m os dk x hdk => hpred _ (hC3.mono (fun p u hp hu => by
    unfold sortWorld
    rw [cell?_grow _ _ _ (by show p.block < (putRow _ _ _ _ _).heap.size; rw [size_putRow]; show p.block < w3.heap.size; omega), cell?_putRow_other _ _ g _ _ _ (Or.inl (by omega))]
    exact hu)) x)
   (fun j hj => by
    have hj' : j < n := by rw [hdl] at hj; exact hj
    have h1 := harr.nat j (by simpa using hj')
    refine ⟨?_, harr.frozen _⟩
    rw [Nat.zero_add, h1, getElem!_pos _ j hj, zK (show j < (List.range n).length by simpa using hj')]
    simp only [List.getElem_range, List.getElem_toArray, List.getElem_finRange]
    rfl)
   (by rw [hdl]; omega) (by rw [hdl]; exact Nat.le_refl _)
  rw [hdl] at this
  refine this.mono fun e w' ⟨h1, q, h2⟩ => ⟨⟨_, h1, ?_⟩, ?_⟩
  ·have hf : (List.filter (fun x : Fin n => !!cenB t x.val) (List.finRange n).toArray.toList) = (List.finRange n).filter (fun x : Fin n => cenB t x.val) := by simp
   rw [hf, qHV, kP, List.all_eq_true, ← HN.out]
   exact ⟨fun h x hx => h ⟨x, List.mem_range.1 hx⟩, fun h x => h x.val (List.mem_range.2 x.isLt)⟩
  ·have hb3 : Below w2.heap.size w2 w3 := ⟨hg3.os, hg3.tape, hg3.output, hg3.size, fun j hj => hg3.block j hj (by simp)⟩
   rw [h2]
   exact kW (below_putRow hb3 (by rw [hg]; exact Nat.le_refl _)))
 have HG12 := Kh (zC HG1.out HG2.out)
 clear harr hg3 hg HEL HC HRC
 go_wp2_with fail
 refine HDF.out.mono ?_
 rintro e w4 ⟨⟨m, rfl, hm⟩, hg4⟩
 have HM := Kh hm; have HG4 := Kh (zC HG12.out hg4)
 clear hm hg4
 go_wp2
 go_ret
 exact ⟨⟨_, _, m, rfl, HM.out⟩, HG4.out⟩
theorem qIH (B:Nat)(w:World)(v:Value)(t:List (List Int))(hB:B<=w.heap.size)(hM:Mat B w v t)(hs:Shape t)(hv:qJ t=0):Calls Try.prog 58 #[v] w fun e w'=>(∃sa sc m,e=.returned (.slice sa m sc)/\(m=t.length↔kP t=true))/\w.grownBy w' none:=by
 obtain⟨b,off,cap,RB,RO,RC,rfl,h8,h4,hq⟩:=hM.sq hs;obtain⟨w1,h1⟩:=Nm (w.alloc (.cells #[.slice (some ⟨b,off,none⟩) t.length cap] 35));have h0:w.grownBy w1 none:=by rw[h1];exact Ga w _ none
 have h5:=heap_alloc_new w (.cells #[.slice (some ⟨b,off,none⟩) t.length cap] 35);obtain⟨pb,h3⟩:=Nm w.heap.size;rw[<-h1,<-h3]at h5;have h2:=zG h5 0;simp only[List.getElem_toArray,List.getElem_cons_zero]at h2;have h6:=Kh (qIG B w1 pb b off cap RB RO RC t (Nat.le_trans hB h0.size) (hq.kept h0 (by simp)) (hM.kept h0 (by simp)) hs hv h8 (by unfold maxLen at h4;exact h4) h2);obtain⟨H2,h9,H0⟩:=K3 h0 h1 h3;obtain⟨n,hN⟩:=Nm t.length;rw[<-hN]at h6 h2⊢;have HN:=Kh hN;clear hM hs hv h8 h4 hq h1 h0 h5 h3 hN;go_enter Try.func58,Try.ntmps58;go_upto_region 1 with fail;rw[HN.out,<-h9.out,<-H0.out];rw[HN.out]at h2 h6;go_wp2_with fail;refine h6.out.mono ?_;rintro e w2 ⟨⟨sa,sc,m,rfl,hm⟩,h7⟩;have HM:=Kh hm;have H1:=Kh (zC H2.out h7);clear hm h7;go_wp2;go_ret;exact⟨⟨sa,sc,m,rfl,by rw[HN.out];exact HM.out⟩,H1.out⟩
theorem qOX (B:Nat)(w:World)(v:Value)(t:List (List Int))(hB:B<=w.heap.size)(hM:Mat B w v t)(hs:Shape t)(hv:qJ t=0):Calls Try.prog 33 #[v] w fun e w'=>e=.returned (.bool (kP t))/\w.grownBy w' none:=by
 obtain⟨a,cap,rfl⟩:=hM.shape;have HV:=Kh (qBC B w _ t hB hM);rw[show (qJ t == 0)=true by rw[hv];rfl]at HV;have h0:Hid (∀W:World,w.grownBy W none->Calls Try.prog 58 #[.slice a t.length cap] W fun e w'=>(∃sa sc m,e=.returned (.slice sa m sc)/\(m=t.length↔kP t=true))/\W.grownBy w' none):=Kh (fun W hW=>qIH B W _ t (Nat.le_trans hB hW.size) (hM.kept hW (by simp)) hs hv);obtain⟨n,hN⟩:=Nm t.length;obtain⟨c,hc⟩:=Nm (kP t);rw[<-hN]at HV h0⊢;rw[<-hc]at h0⊢;clear hM hs hv hN hc;go_enter Try.func33,Try.ntmps33;go_wp2_with fail;refine HV.out.mono ?_;rintro e w1 ⟨rfl,h1⟩;have h3:=Kh (h0.out w1 h1);have h5:=Kh h1;clear h1 h0 HV;go_wp2_with fail;refine h3.out.mono ?_;rintro e w2 ⟨⟨sa,sc,m,rfl,hm⟩,h2⟩;have h4:=Kh (zC h5.out h2)
 have e1:((m:Int) == (n:Int))=c:=by
  rw[Bool.eq_iff_iff,<-hm,beq_iff_eq];omega
 clear hm h2 h3;go_wp2;go_ret;exact⟨rfl,h4.out⟩
end Go.Proofs.Ytobakifdllameaa
namespace Go.Proofs.Ytobakifdllameaa
theorem qRJ {d:DfaV}{n k:Nat}(hd:VD d n k){i j:Nat}(hi:i<minN d k)(hj:j<minN d k)(h:∀w,xM k w->acc (minD d k) i w=acc (minD d k) j w):i=j:=by
 have hq:=qE hd;have hA:=(xV hq).1
 have key:∀x,x<minN d k->∀w,xM k w->acc (minD d k) x w=acc (wQ d (yF d k)) ((yH (wQ d (yF d k)) k).getD x 0) w:=fun x hx w hw=>by
  have hr:=kU (mO hq) w hx hw;unfold acc minD;rw[lQ hq hr,fK hq w hx hw]
 have hc:∀x,x<minN d k->(yH (wQ d (yF d k)) k).getD x 0<cls (yF d k):=fun x hx=>hA.lt _ (by rw[zK hx];exact List.getElem_mem _);have h1:=aW hd (hc i hi) (hc j hj) (fun w hw=>by rw[<-key i hi w hw,<-key j hj w hw];exact h w hw);rw[zK (show i<(yH (wQ d (yF d k)) k).length from hi),zK (show j<(yH (wQ d (yF d k)) k).length from hj)]at h1;exact(List.getElem_inj hA.nd).1 h1
theorem qLB {n:Nat}{f g:List Nat}(hf:IsT n f)(hg:IsT n g)(h:∀q,q<n->f.getD q 0=g.getD q 0):f=g:=by
 refine List.ext_getElem (by rw[hf.1,hg.1]) fun i h1 h2=>?_;have:=h i (by rw[<-hf.1];exact h1)
 rwa [zK h1,zK h2]at this
theorem qLF {M:DfaV}{m k a x:Nat}(ha:a<k)(hx:x<m):((tH M m k).getD a []).getD x 0=nx M x a:=by
 have e1:(tH M m k).getD a []=(List.range m).map fun q=>nx M q a:=by rw[tH,zK (by simpa using ha)];simp
 rw[e1,zK (by simpa using hx)];simp
theorem qFJ {M:DfaV}{m k:Nat}(hM:VD M m k){u:List Nat}(hu:xM k u){q:Nat}(hq:q<m):(valW (tH M m k) m u).getD q 0=run M q u:=by
 suffices h:∀(u f:List Nat),IsT m f->xM k u->(u.foldl (fun f a=>wK f ((tH M m k).getD a [])) f).getD q 0=run M (f.getD q 0) u by
  have:=h u (List.range m) (mZ m) hu;have e:(List.range m).getD q 0=q:=by rw[zK (by simpa using hq)];simp
  rw[e]at this;exact this
 intro u
 induction u with
 | nil=>intro f _ _;rfl
 | cons a u ih =>
  intro f hf hw;have ha:a<k:=hw a (by simp);have h0:(tH M m k).getD a []∈tH M m k:=uP (by rw[yQ];exact ha);have hg:=tZ hM _ h0;rw[List.foldl_cons,ih _ (nG hf hg) (fun b hb=>hw b (by simp[hb])),iL (by rw[hf.1];exact hq),qLF ha (hf.get hq)];rfl
structure SynM (d:DfaV)(S:SynV)(n k m:Nat)(el:List (List Nat)):Prop where
 hd:VD d n k
 hM:VD (minD d k) m k
 hm:m<=32
 hS:SynE (tH (minD d k) m k) m (st0 (minD d k)) (minD d k).final S
 len:S.tab.length=el.length
 lim:el.length<=400
 pos:0<el.length
 nd:el.Nodup
 one:el.getD 0 []=List.range m
 mul:∀x y,x<el.length->y<el.length->entN (tabI S.tab) x y<el.length/\el.getD (entN (tabI S.tab) x y) []=wK (el.getD x []) (el.getD y [])
 im:∀a,a<k->S.images.getD a 0<el.length/\el.getD (S.images.getD a 0) []=(tH (minD d k) m k).getD a []
 ac:∀x,x<el.length->S.accept.getD x false=(minD d k).final.getD ((el.getD x []).getD 0 0) false
 ex:∀u,xM k u->∃x,x<el.length/\el.getD x []=valW (tH (minD d k) m k) m u
 re:∀x,x<el.length->∃u,xM k u/\el.getD x []=valW (tH (minD d k) m k) m u
theorem pS.sem {d:DfaV}{S:SynV}(h:pS d S):∃n k m el,SynM d S n k m el:=by
 obtain⟨n,k,m,M,hd,rfl,hM,hm,hS⟩:=h;obtain⟨el,pr,la,ri,mm,hf,hl,e1,e2,e3,e4,e5,_⟩:=id hS;have hg:=tZ hM;have hE:=hf.toEnm;refine⟨n,k,m,el,hd,hM,hm,hS,by rw[e2,wH],hl,hE.en.pos,hE.en.nodup,hE.en.one,fun x y hx hy=>?_,fun a ha=>?_,fun x hx=>?_,fun u hu=>?_,fun x hx=>?_⟩
 ·rw[e2];exact hE.entV hg hx hy
 ·have h0:=hE.image hg (a:=a) (by rw[yQ];exact ha)
  rw[e4,imgE,xR (x:=[]) (by rw[yQ];exact ha)];exact⟨List.idxOf_lt_length_of_mem h0,gI h0⟩
 ·rw[e5,accE,xR (x:=[]) hx];rfl
 ·have h1:=hE.at hg hE.en.pos u (fun a ha=>by rw[yQ];exact hu a ha)
  rw[hE.en.one,kI (fJ hg u (fun a ha=>by rw[yQ];exact hu a ha))]at h1;exact⟨_,h1⟩
 exact⟨_,fun a ha=>by have:=(pT hE.en.words x hx).1 a ha;rwa [yQ]at this,hE.en.word x hx⟩
section
variable {d:DfaV} {S:SynV} {n k m:Nat} {el:List (List Nat)}
def Rep (d:DfaV)(k m:Nat)(el:List (List Nat))(x:Nat)(u:List Nat):Prop:=xM k u/\x<el.length/\el.getD x []=valW (tH (minD d k) m k) m u
theorem SynM.isT (H:SynM d S n k m el){x:Nat}{u:List Nat}(h:Rep d k m el x u):IsT m (el.getD x []):=by
 rw[h.2.2];exact fJ (tZ H.hM) u (fun a ha=>by rw[yQ];exact h.1 a ha)
theorem SynM.at (H:SynM d S n k m el){x:Nat}{u:List Nat}(h:Rep d k m el x u){q:Nat}(hq:q<m):(el.getD x []).getD q 0=run (minD d k) q u:=by
 rw[h.2.2];exact qFJ H.hM h.1 hq
theorem SynM.mN (H:SynM d S n k m el):m=minN d k:=by rw[<-H.hM.hn,(kV H.hd).hn]
theorem vM {k:Nat}{u v:List Nat}(hu:xM k u)(hv:xM k v):xM k (u++v):=fun a ha=>(List.mem_append.1 ha).elim (hu a) (hv a)
theorem SynM.mulR (H:SynM d S n k m el){x y:Nat}{u v:List Nat}(h:Rep d k m el x u)(h':Rep d k m el y v):Rep d k m el (entN (tabI S.tab) x y) (u++v):=by
 obtain⟨h1,h2⟩:=H.mul x y h.2.1 h'.2.1;have hw:=vM h.1 h'.1;refine⟨hw,h1,?_⟩;rw[h2];refine qLB (nG (H.isT h) (H.isT h')) (fJ (tZ H.hM) _ (fun a ha=>by rw[yQ];exact hw a ha)) fun q hq=>?_;rw[iL (by rw[(H.isT h).1];exact hq),H.at h hq,H.at h' (kU H.hM u hq h.1),qFJ H.hM hw hq,iU]
theorem SynM.oneR (H:SynM d S n k m el):Rep d k m el 0 []:=⟨fun a ha=>by simp at ha,H.pos,H.one⟩
theorem SynM.imR (H:SynM d S n k m el){a:Nat}(ha:a<k):Rep d k m el (S.images.getD a 0) [a]:=by
 obtain⟨h1,h2⟩:=H.im a ha;refine⟨fun b hb=>by simp at hb;omega,h1,?_⟩;rw[h2];show _=wK (List.range m) ((tH (minD d k) m k).getD a []);rw[kI (tZ H.hM _ (uP (by rw[yQ];exact ha)))]
theorem SynM.eqR (H:SynM d S n k m el){x y:Nat}{u v:List Nat}(h:Rep d k m el x u)(h':Rep d k m el y v)(hc:∀p z,xM k p->xM k z->acc d (st0 d) (p++u++z)=acc d (st0 d) (p++v++z)):x=y:=by
 refine rX H.nd h.2.1 h'.2.1 (qLB (H.isT h) (H.isT h') fun q hq=>?_);rw[H.at h hq,H.at h' hq];have hm:=H.mN;obtain⟨p,hp,rfl⟩:=qKT H.hd (i:=q) (by rw[<-hm];exact hq);refine qRJ H.hd (by rw[<-hm];exact kU H.hM u hq h.1) (by rw[<-hm];exact kU H.hM v hq h'.1) fun z hz=>?_
 have key:∀t,xM k t->acc (minD d k) (run (minD d k) (run (minD d k) 0 p) t) z=acc d (st0 d) (p++t++z):=fun t ht=>by
  rw[<-qEE H.hd (vM (vM hp ht) hz)];unfold acc;rw[iU,iU]
 rw[key u h.1,key v h'.1];exact hc p z hp hz
theorem SynM.acR (H:SynM d S n k m el){x:Nat}{u:List Nat}(h:Rep d k m el x u):S.accept.getD x false=acc d (st0 d) u:=by
 rw[H.ac x h.2.1,H.at h H.hM.n1,<-qEE H.hd h.1];rfl
theorem SynM.comm (H:SynM d S n k m el)(hc:∀p u v z,xM k p->xM k u->xM k v->xM k z->acc d (st0 d) (p++(u++v)++z)=acc d (st0 d) (p++(v++u)++z)):kP (tabI S.tab)=true:=by
 rw[kP,List.all_eq_true];intro x hx;have h1:x<el.length:=by rw[<-H.len,<-yX];exact List.mem_range.1 hx
 refine qDH fun y hy=>?_;have h0:y<el.length:=by rw[<-H.len,<-yX];exact hy
 obtain⟨u,hu,e⟩:=H.re x h1;obtain⟨v,hv,e'⟩:=H.re y h0;exact H.eqR (H.mulR ⟨hu,h1,e⟩ ⟨hv,h0,e'⟩) (H.mulR ⟨hv,h0,e'⟩ ⟨hu,h1,e⟩) fun p z hp hz=>hc p u v z hp hu hv hz
theorem SynM.autRow (H:SynM d S n k m el){x a:Nat}(hx:x<el.length)(ha:a<k):ent (autI S.I).next x a=((entN (tabI S.tab) x (S.images.getD a 0):Nat):Int):=by
 have hl:S.images.length=k:=by rw[H.hS.lens.2.2.2.2.2.1,yQ]
 have e1:(S.I).images=S.images.map fun(x:Nat)=>(x:Int):=rfl;have e2:(S.I).tab=tabI S.tab:=rfl;unfold ent;rw[fX (by rw[e2,yX,H.len];exact hx),e1,List.map_map,xR (x:=0) (by rw[hl];exact ha)];show ((S.I).tab.getD x []).getD (((S.images.getD a 0:Nat):Int).toNat) 0=_;rw[Int.toNat_natCast,e2,entN,Int.toNat_of_nonneg]
 ·rfl
 rw[lR];omega
theorem SynM.autV (H:SynM d S n k m el):VD (autI S.I) el.length k:=by
 have L:=H.hS.lens;have e2:(S.I).tab=tabI S.tab:=rfl
 have hr:∀x,x<el.length->((autI S.I).next.getD x []).length=k:=fun x hx=>by
  rw[fX (by rw[e2,yX,H.len];exact hx),List.length_map];show (S.images.map _).length=k;rw[List.length_map,L.2.2.2.2.2.1,yQ]
 refine⟨?_,H.hd.k1,H.hd.k6,?_,H.pos,by have:=H.lim;omega,?_,by show (0:Int)<=0;omega,by have:=H.pos;show (0:Int)<_;omega,hr,fun x a hx ha=>?_,fun x a hx ha=>?_⟩
 ·show ((S.k:Nat):Int)=k
  rw[L.1,yQ]
 ·show S.accept.length=_
  rw[L.2.2.2.2.2.2.1,H.len]
 ·rw[pQ,e2,yX,H.len]
 ·rw[H.autRow hx ha];omega
 rw[H.autRow hx ha];have:=(H.mul x _ hx (H.im a ha).1).1;omega
theorem SynM.autRun (H:SynM d S n k m el):∀(u v:List Nat) (x:Nat),xM k v->Rep d k m el x u->Rep d k m el (run (autI S.I) x v) (u++v)
 | u,[],x,_,h=>by rw[List.append_nil];exact h
 | u,a::v,x,hv,h=>by
  have ha:a<k:=hv a (by simp)
  have e:nx (autI S.I) x a=entN (tabI S.tab) x (S.images.getD a 0):=by
   unfold nx entN;rw[show Go.Proofs.Ytobakifdllameaa.ent (autI S.I).next x a=_ from H.autRow h.2.1 ha,Int.toNat_natCast];rfl
  have h1:=H.mulR h (H.imR ha);have h2:=H.autRun (u++[a]) v _ (fun b hb=>hv b (by simp[hb])) h1;rw[List.append_assoc]at h2;show Rep d k m el (run (autI S.I) (nx (autI S.I) x a) v) _;rw[e];exact h2
theorem SynM.autAcc (H:SynM d S n k m el){u:List Nat}(hu:xM k u):acc (autI S.I) (st0 (autI S.I)) u=acc d (st0 d) u:=by
 have h:=H.autRun [] u 0 hu H.oneR;exact H.acR h
theorem SynM.aut (H:SynM d S n k m el):pS (autI S.I) S:=⟨_,k,m,_,H.autV,eR H.hd H.autV (fun w hw=>(H.autAcc hw).symm),H.hM,H.hm,H.hS⟩
theorem SynM.shaped (H:SynM d S n k m el):tV S.I=true:=by
 have L:=H.hS.lens;have k1:=H.hd.k1;have k6:=H.hd.k6;have eT:(S.I).tab.length=el.length:=by show (tabI S.tab).length=_;rw[yX,H.len]
 have ek:S.k=k:=by rw[L.1,yQ]
 have hA:(1<=(S.I).k/\(S.I).k<=6/\1<=(S.I).tab.length/\(S.I).tab.length<=400)/\(S.I).words.length=(S.I).tab.length/\(S.I).accept.length=(S.I).tab.length/\(S.I).plus.length=(S.I).tab.length/\((S.I).images.length:Int)=(S.I).k:=by
  have h1:(S.I).k=(k:Int):=by show ((S.k:Nat):Int)=k;rw[ek]
  have h2:(S.I).words.length=el.length:=by show (S.words.map _).length=_;rw[List.length_map,L.2.2.2.2.1,H.len]
  have h3:(S.I).accept.length=el.length:=by show S.accept.length=_;rw[L.2.2.2.2.2.2.1,H.len]
  have h4:(S.I).plus.length=el.length:=by show S.plus.length=_;rw[L.2.2.2.2.2.2.2,H.len]
  have h5:(S.I).images.length=k:=by show (S.images.map _).length=_;rw[List.length_map,L.2.2.2.2.2.1,yQ]
  have:=H.lim;have:=H.pos;rw[h1,h2,h3,h4,h5,eT];refine⟨⟨by omega,by omega,by omega,by omega⟩,rfl,rfl,rfl,rfl⟩
 rw[eH hA]
 ·rw[inR,List.all_eq_true]
  intro z hz;obtain⟨y,hy,rfl⟩:=List.mem_map.1 (show z∈S.images.map fun(x:Nat)=>(x:Int) from hz);obtain⟨a,ha,rfl⟩:=List.getElem_of_mem hy;have h8:a<k:=by rw[<-yQ (minD d k) m k,<-L.2.2.2.2.2.1];exact ha
  have:=(H.im a h8).1;rw[zK ha]at this;rw[eT];exact decide_eq_true (by omega)
 intro x hx;rw[eT]at hx;have h6:(S.I).tab.getD x []=(S.tab.getD x []).map fun(y:Nat)=>(y:Int):=nK _ _;have h7:x<S.tab.length:=by rw[H.len];exact hx
 have h0:(S.tab.getD x []).length=el.length:=by rw[<-H.len];exact L.2.2.2.1 _ (uP h7)
 rw[h6,List.length_map,eT];refine⟨h0,?_⟩;rw[inR,List.all_eq_true];intro z hz;obtain⟨y,hy,rfl⟩:=List.mem_map.1 hz;obtain⟨j,hj,rfl⟩:=List.getElem_of_mem hy;have h1:=(H.mul x j hx (by rw[<-h0];exact hj)).1;rw[qBH,zK hj]at h1;exact decide_eq_true (by omega)
theorem SynM.valid (H:SynM d S n k m el):qQ S.I:=⟨H.shaped,S,H.aut,rfl⟩
end
open Go.Maps Go.RowKit
def powN (t:List (List Int))(x:Nat):Nat->Nat
 | 0=>0
 | i+1=>entN t (powN t x i) x
def uG (t:List (List Int))(x L:Nat):List Nat:=(List.range L).map (powN t x)
theorem wR (t:List (List Int))(x L:Nat):(uG t x L).length=L:=by simp[uG]
theorem iW (t:List (List Int))(x L:Nat):uG t x L++[powN t x L]=uG t x (L+1):=by rw[uG,uG,List.range_succ,List.map_append];rfl
theorem jX {t:List (List Int)}{x L i:Nat}(h:i<L):(uG t x L).getD i 0=powN t x i:=by
 rw[zK (by rw[wR];exact h)];simp[uG]
theorem qAD {t:List (List Int)}(hs:Shape t){x:Nat}(hx:x<t.length):∀i,powN t x i<t.length
 | 0=>hs.pos
 | i+1=>pO hs (qAD hs hx i) hx
def PowR (t:List (List Int))(x L j:Nat):Prop:=(uG t x L).Nodup/\j<L/\powN t x L=powN t x j
theorem qJT {t:List (List Int)}{x L i j:Nat}(h:(uG t x L).Nodup)(hi:i<L)(hj:j<L)(e:powN t x i=powN t x j):i=j:=by
 have e1:(uG t x L)[i]'(by rw[wR];exact hi)=(uG t x L)[j]'(by rw[wR];exact hj):=by simpa [uG] using e
 exact(List.getElem_inj h).1 e1
theorem PowR.le {t:List (List Int)}{x L j L' j':Nat}(h:PowR t x L j)(h':PowR t x L' j'):L'<=L:=by
 rcases Nat.lt_or_ge L L' with h1|h1
 ·have:=qJT h'.1 h1 (by have:=h.2.1;omega) h.2.2
  have:=h.2.1;omega
 exact h1
theorem PowR.eq {t:List (List Int)}{x L j L' j':Nat}(h:PowR t x L j)(h':PowR t x L' j'):L=L'/\j=j':=by
 have e:L=L':=Nat.le_antisymm (h'.le h) (h.le h');subst e;exact⟨rfl,qJT h.1 h.2.1 h'.2.1 (h.2.2.symm.trans h'.2.2)⟩
theorem qJS {t:List (List Int)}{x L:Nat}(h:(uG t x L).Nodup)(hn:powN t x L ∉ uG t x L):(uG t x (L+1)).Nodup:=by
 rw[<-iW,List.nodup_append];exact⟨h,by simp,fun a ha b hb=>by rw[List.mem_singleton]at hb;subst hb;exact fun e=>hn (e ▸ ha)⟩
theorem fQ {t:List (List Int)}(hs:Shape t){x L:Nat}(hx:x<t.length)(h:(uG t x L).Nodup):L<=t.length:=by
 have:=qU h (n:=t.length) (fun q hq=>by obtain⟨i,_,rfl⟩:=List.mem_map.1 hq;exact qAD hs hx i)
 rwa [wR]at this
def vO (l:List Nat):List Int:=l.map fun(x:Nat)=>(x:Int)
theorem qKM {l:List Nat}{x:Nat}:(x:Int)∈vO l↔x∈l:=by
 constructor
 ·intro h
  obtain⟨y,hy,e⟩:=List.mem_map.1 h;have:y=x:=by omega
  rw[<-this];exact hy
 intro h;exact List.mem_map_of_mem h
theorem qKN {l:List Nat}{x:Nat}:(vO l).idxOf (x:Int)=l.idxOf x:=by
 induction l with
 | nil=>rfl
 | cons a l ih =>
  rw[vO,List.map_cons,List.idxOf_cons,List.idxOf_cons,<-vO,ih];by_cases h:a=x
  ·subst h;simp
  have h2:¬(a:Int)=(x:Int):=by omega
  have e1:((a:Int) == (x:Int))=false:=by rw[beq_eq_false_iff_ne];exact h2
  have e2:(a == x)=false:=by rw[beq_eq_false_iff_ne];exact h
  rw[e1,e2]
def qTM (t:List (List Int))(x:Nat)(w:World)(e:Ending)(w':World):Prop :=
 ∃L j sa sc,PowR t x L j/\e=.returned (.tuple #[.slice sa L sc,.int .i64 (j:Int)])/\w'.ownsRow w.heap.size 3 1 (.slice sa L sc) L (nats (uG t x L))/\w.grownBy w' none
theorem qBV (B:Nat)(w:World)(b off cap:Nat)(RB RO RC:Nat->Nat)(t:List (List Int))(x:Nat)(hB:B<=w.heap.size)(hq:Sq B w t b off RB RO RC)(hs:Shape t)(a6:t.length<=cap)(a5:cap<=9223372036854775807)(hx:x<t.length):Calls Try.prog 34 #[.slice (some ⟨b,off,none⟩) t.length cap,.int .i64 (x:Int)] w (qTM t x w):=by
 have e7:=@run_makeMap Try.prog;have d5:=hs.le;obtain⟨n,hN⟩:=Nm t.length;obtain⟨HN,HS,HQ⟩:=K3 hN hs hq;rw[<-hN]at a6 hx d5⊢;obtain⟨mb,H5⟩:=Nm w.heap.size;obtain⟨w1,H1⟩:=Nm (w.alloc (.map #[] 0));have c8:w.grownBy w1 none:=by rw[H1];exact Ga w _ none
 have b8:w1.heap.size=mb+1:=by rw[H1,zX,H5]
 have d0:Hid (qB w1 mb 0 (vO (uG t x 0))):=Kh (by rw[H1,H5];exact qB.made w);obtain⟨e3,d8,H7,e8⟩:=K4 c8 H1 H5 b8;clear hs hq hN c8 H1 H5 b8;go_enter Try.func34,Try.ntmps34;go_upto_region 2 with fail;rw[<-d8.out,<-H7.out];go_wp2
 go_loopg [7,8,9,10] (n+1) (fun gh a7 a8 a9 a10 wr=>∃(L:Nat) (sa:Option Addr) (sc:Nat),gh+L=n+1/\a7=.slice sa L sc/\a8=.int .i64 ((powN t x L:Nat):Int)/\(uG t x L).Nodup/\wr.ownsRow (mb+1) 3 1 (.slice sa L sc) L (nats (uG t x L))/\qB wr mb L (vO (uG t x L))/\w.grownBy wr none)
 case atStart=>exact⟨0,none,0,rfl,rfl,rfl,by simp[uG],by simpa [uG,nats] using World.ownsRow_nil _ _ _ _,d0.out,e3.out⟩
 clear d0;obtain⟨L,sa,sc,a2,rfl,rfl,H2,h4,h3,H6⟩:=hrel;obtain⟨d2,e0,HO,b4,b6⟩:=K5 a2 H2 h4 h3 H6;have d3:=H6.size;have hp:=qAD HS.out (by rw[<-HN.out];exact hx) L;rw[<-HN.out]at hp;have h6:=h3.lookup (x:=((powN t x L:Nat):Int)) ⟨by omega,by omega⟩;have hL:=fQ HS.out (by rw[<-HN.out];exact hx) H2;rw[<-HN.out]at hL;have b3:Hid (powN t x (L+1)=entN t (powN t x L) x):=Kh rfl;have b1:=Kh (iW t x L);have h0:((powN t x L:Nat):Int)∈vO (uG t x L)↔powN t x L∈uG t x L:=qKM;have h7:(vO (uG t x L)).idxOf ((powN t x L:Nat):Int)=(uG t x L).idxOf (powN t x L):=qKN;rw[h7]at h6;by_cases hin:powN t x L∈uG t x L
 ·rw[if_pos (h0.2 hin),decide_eq_true (h0.2 hin)]at h6
  obtain⟨j,hj⟩:=Nm ((uG t x L).idxOf (powN t x L));rw[<-hj]at h6
  have HP:Hid (PowR t x L j):=Kh (by
   have a1:j<(uG t x L).length:=(by rw[hj];exact List.idxOf_lt_length_of_mem hin);have c7:j<L:=(by rw[wR]at a1;exact a1);refine⟨e0.out,c7,?_⟩;have e1:=List.getElem_idxOf (x:=powN t x L) (xs:=uG t x L) (List.idxOf_lt_length_of_mem hin);rw[<-jX (t:=t) (x:=x) c7,zK a1];simp only[hj]
   exact e1.symm)
  obtain⟨p,H0⟩:=Nm (powN t x L);rw[<-H0]at h6⊢;clear a2 H2 h4 h3 H6 hp hL h0 h7 hin hj H0 d3;go_wp2;refine bodyPost_ret (v:=.tuple #[.slice sa L sc,.int .i64 (j:Int)]) (by simp[results,Try.results34,go_sem]) rfl ?_;exact⟨L,j,sa,sc,HP.out,rfl,wT HO.out (by have:=H7.out;omega),b6.out⟩
 rw[if_neg (fun h=>hin (h0.1 h)),decide_eq_false (fun h=>hin (h0.1 h))]at h6;have H8:Hid (((powN t x L:Nat):Int) ∉ vO (uG t x L)):=Kh (fun h=>hin (h0.1 h));have c9:=Kh (qJS H2 hin);have b0:Hid (vO (uG t x L)++[((powN t x L:Nat):Int)]=vO (uG t x (L+1))):=Kh (by rw[<-iW];simp[vO]);have d7:=fQ HS.out (by rw[<-HN.out];exact hx) c9.out;rw[<-HN.out]at d7;obtain⟨l,hl⟩:=Nm (vO (uG t x L));have c6:l.length=L:=by rw[hl];simp[vO,wR]
 obtain⟨p,H0⟩:=Nm (powN t x L);rw[<-hl]at b4 H8 b0;rw[<-H0]at h6 H8 b0 hp b3 b1⊢;have d1:=Kh c6;have e9:=Kh H0;clear a2 H2 h4 h3 H6 hL h0 h7 hin hl c6 H0;go_upto_region 9 with (first|(at_mapUpdate;refine lS rfl _ _ _ rfl mb L l (p:Int) rfl rfl (by rw[d1.out];rfl) b4.out (by unfold maxLen;omega) ⟨by omega,by omega⟩ H8.out (by rw[d1.out];omega) ?_;intro w5 h1 a4)|fail);rw[b0.out]at h1;have h9:w.grownBy w5 none:=yM b6.out a4 (by show _<=mb;have:=H7.out;omega)
 have c4:(Value.slice sa L sc).ownBlock=none\/(Value.slice sa L sc).ownBlock≠some mb:=by
  rcases hv:(Value.slice sa L sc).ownBlock with _|k
  ·exact .inl rfl
  refine .inr (fun e=>?_);have e:k=mb:=Oj e;have:=(HO.out.lt k hv).1;omega
 have c0:=HO.out.kept a4 c4;have e4:=h9.size;obtain⟨b2,b5,H3⟩:=K3 c0 h1 h9;have d6:mb+1<=w5.heap.size:=by have:=h1.lt;omega
 clear h1 a4 h9 c0 h6 b4 H8 HO b6 c4;go_upto_region 4 with (first|(at_builtin;refine app1 rfl (.tmp 32) (.tmp 34) _ rfl yJ (mb+1) _ L _ rfl b2.out _ rfl rfl ?c1 ?c2 ?c3 ?_)|fail)
 case c1=>unfold maxLen;omega
 case c2=>omega
 case c3=>exact d6
 intro sa6 sc6 w6 h2 a3 _;have h5:∀q,(Value.slice sa L sc).ownBlock=some q->w5.heap.size<=q\/mb+1<=q:=fun q hq=>.inr (b2.out.lt q hq).1;have h8:w.grownBy w6 none:=zC H3.out a3 (fun q e=>by rcases h5 q e with h|h<;>(have:=H7.out;omega));have c5:=(b5.out.kept a3 (fun e=>by rcases h5 mb e with h|h<;>(have:=b5.out.lt;omega)));have b9:nats (uG t x L)++[.int .i64 (p:Int)]=nats (uG t x (L+1)):=by rw[<-b1.out];simp[nats]
 rw[b9]at h2;have H4:=HQ.out.kept h8 (by simp);have chd:=H4.hd p (by rw[<-HN.out];exact hp);have cel:=H4.el p x (by rw[<-HN.out];exact hp) (by rw[<-HN.out];exact hx);have a0:=H4.cap p (by rw[<-HN.out];exact hp);have H9:=a0.1;have d4:RC p<=9223372036854775807:=by have:=a0.2;unfold maxLen at this;omega
 rw[<-HN.out]at chd H9;rw[<-b3.out]at cel;have e6:(p:Int)<n:=(by omega);have e5:(x:Int)<n:=(by omega);obtain⟨d9,b7,e2⟩:=K3 h2 h8 c5;obtain⟨y,hy⟩:=Nm (powN t x (L+1));rw[<-hy]at cel;have HY:=Kh hy;clear h2 a3 h5 h8 c5 b9 H4 a0 hy b3 b1 b5 b2 H3;go_wp2;go_roundg (n+1-(L+1))
 case measure=>have:=d2.out;omega
 exact⟨L+1,sa6,sc6,by have:=d2.out;omega,rfl,by rw[HY.out],c9.out,d9.out,e2.out,b7.out⟩
end Go.Proofs.Ytobakifdllameaa
namespace Go.Proofs.Ytobakifdllameaa
open Go.RowKit
structure CntV where
 idx:List Int
 per:List Int
 acc:List Bool
def vQ (idx per:List Int):Nat->Option Nat
 | 0=>some 1
 | a+1=>match vQ idx per a with
  | none=>none
  | some c=>if 2000<idx.getD a 0\/2000<per.getD a 0\/2000<c*(idx.getD a 0+per.getD a 0).toNat then none else some (c*(idx.getD a 0+per.getD a 0).toNat)
def fG (idx per:List Int):Int:=match vQ idx per idx.length with
 | some c=>c
 | none=>0
def dB (idx per:List Int):Bool:=(vQ idx per idx.length).isSome
def PosC (idx per:List Int):Prop:=∀a,a<idx.length->0<=idx.getD a 0/\1<=per.getD a 0
theorem gK {idx per:List Int}{a c i p:Nat}(h:vQ idx per a=some c)(hi:idx.getD a 0=(i:Int))(hp:per.getD a 0=(p:Int)):vQ idx per (a+1)=if 2000<i\/2000<p\/2000<c*(i+p) then none else some (c*(i+p)):=by
 rw[vQ,h];simp only[hi,hp];rw[show ((i:Int)+(p:Int)).toNat=i+p by omega];by_cases h1:2000<i\/2000<p\/2000<c*(i+p)
 ·rw[if_pos h1,if_pos (by omega)]
 rw[if_neg h1,if_neg (by omega)]
theorem gL {idx per:List Int}{a:Nat}(h:vQ idx per a=none):∀b,vQ idx per (a+b)=none
 | 0=>h
 | b+1=>by rw[Nat.add_succ,vQ,gL h b]
theorem pZ {idx per:List Int}:∀ {a c:Nat},vQ idx per a=some c->c<=2000
 | 0,c,h=>by rw[vQ]at h;have:=Oj h;omega
 | a+1,c,h=>by
  rw[vQ]at h
  split at h
  ·cases h
  ·split at h
   ·cases h
   ·have:=Oj h;omega
theorem qDD {idx per:List Int}{a:Nat}(h:vQ idx per a=none)(ha:a<=idx.length):fG idx per=0/\dB idx per=false:=by
 have:=gL h (idx.length-a);rw[show a+(idx.length-a)=idx.length by omega]at this;exact⟨by rw[fG,this],by rw[dB,this];rfl⟩
theorem dA {idx per:List Int}{c:Nat}(h:vQ idx per idx.length=some c):fG idx per=c/\dB idx per=true :=
 ⟨by rw[fG,h],by rw[dB,h];rfl⟩
def posB (idx per:List Int):Bool:=(List.range idx.length).all fun a=>decide (0<=idx.getD a 0/\1<=per.getD a 0)
theorem fR {idx per:List Int}:posB idx per=true↔PosC idx per:=by
 rw[posB,List.all_eq_true];exact⟨fun h a ha=>of_decide_eq_true (h a (List.mem_range.2 ha)),fun h a ha=>decide_eq_true (h a (List.mem_range.1 ha))⟩
def cntE (c:CntV):Int:=if c.idx.length<1\/6<c.idx.length then 1 else if c.per.length≠c.idx.length then 22 else if posB c.idx c.per=false then 22 else if dB c.idx c.per=false then 3 else if (c.acc.length:Int)≠fG c.idx c.per then 22 else 0
structure CntOk (c:CntV):Prop where
 k1:1<=c.idx.length
 k6:c.idx.length<=6
 pl:c.per.length=c.idx.length
 pos:PosC c.idx c.per
 size:vQ c.idx c.per c.idx.length=some c.acc.length
theorem kY {c:CntV}:cntE c=0↔CntOk c:=by
 unfold cntE;constructor
 ·intro h
  split at h
  ·cases h
  split at h
  ·cases h
  split at h
  ·cases h
  rename_i h1 h2 h3
  split at h
  ·cases h
  split at h
  ·cases h
  rename_i h4 h5
  refine⟨by omega,by omega,by omega,fR.1 (by simpa using h3),?_⟩;have h5:(c.acc.length:Int)=fG c.idx c.per:=by simpa using h5
  unfold dB at h4;unfold fG at h5;rcases hc:vQ c.idx c.per c.idx.length with _|x
  ·rw[hc]at h4;simp at h4
  rw[hc]at h5;simp only at h5;congr 1;omega
 intro h;have h4:=dA h.size;rw[if_neg (by have:=h.k1;have:=h.k6;omega),if_neg (by have:=h.pl;omega),if_neg (by rw[fR.2 h.pos];simp),if_neg (by rw[h4.2];simp),if_neg (by rw[h4.1];simp)]
def iQ (B:Nat)(w:World)(v:Value)(c:CntV):Prop:=∃vi vp va,v=.agg #[vi,vp,va]/\Row B w vi (ints c.idx)/\Row B w vp (ints c.per)/\Row B w va (bls c.acc)
theorem iQ.kept {B:Nat}{w w':World}{v:Value}{c:CntV}(h:iQ B w v c)(hg:w.grownBy w' none):iQ B w' v c:=by
 obtain⟨vi,vp,va,rfl,h1,h2,h3⟩:=h;exact⟨vi,vp,va,rfl,h1.kept hg (by simp),h2.kept hg (by simp),h3.kept hg (by simp)⟩
theorem vS {w:World}{p e:Nat}{x0 x1 x2:Value}{m:Nat×Nat}(h:w.heap[p]?=some (.cells #[x0,x1,x2] e m)):w.cell? ⟨p,0,none⟩=some x0/\w.cell? ⟨p,1,none⟩=some x1/\w.cell? ⟨p,2,none⟩=some x2:=by
 have c0:=zG h 0;have c1:=zG h 1;have c2:=zG h 2;exact⟨by simpa using c0,by simpa using c1,by simpa using c2⟩
theorem uF.boolQ {w:World}{b off:Nat}{bs:List Bool}(h:uF w b off (bls bs))(i:Nat)(hi:i<bs.length):w.cell? ⟨b,off+i,none⟩=some (.bool (bs.getD i false)):=by
 rw[h.map (f:=Value.bool) i hi,List.getD_eq_getElem?_getD,List.getElem?_eq_getElem hi];rfl
theorem fU {c r:Nat}(h1:c<=2000)(h2:r<=4000):IntKind.i64.wrap ((c:Int)*(r:Int))=((c*r:Nat):Int)/\wrap64 ((c:Int)*(r:Int))=((c*r:Nat):Int)/\c*r<=8000000:=by
 have h3:=Nat.mul_le_mul h1 h2;have e:(c:Int)*(r:Int)=((c*r:Nat):Int):=by simp
 rw[e];exact⟨wG (by omega),IntWalk.wrap64_in _ (by omega),by omega⟩
end Go.Proofs.Ytobakifdllameaa
