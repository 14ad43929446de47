/- Part 19 of the proof. -/
import Derived.Test.YtobakifdllameaaQb18
import Derived.Lib.OwnBridge
set_option linter.unusedVariables false
set_option linter.unusedSimpArgs false
set_option maxRecDepth 100000
set_option maxHeartbeats 16000000
namespace Go.Proofs.Ytobakifdllameaa
open Go.RowKit
structure GInv (t:List (List Int))(gs made:List Nat)(k:Nat):Prop where
 gen:∀x∈made,Gen t gs x
 all:∀x,x<k->x∈made
 lt:∀g∈gs,g<t.length
 le:gs.length<=k
theorem GInv.add {t:List (List Int)}{gs made:List Nat}{k x y:Nat}(h:GInv t gs made k)(hx:x∈made)(hy:y∈made):GInv t gs (pR made (entN t x y)) k :=
 ⟨fun z hz=>by
  rcases oK.1 hz with hz|rfl
  ·exact h.gen z hz
  ·exact .mul x y (h.gen x hx) (h.gen y hy),fun z hz=>oK.2 (.inl (h.all z hz)),h.lt,h.le⟩
theorem GInv.next {t:List (List Int)}{gs made:List Nat}{k:Nat}(h:GInv t gs made k)(hk:k∈made):GInv t gs made (k+1) :=
 ⟨h.gen,fun x hx=>by
  rcases Nat.lt_succ_iff_lt_or_eq.1 hx with hx|rfl
  ·exact h.all x hx
  ·exact hk,h.lt,by have:=h.le;omega⟩
theorem GInv.new {t:List (List Int)}{gs made:List Nat}{k:Nat}(h:GInv t gs made k)(hk:k<t.length):GInv t (gs++[k]) (pR made k) (k+1) :=
 ⟨fun z hz=>by
  rcases oK.1 hz with hz|rfl
  ·exact(h.gen z hz).mono (fun g hg=>List.mem_append_left _ hg)
  ·exact .base _ (by simp),fun x hx=>by
  rw[oK]
  rcases Nat.lt_succ_iff_lt_or_eq.1 hx with hx|rfl
  ·exact .inl (h.all x hx)
  ·exact .inr rfl,fun g hg=>by
  rcases List.mem_append.1 hg with hg|hg
  ·exact h.lt g hg
  ·simp at hg;omega,by have:=h.le;simp;omega⟩
def qOT (w:World)(t:List (List Int))(e:Ending)(w':World):Prop :=
 ∃(sa:Option Addr) (sc:Nat) (gs:List Nat),e=.returned (.slice sa gs.length sc)/\Row w'.heap.size w' (.slice sa gs.length sc) (nats gs)/\(∀g∈gs,g<t.length)/\(∀x,x<t.length->Gen t gs x)/\w.grownBy w' none
structure SG (w w':World)(bi bm g:Nat)(t:List (List Int))(gv mv:Value)(bs:List Bool)(gs made:List Nat)(k:Nat):Prop where
 sp:Sp w w' bi bm g t.length mv bs made
 own:w'.ownsRow w.heap.size 3 1 gv gs.length (nats gs)
 ap:qOZ gv mv
 inv:GInv t gs made k
theorem SG.add {w w1 w2:World}{bi bm g:Nat}{t:List (List Int)}{gv mv a9:Value}{bs a8:List Bool}{gs made:List Nat}{k x y:Nat}(h:SG w w1 bi bm g t gv mv bs gs made k)(hx:x∈made)(hy:y∈made)(h1:Sp w w2 bi bm g t.length a9 a8 (pR made (entN t x y)))(hk:Keep w1 w2 bm g mv a9):SG w w2 bi bm g t gv a9 a8 gs (pR made (entN t x y)) k :=
 ⟨h1,(hk.gens h.sp h.own h.ap).1,(hk.gens h.sp h.own h.ap).2,h.inv.add hx hy⟩
theorem qFB {l:List Nat}{i:Nat}(hi:i<l.length):l.getD i 0∈l:=by
 simp only[List.getD,List.getElem?_eq_getElem hi];exact List.getElem_mem hi
theorem qAO (B:Nat)(w:World)(v:Value)(t:List (List Int))(hB:B<=w.heap.size)(h:Mat B w v t)(hs:Shape t):Calls Try.prog 99 #[v] w (qOT w t):=by
 obtain⟨b,off,cap,RB,RO,RC,rfl,g4,f4,hq⟩:=h.sq hs;have f8:cap<=9223372036854775807:=by unfold maxLen at f4;omega
 have e7:=hs.pos;have b5:=hs.le;have HQ:=Kh hq;have HS:=Kh hs;clear hq hs h;go_enter Try.func99,Try.ntmps99;go_wp2_with (at_make;refine qC rfl _ _ _ rfl wF rfl _ _ _ _ t.length rfl rfl rfl rfl ?b1 ?b2 ?_;(case b1=>omega);(case b2=>(unfold maxLen;omega));intro w1 a3 b6 c0);rw[<-qM]at a3;rw[zU]at a3 c0;have d3:=zB (heap_alloc_new w (.cells #[.slice none 0 0] 22)) b6;have c8:=zH (Ga w (.cells #[.slice none 0 0] 22) none) b6
 have d5:Sp w (w1.alloc (.cells #[.slice (some ⟨w.heap.size+1,0,none⟩) t.length t.length] 26)) w1.heap.size w.heap.size (w.heap.size+1) t.length (.slice none 0 0) (List.replicate t.length false) []:=by
  have hA:=Ga w1 (.cells #[.slice (some ⟨w.heap.size+1,0,none⟩) t.length t.length] 26) none;refine⟨heap_alloc_new w1 _,zB d3 hA,World.ownsRow_nil _ _ _ _,⟨none,0,rfl⟩,a3.kept hA (by simp),by simp,by simp[List.count_replicate],fun x hx=>?_,by simp,⟨by omega,Nat.le_refl _,by omega⟩,zH c8 hA⟩;simp[List.getD,List.getElem?_replicate,hx]
 have d8:=Kh d5;clear d5 d3 c8 a3 b6
 go_loopg [3,7,18] t.length (fun g gv mul i wr=>∃(k p:Nat) (sa:Option Addr) (sc:Nat) (gs made:List Nat) (mv:Value) (bs:List Bool),g+k=t.length/\gv=.slice sa gs.length sc/\mul=.int .i64 p/\i=.int .i64 k/\p<=made.length /\
   SG w wr w1.heap.size w.heap.size (w.heap.size+1) t (.slice sa gs.length sc) mv bs gs made k)
 case atStart=>exact⟨0,0,none,0,[],[],.slice none 0 0,_,rfl,rfl,rfl,rfl,Nat.le_refl _,d8.out,World.ownsRow_nil _ _ _ _,fun k hk=>by simp[Value.ownBlock]at hk,⟨by simp,fun x hx=>absurd hx (by omega),by simp,by simp⟩⟩
 clear d8 c0;obtain⟨k,p,sa,sc,gs,made,mv,bs,d0,rfl,rfl,rfl,hp,h6⟩:=hrel;have HG:=Kh d0;have ST:=Kh h6;clear d0 h6;have f0:=ST.out.sp.made_le;have ci:=zG ST.out.sp.box1 0;simp only[List.getElem_toArray,List.getElem_cons_zero]at ci;by_cases hk:k<t.length
 ·have g1:(k:Int)<t.length:=by omega
  have ck:=ST.out.sp.arr.bool k (by rw[ST.out.sp.len];exact hk);have g3:=ST.out.inv.le;cases hbk:bs.getD k false
  ·rw[hbk]at ck
   have g5:=Kh hbk;clear hbk;have h0:=ST.out.own;obtain⟨wo,rfl⟩:=Nm (wr:World);go_wp2_with (at_builtin;refine jV rfl _ _ _ rfl yJ w.heap.size _ gs.length (nats gs) rfl h0 _ rfl rfl ?c1 ?c2 ?c3 ?_)
   case c1=>unfold maxLen;omega
   case c2=>omega
   case c3=>exact ST.out.sp.fr.size
   intro sa1 sc1 w2 h7 H5 f3 a0
   have h5:Hid (Sp w w2 w1.heap.size w.heap.size (w.heap.size+1) t.length mv bs made/\qOZ (.slice sa1 (gs.length+1) sc1) mv):=by
    have S:=ST.out.sp;have d4:=ST.out.ap;have n1:=zV h0 S.box1 (by decide);have n2:=zV h0 S.box2 (by decide)
    have n3:(Value.slice sa gs.length sc).ownBlock≠some (w.heap.size+1):=by
     obtain⟨cur,rest,hh,_⟩:=S.arr;exact zV h0 hh (by decide)
    refine⟨⟨zB S.box1 H5 n1,zB S.box2 H5 n2,jE S.own (fun q hq=>H5.block q (S.own.lt q hq).2 (fun e=>d4 q e.symm hq)),S.shape,S.arr.kept H5 n3,S.len,S.cnt,S.mem,S.lt,S.lo,zC S.fr H5 (fun x e=>(h0.lt x e).1)⟩,fun q hq=>?_⟩;rcases a0 with e|⟨_,e⟩
    ·rw[e]at hq;exact d4 q hq
    intro e6;have:=e q hq;have:=(S.own.lt q e6).2;omega
   have e0:=Kh h7;clear h0 h7 H5 a0 ci ck;go_wp2_with fail;refine(qEG w w2 w1.heap.size w.heap.size (w.heap.size+1) t.length k mv bs made hk b5 h5.out.1).mono ?_;rintro e w3 ⟨rfl,bs3,mv3,H9,h8⟩
   have H8:SG w w3 w1.heap.size w.heap.size (w.heap.size+1) t (.slice sa1 (gs.length+1) sc1) mv3 bs3 (gs++[k]) (pR made k) (k+1):=by
    have d2:=h8.gens h5.out.1 (show w2.ownsRow w.heap.size 3 1 (.slice sa1 (gs.length+1) sc1) (gs.length+1) (nats (gs++[k])) by rw[qB];exact e0.out) h5.out.2;exact⟨H9,by rw[List.length_append];exact d2.1,d2.2,ST.out.inv.new hk⟩
   have H4:=Kh H8
   have c6:p<=(pR made k).length:=by
    obtain⟨r,hr⟩:=lD made k;rw[hr,List.length_append];omega
   have a1:(gs++[k]).length=gs.length+1:=by simp
   have e1:=Kh a1;clear H9 h8 H8 h5 e0 a1;go_wp2
   go_loopg [7] (t.length-p) (fun g mul wr=>∃(p:Nat) (made:List Nat) (mv:Value) (bs:List Bool),g+p=t.length/\mul=.int .i64 p/\p<=made.length /\
     SG w wr w1.heap.size w.heap.size (w.heap.size+1) t (.slice sa1 (gs.length+1) sc1) mv bs (gs++[k]) made (k+1))
   case atStart=>exact⟨p,_,_,_,by have:=H4.out.sp.made_le;omega,rfl,c6,H4.out⟩
   clear H4 c6;obtain⟨p,made,mv,bs,c9,rfl,hp,h6⟩:=hrel;have f6:=Kh c9;have ST:=Kh h6;clear c9 h6;have f0:=ST.out.sp.made_le;have cm:=zG ST.out.sp.box2 0;simp only[List.getElem_toArray,List.getElem_cons_zero]at cm;obtain⟨ma,mc,a2⟩:=ST.out.sp.shape;rw[a2]at cm;by_cases hpm:p<made.length
   ·obtain⟨kb,f2,f1,b3,H3⟩:=xD (a2 ▸ ST.out.sp.own) (by omega)
    subst f2;have e8:(p:Int)<made.length:=(by omega);have cp:=H3.nat p hpm;obtain⟨x,hx⟩:=Nm (made.getD p 0);have a5:x∈made:=(by rw[hx];exact qFB hpm);have H7:=ST.out.sp.lt x a5;rw[<-hx]at cp;unfold maxLen at b3
    have h3:Arr wr kb 3 (nats (made.take (p+1))):=by
     have:=H3;rw[<-List.take_append_drop (p+1) made,fY]at this;exact this.front
    obtain⟨b9,HX,d7⟩:=K3 h3 hx a5;have c5:(made.take (p+1)).length=p+1:=by rw[List.length_take];omega
    have d9:=Kh c5;have e9:=Kh a2;clear a2 h3 hx a5 H3 c5;obtain⟨wo,rfl⟩:=Nm (wr:World);go_wp2
    go_loopg [47] (p+1) (fun g jv wr=>∃(j:Nat) (made':List Nat) (mv':Value) (bs':List Bool),g+j=p+1/\jv=.int .i64 j/\(∃r,made'=made++r)/\Arr wr kb 3 (nats (made.take (p+1))) /\
      SG w wr w1.heap.size w.heap.size (w.heap.size+1) t (.slice sa1 (gs.length+1) sc1) mv' bs' (gs++[k]) made' (k+1))
    case atStart=>exact⟨0,made,mv,bs,rfl,rfl,⟨[],by simp⟩,b9.out,ST.out⟩
    clear cp cm;obtain⟨j,made',mv',bs',d1,rfl,hr,h3,h6⟩:=hrel;obtain⟨f7,ST',HR,h9⟩:=K4 d1 h6 hr h3;clear d1 h6 hr h3;by_cases hj:j<p+1
    ·have cj:=h9.out.nat j (by rw[d9.out];exact hj)
     obtain⟨y,hy⟩:=Nm ((made.take (p+1)).getD j 0);have a4:y∈made:=(by rw[hy];exact List.mem_of_mem_take (qFB (by rw[d9.out];exact hj)));have H6:=ST.out.sp.lt y a4;rw[<-hy]at cj;have g2:(j:Int)<(p:Int)+1:=(by omega);have e5:(x:Int)<t.length:=(by omega);have e3:(y:Int)<t.length:=(by omega);have b8:=HQ.out.kept ST'.out.sp.fr (by simp);have cx:=b8.hd x H7;have cxy:=b8.el x y H7 H6;have e4:=pB HS.out H7 H6;have e2:=pB HS.out H6 H7;have d6:=Kh a4;clear b8 hy a4;go_wp2_with fail;refine(qEG w _ w1.heap.size w.heap.size (w.heap.size+1) t.length (entN t x y) mv' bs' made' e4 b5 ST'.out.sp).mono ?_;rintro e w4 ⟨rfl,bs4,mv4,h4,h2⟩
     have H2:∀z∈made,z∈made':=by
      obtain⟨r,hr⟩:=HR.out;intro z hz;rw[hr];exact List.mem_append_left _ hz
     have H0:=Kh (ST'.out.add (H2 x d7.out) (H2 y d6.out) h4 h2)
     have a7:Hid (∃r,pR made' (entN t x y)=made++r):=by
      obtain⟨r,hr⟩:=HR.out;obtain⟨r2,a8⟩:=lD made' (entN t x y);exact⟨r++r2,by rw[a8,hr,List.append_assoc]⟩
     have b0:Hid (Arr w4 kb 3 (nats (made.take (p+1)))):=by
      obtain⟨r,hr⟩:=a7.out;exact h2.pre ST'.out.sp h4 ⟨made.drop (p+1)++r,by rw[hr,<-List.append_assoc,List.take_append_drop]⟩ h9.out
     have b7:=HQ.out.kept h4.fr (by simp);have cy:=b7.hd y H6;have cyx:=b7.el y x H6 H7;clear b7 h4 h2 cx cxy cj H2;go_wp2_with fail;refine(qEG w _ w1.heap.size w.heap.size (w.heap.size+1) t.length (entN t y x) mv4 bs4 _ e2 b5 H0.out.sp).mono ?_;rintro e w5 ⟨rfl,bs5,mv5,H1,h1⟩
     have H2:∀z∈made,z∈pR made' (entN t x y):=by
      obtain⟨r,hr⟩:=a7.out;intro z hz;rw[hr];exact List.mem_append_left _ hz
     have a6:=Kh (H0.out.add (H2 y d6.out) (H2 x d7.out) H1 h1)
     have c4:Hid (∃r,pR (pR made' (entN t x y)) (entN t y x)=made++r):=by
      obtain⟨r,hr⟩:=a7.out;obtain⟨r2,a8⟩:=lD (pR made' (entN t x y)) (entN t y x);exact⟨r++r2,by rw[a8,hr,List.append_assoc]⟩
     have a9:Hid (Arr w5 kb 3 (nats (made.take (p+1)))):=by
      obtain⟨r,hr⟩:=c4.out;exact h1.pre H0.out.sp H1 ⟨made.drop (p+1)++r,by rw[hr,<-List.append_assoc,List.take_append_drop]⟩ b0.out
     clear H1 h1 cy cyx H2;go_wp2;go_roundg (p+1-(j+1))
     case measure=>have:=f7.out;omega
     exact⟨j+1,_,_,_,by omega,by go_num,c4.out,a9.out,a6.out⟩
    have b4:p+1<=made'.length:=by
     obtain⟨r,hr⟩:=HR.out;rw[hr,List.length_append];omega
    have f9:=ST'.out.sp.made_le;go_wp2;go_roundg (t.length-(p+1))
    case measure=>have:=f6.out;omega
    exact⟨p+1,made',mv',bs',by omega,by go_num,b4,ST'.out⟩
   go_wp2;go_roundg (t.length-(k+1))
   case measure=>have:=HG.out;omega
   exact⟨k+1,p,sa1,sc1,gs++[k],made,mv,bs,by omega,by rw[e1.out],rfl,by go_num,hp,by have:=ST.out;rw[<-e1.out]at this;exact this⟩
  rw[hbk]at ck;have c7:k∈made:=(ST.out.sp.mem k hk).1 hbk;have f5:=Kh c7;clear hbk c7;go_wp2;go_roundg (t.length-(k+1))
  case measure=>have:=HG.out;omega
  exact⟨k+1,p,sa,sc,gs,made,mv,bs,by omega,rfl,rfl,by go_num,hp,ST.out.sp,ST.out.own,ST.out.ap,ST.out.inv.next f5.out⟩
 go_wp2;go_ret;have g0:k=t.length:=by have:=HG.out;omega
 exact⟨sa,sc,gs,rfl,Row.of_owns ST.out.own,ST.out.inv.lt,fun x hx=>ST.out.inv.gen x (ST.out.inv.all x (by omega)),ST.out.sp.fr⟩
theorem qAR (B:Nat)(w:World)(v:Value)(t:List (List Int))(h:Mat B w v t):Calls Try.prog 97 #[v] w fun e w'=>e=.returned (.int .i64 (sZ t))/\w=w':=by
 by_cases h0:0<t.length
 ·obtain⟨b,off,cap,A,C,rfl,H6,H2,hm⟩:=h.some_ h0
  have H5:cap<=9223372036854775807:=by unfold maxLen at H2;omega
  have HM:=Kh hm;clear hm;by_cases h4:400<t.length
  ·go_enter Try.func97,Try.ntmps97
   go_wp2;go_ret;exact⟨yX (qFW h4).symm,rfl⟩
  have H4:((t.length:Int) == 0)=false:=by rw[beq_eq_false_iff_ne];omega
  go_enter Try.func97,Try.ntmps97;go_wp2
  go_loopg [15] t.length (fun g i wr=>∃k:Nat,g+k=t.length/\i=.int .i64 k/\qSG t k/\w=wr)
  case atStart=>exact⟨0,rfl,rfl,fun x hx=>absurd hx (by omega),rfl⟩
  obtain⟨k,hg,rfl,h6,rfl⟩:=hrel;have OK:=Kh h6;clear h6;by_cases hk:k<t.length
  ·have h8:=HM.out.hd k hk
   have h3:=HM.out.row k hk;have h7:=h3.len_le;rw[zK]at h7;unfold maxLen at h7;obtain⟨r,hr⟩:=Nm (t.getD k []);rw[<-hr]at h8 h3 h7;have HG:=Kh hg;have HR:=Kh hr;clear hg hr;by_cases hl:r.length=t.length
   ·have h5:=Kh hl
    have H0:((r.length:Int) != t.length)=false:=by rw[hl];simp
    obtain⟨rb,ro,rc,e,hb,h1,h2,h9⟩:=h3.some_ (by rw[zK];omega);simp only[Value.slice.injEq]at e;obtain⟨eA,-,rfl⟩:=e;rw[eA]at h8;have HA:=Kh eA;have RA:=Kh h9;rw[hl]at h8;rw[zK,hl]at h1;clear eA h9 hl;go_wp2
    go_loopg [26] t.length (fun g j wr'=>∃y:Nat,g+y=t.length/\j=.int .i64 y/\qLH t.length r y/\w=wr')
    case atStart=>exact⟨0,rfl,rfl,fun x hx=>absurd hx (by omega),rfl⟩
    obtain⟨y,hg,rfl,h6,rfl⟩:=hrel;have OKY:=Kh h6;clear h6;by_cases hy:y<t.length
    ·have H1:=RA.out.int y (by rw[h5.out];exact hy)
     obtain⟨z,hz⟩:=Nm (r.getD y 0);rw[<-hz]at H1;have HZ:=Kh hz;have H3:=Kh hg;clear hz hg;by_cases hb1:z<0
     ·go_wp2
      go_ret;exact⟨yX (iD h4 hk (qAS (y:=y) (by rw[<-HR.out,h5.out];exact hy) (by rw[<-HR.out,<-HZ.out];exact .inl hb1))).symm,rfl⟩
     by_cases hb2:(t.length:Int)<=z
     ·go_wp2
      go_ret;exact⟨yX (iD h4 hk (qAS (y:=y) (by rw[<-HR.out,h5.out];exact hy) (by rw[<-HR.out,<-HZ.out];exact .inr hb2))).symm,rfl⟩
     go_wp2;go_roundg (t.length-(y+1))
     case measure=>have:=H3.out;omega
     refine⟨y+1,by omega,by go_num,fun x hx=>?_,rfl⟩;rcases Nat.lt_succ_iff_lt_or_eq.1 hx with hx|rfl
     ·exact OKY.out x hx
     rw[<-HZ.out];omega
    go_wp2;go_roundg (t.length-(k+1))
    case measure=>have:=HG.out;omega
    refine⟨k+1,by omega,by go_num,fun x hx=>?_,rfl⟩;rcases Nat.lt_succ_iff_lt_or_eq.1 hx with hx|rfl
    ·exact OK.out x hx
    rw[<-HR.out,pX];exact⟨h5.out,fun z hz=>OKY.out z (by rw[h5.out]at hz;omega)⟩
   have H0:((r.length:Int) != t.length)=true:=by rw[bne_iff_ne];omega
   have h5:=Kh hl;clear hl;go_wp2;go_ret;exact⟨yX (iD h4 hk (by rw[<-HR.out];exact qIM h5.out)).symm,rfl⟩
  go_wp2;go_ret;exact⟨yX (qIG h4 h0 (fun x hx=>OK.out x (by omega))).symm,rfl⟩
 obtain⟨a,c,e⟩:=h.shape;have ht:t=[]:=List.eq_nil_of_length_eq_zero (by omega);subst ht;subst e;clear h0;go_enter Try.func97,Try.ntmps97;go_wp2;go_ret;exact⟨rfl,rfl⟩
theorem qAE (B:Nat)(w:World)(v:Value)(t:List (List Int))(hB:B<=w.heap.size)(h:Mat B w v t):Calls Try.prog 76 #[v] w fun e w'=>e=.returned (.int .i64 (rX t))/\w.grownBy w' none:=by
 by_cases hE:sZ t=0
 ·have hs:=qEQ hE
  obtain⟨HS,HE,H⟩:=K3 hs hE h;clear hs hE h;go_enter Try.func76,Try.ntmps76;go_wp2_with fail;refine(qAR B w v t H.out).mono ?_;rintro e w' ⟨rfl,rfl⟩;rw[HE.out];go_wp2_with fail;refine(qAO B w v t hB H.out HS.out).mono ?_;rintro e w1 ⟨sa,sc,gs,rfl,h0,h5,h1,h2⟩;obtain⟨HR,h3,h4⟩:=K3 h0 h5 h1;have HM:=Kh ((H.out.kept h2 (by simp)).mono (show B<=w1.heap.size by have:=h2.size;omega));clear h0 h5 h1;go_wp2_with fail;refine(dA w1.heap.size w1 v _ t gs (Nat.le_refl _) HM.out HS.out HR.out h3.out).mono ?_;rintro e w2 ⟨rfl,h6⟩;have hg:=zH h2 h6;cases hb:eD t gs
  ·have hv:rX t=5:=qFP HE.out (fun ha=>by
    rw[eC (fun g hg=>ha g (h3.out g hg))]at hb;cases hb)
   have HV:=Kh hv;clear hb hv;go_wp2;go_ret;exact⟨yX HV.out.symm,hg⟩
  have hv:rX t=0:=iV HE.out (dB HS.out h4.out (fun g hg=>⟨h3.out g hg,by
   have:fG t gs:=by simpa [eD] using hb
   exact this g hg⟩))
  have HV:=Kh hv;clear hb hv;go_wp2;go_ret;exact⟨yX HV.out.symm,hg⟩
 have hb:(sZ t != 0)=true:=by rw[bne_iff_ne];exact hE
 have HE:=Kh hE;clear hE;go_enter Try.func76,Try.ntmps76;go_wp2_with fail;refine(qAR B w v t h).mono ?_;rintro e w' ⟨rfl,rfl⟩;go_wp2;go_ret;exact⟨yX (qAG HE.out).symm,zT _ _⟩
theorem qAF (B:Nat)(w:World)(v:Value)(t:List (List Int))(hB:B<=w.heap.size)(h:Mat B w v t):Calls Try.prog 57 #[v] w fun e w'=>e=.returned (.bool (rX t == 0))/\w.grownBy w' none:=by
 go_enter Try.func57,Try.ntmps57;go_wp2_with fail;refine(qAE B w v t hB h).mono ?_;rintro e w1 ⟨rfl,hg⟩;go_wp2;go_ret;exact⟨rfl,hg⟩
theorem qFX (n k:Nat)(hk:k<n):(List.range k++List.replicate (n-k) 0).set k k=List.range (k+1)++List.replicate (n-(k+1)) 0:=by
 rw[List.set_append_right _ _ (by simp),List.length_range,Nat.sub_self,List.range_succ,List.append_assoc];congr 1;rw[show n-k=n-(k+1)+1 by omega,List.replicate_succ,List.set_cons_zero];rfl
theorem qCE (w:World)(a:Option Addr)(n cap:Nat)(hn:n<=400):Calls Try.prog 101 #[.slice a n cap] w fun e w'=>e=.returned (.slice (some ⟨w.heap.size,0,none⟩) n n)/\Arr w' w.heap.size 3 (nats (List.range n))/\w.grownBy w' none:=by
 go_enter Try.func101,Try.ntmps101;go_wp2_with (at_make;refine qC rfl _ _ _ rfl yJ rfl _ _ _ _ n rfl rfl rfl rfl ?b1 ?b2 ?_;(case b1=>omega);(case b2=>(unfold maxLen;omega));intro w1 h3 h7 h8);rw[<-yM]at h3;have HA:=Kh h3;clear h3
 go_loopg [10] n (fun g i wr=>∃k:Nat,g+k=n/\i=.int .i64 k/\Arr wr w.heap.size 3 (nats (List.range k++List.replicate (n-k) 0))/\w.grownBy wr none)
 case atStart=>exact⟨0,rfl,rfl,by simpa using HA.out,h7⟩
 clear HA h7 h8;obtain⟨k,hg,rfl,h0,h6⟩:=hrel;have HG:=Kh hg;clear hg;by_cases hk:k<n
 ·have H1:(k:Int)<n:=by omega
  have h1:(List.range k++List.replicate (n-k) 0).length=n:=by simp;omega
  have ck:=h0.nat k (by rw[h1];exact hk);have fk:=h0.frozen k;have h2:=h0.nat_set k (by rw[h1];exact hk) k;rw[qFX n k hk]at h2;have h9:=Kh h2;clear h2 h1 h0;go_wp2;go_roundg (n-(k+1))
  case measure=>have:=HG.out;omega
  exact⟨k+1,by omega,by go_num,h9.out,zC h6 (zF _ _ _)⟩
 have h5:k=n:=by have:=HG.out;omega
 have H0:=Kh h5;have h4:=Kh h0;clear h0 h5;go_wp2;go_ret;refine⟨rfl,?_,h6⟩;have:=h4.out;rw[H0.out,Nat.sub_self,List.replicate_zero,List.append_nil]at this;exact this
def cenB (t:List (List Int))(x:Nat):Bool:=(List.range t.length).all fun y=>entN t x y == entN t y x
def gP (t:List (List Int)):Bool:=(List.range t.length).all (cenB t)
theorem qOE {t:List (List Int)}{x y:Nat}(hy:y<t.length)(h:entN t x y≠entN t y x):cenB t x=false:=by
 rw[<-Bool.not_eq_true,cenB,List.all_eq_true];intro ha;exact h (by simpa using ha y (List.mem_range.2 hy))
def qSM (t:List (List Int))(x k:Nat):Prop:=∀y,y<k->entN t x y=entN t y x
theorem qKV {t:List (List Int)}{x:Nat}(h:qSM t x t.length):cenB t x=true:=by
 rw[cenB,List.all_eq_true];intro y hy;simpa using h y (List.mem_range.1 hy)
theorem qGS {n:Nat}(p:Fin n->Bool):((List.finRange n).filter p).length=n↔∀x,p x=true:=by
 have h1:(List.finRange n).length=n:=List.length_finRange;constructor
 ·intro h x
  have h2:=(List.length_filter_eq_length_iff (p:=p) (l:=List.finRange n)).1 (by rw[h,h1]);exact h2 x (List.mem_finRange x)
 intro h;rw[List.filter_eq_self.2 (fun a _=>h a),h1]
structure CenAt (K:Nat)(W:World)(cb pb:Nat)(t:List (List Int))(b off cap:Nat)(RB RO RC:Nat->Nat):Prop where
 box:W.cell? ⟨pb,0,none⟩=some (.slice (some ⟨b,off,none⟩) t.length cap)
 clo:W.cell? ⟨cb,0,none⟩=some (.func (.func 78) #[] #[.pointer (some ⟨pb,0,none⟩)])
 hd:∀x,x<t.length->W.cell? ⟨b,off+x,none⟩=some (.slice (some ⟨RB x,RO x,none⟩) t.length (RC x))
 lt:cb<K/\pb<K/\b<K/\∀x,x<t.length->RB x<K
 el:∀x y,x<t.length->y<t.length->W.cell? ⟨RB x,RO x+y,none⟩=some (.int .i64 (entN t x y))
section
variable {K:Nat} {W W':World} {cb pb:Nat} {t:List (List Int)} {b off cap:Nat} {RB RO RC:Nat->Nat}
theorem CenAt.mono (h:CenAt K W cb pb t b off cap RB RO RC)(hk:∀p u,p.block<K->W.cell? p=some u->W'.cell? p=some u):CenAt K W' cb pb t b off cap RB RO RC :=
 ⟨hk _ _ h.lt.2.1 h.box,hk _ _ h.lt.1 h.clo,fun x hx=>hk _ _ h.lt.2.2.1 (h.hd x hx),h.lt,fun x y hx hy=>hk _ _ (h.lt.2.2.2 x hx) (h.el x y hx hy)⟩
theorem qDZ (w:World)(h:CenAt K w cb pb t b off cap RB RO RC)(a8:t.length<=cap)(a7:cap<=9223372036854775807)(a9:∀x,x<t.length->t.length<=RC x/\RC x<=9223372036854775807)(x:Nat)(hx:x<t.length):Calls Try.prog 78 #[.int .i64 (x:Int),.pointer (some ⟨pb,0,none⟩)] w fun r w'=>r=.returned (.bool (cenB t x))/\∃m,w'=w.drewN m:=by
 have HQ:=Kh h;have h6:=Kh a9;have hp:=h.box;have ce:=h.hd x hx;have H6:(x:Int)<t.length:=by omega
 have h0:=a9 x hx;have H3:=h0.1;have H2:=h0.2;clear h a9 h0;go_enter Try.func78,Try.ntmps78;go_wp2
 go_loopg [4,7] t.length (fun g a4 i wr=>∃k m:Nat,g+k=t.length/\i=.int .i64 k/\qSM t x k/\wr=w.drewN m)
 case atStart=>exact⟨0,0,rfl,rfl,fun x hx=>absurd hx (by omega),rfl⟩
 obtain⟨y,m,hg,rfl,h4,rfl⟩:=hrel;have HG:=Kh hg;have OK:=Kh h4;clear hg h4;by_cases hy:y<t.length
 ·have H5:(y:Int)<t.length:=by omega
  have cy:=HQ.out.hd y hy;have cxy:=HQ.out.el x y hx hy;have cyx:=HQ.out.el y x hy hx;have H0:=(h6.out y hy).1;have h9:=(h6.out y hy).2;obtain⟨p,h3⟩:=Nm (entN t x y);obtain⟨q,h2⟩:=Nm (entN t y x);rw[<-h3]at cxy;rw[<-h2]at cyx;have h8:=Kh h3;have h7:=Kh h2;clear h3 h2;by_cases h1:p=q
  ·have e1:((p:Int) != (q:Int))=false:=by rw[h1];simp
   have H1:=Kh h1;clear h1;go_wp2
   first|(go_quiet (fail);go_wp2)|skip
   go_roundg (t.length-(y+1))
   case measure=>have:=HG.out;omega
   refine⟨y+1,_,by omega,by go_num,fun z hz=>?_,rfl⟩;rcases Nat.lt_succ_iff_lt_or_eq.1 hz with hz|rfl
   ·exact OK.out z hz
   rw[<-h8.out,<-h7.out];exact H1.out
  have e1:((p:Int) != (q:Int))=true:=by rw[bne_iff_ne];omega
  have H1:=Kh h1;clear h1;go_wp2
  first|(go_quiet (fail);go_wp2)|skip
  go_ret;exact⟨yT (qOE hy (by rw[<-h8.out,<-h7.out];exact H1.out)).symm,_,World.drewN_drewN _ _ _⟩
 have h5:y=t.length:=by have:=HG.out;omega
 have H4:=Kh h5;clear h5;go_wp2;go_ret;exact⟨yT (qKV (by rw[<-H4.out];exact OK.out)).symm,_,rfl⟩
theorem qDY (w:World)(h:CenAt K w cb pb t b off cap RB RO RC)(a9:t.length<=cap)(a7:cap<=9223372036854775807)(a8:∀x,x<t.length->t.length<=RC x/\RC x<=9223372036854775807)(x:Nat)(hx:x<t.length):Calls Try.prog 102 #[.int .i64 (x:Int),.pointer (some ⟨cb,0,none⟩)] w fun r w'=>r=.returned (.bool (!cenB t x))/\∃m,w'=w.drewN m:=by
 have HC:=Kh (qDZ w h a9 a7 a8 x hx);have h0:=h.clo;have eg:∀args w,(callFunc 78 args).run Try.prog w=.ok (.enter 78 args) w:=enters_of Try.func78 (by kernel_rfl) rfl;obtain⟨c,hc⟩:=Nm (cenB t x);rw[<-hc]at HC⊢;clear h a8 hc;go_enter Try.func102,Try.ntmps102;go_wp2_with (first|(go_at_fn 78;refine HC.out.mono ?_;rintro e w1 ⟨rfl,m,rfl⟩)|fail);go_ret;exact⟨rfl,m,rfl⟩
end
open Go.Lib Go.Sort Go.Shelf in
theorem qHD (B : Nat)(w : World)(pb b off cap : Nat)(RB RO RC : Nat → Nat)(t : List (List Int))(hB : B ≤ w.heap.size)(hq : Sq B w t b off RB RO RC)(hM : Mat B w (.slice (some ⟨b, off, none⟩) t.length cap) t)(hs : Shape t)(hv : rX t = 0)(a9 : t.length ≤ cap)(a8 : cap ≤ 9223372036854775807)(hp : w.cell? ⟨pb, 0, none⟩ = some (.slice (some ⟨b, off, none⟩) t.length cap)): Calls Try.prog 77 #[.slice (some ⟨b, off, none⟩) t.length cap, .func (.func 78) #[] #[.pointer (some ⟨pb, 0, none⟩)]] w fun e w' => (∃ sa sc m, e = .returned (.slice sa m sc) ∧ (m = t.length ↔ gP t = true)) ∧ w.grownBy w' none := by
 have hn := hs.pos
 have hn4 := hs.le
 have hpb : pb < w.heap.size := World.block_lt_of_cell? w _ hp
 obtain⟨w1,hw1⟩:=Nm (w.alloc (.cells #[.func (.func 78) #[] #[.pointer (some ⟨pb, 0, none⟩)]] 81))
 have hg1 : w.grownBy w1 none := by rw [hw1]; exact Ga w _ none
 have hb1 := heap_alloc_new w (.cells #[.func (.func 78) #[] #[.pointer (some ⟨pb, 0, none⟩)]] 81)
 obtain⟨cb,hcb⟩:=Nm w.heap.size
 rw [← hw1, ← hcb] at hb1
 have hcl := zG hb1 0
 simp only [List.getElem_toArray, List.getElem_cons_zero] at hcl
 have hcb1 : cb < w1.heap.size := zQ hb1
 have hC : CenAt w1.heap.size w1 cb pb t b off cap RB RO RC := ⟨zJ hp hg1, hcl, fun x hx => zJ (hq.hd x hx) hg1, ⟨hcb1, by have := hg1.size; omega, by have := hg1.size; have := hq.ltw; omega, fun x hx => by have := hg1.size; have := (hq.ltr x hx).2; omega⟩, fun x y hx hy => zJ (hq.el x y hx hy) hg1⟩
 have hrc : ∀ x, x < t.length → t.length ≤ RC x ∧ RC x ≤ 9223372036854775807 := fun x hx => ⟨(hq.cap x hx).1, by have := (hq.cap x hx).2; unfold maxLen at this; exact this⟩
 have HC := Kh hC; have HRC := Kh hrc; have HG1 := Kh hg1; have HW1 := Kh hw1; have HCB := Kh hcb
 have HV := Kh (qAF B w1 _ t (Nat.le_trans hB hg1.size) (hM.kept hg1 (by simp)))
 rw [show (rX t == 0) = true by rw [hv]; rfl] at HV
 obtain⟨n,hN⟩:=Nm t.length
 have HN := Kh hN
 rw [← hN] at a9 hn hn4 HV ⊢
 clear hq hM hs hv hp hpb hw1 hg1 hb1 hcb hcl hcb1 hC hrc hN
 go_enter Try.func77, Try.ntmps77
 go_upto_region 1 with fail
 rw [← HW1.out, ← HCB.out]
 go_wp2_with fail
 refine HV.out.mono ?_
 rintro e w2 ⟨rfl, hg2⟩
 have HEL := Kh (qCE w2 (some ⟨b, off, none⟩) n cap hn4)
 have HG2 := Kh hg2
 clear hg2 HV
 go_wp2_with fail
 refine HEL.out.mono ?_
 rintro e w3 ⟨rfl, harr, hg3⟩
 obtain⟨g,hg⟩:=Nm w2.heap.size
 rw [← hg] at harr ⊢
 have HDF : Hid (Calls Try.prog 100 #[.slice (some ⟨g, 0, none⟩) n n, .func (.func 102) #[] #[.pointer (some ⟨cb, 0, none⟩)]] w3 fun e w' => (∃ m, e = .returned (.slice (some ⟨g, 0, none⟩) m n) ∧ (m = n ↔ gP t = true)) ∧ w2.grownBy w' none) := Kh (by
  have hC3 : CenAt w1.heap.size w3 cb pb t b off cap RB RO RC := HC.out.mono (fun p u _ hu => zJ hu (zC HG2.out hg3))
  haveI : Inhabited (Fin n) := ⟨⟨0, by omega⟩⟩
  have hK : w1.heap.size ≤ g := by rw [hg]; exact HG2.out.size
  have hgl : g < w3.heap.size := harr.lt
  have hdl : ((List.finRange n).toArray).size = n := by simp
  have hpred : ∀ (W : World), CenAt w1.heap.size W cb pb t b off cap RB RO RC → ∀ x : Fin n, FnGives Try.prog 102 #[.pointer (some ⟨cb, 0, none⟩)] #[.int .i64 ((x.val : Nat) : Int)] (.bool (!cenB t x.val)) W := fun W hW x => qDY W hW (by rw [← HN.out]; exact a9) a8 HRC.out x.val (by rw [← HN.out]; exact x.isLt)
  have := Try.slices_DeleteFunc (fun x : Fin n => Value.int .i64 ((x.val : Nat) : Int)) (fun _ => rfl) (fun x => !cenB t x.val) 102 #[.pointer (some ⟨cb, 0, none⟩)] (enters_of Try.func102 (by kernel_rfl) rfl) ⟨0, by omega⟩ Try.zeroValue3 g 0 n (List.finRange n).toArray w3
   (fun W x hb => hpred W (hC3.mono (fun p u hp hu => (hb.cell (by omega)).trans hu)) x)
   (fun m os dk x hdk => hpred _ (hC3.mono (fun p u hp hu => by
    unfold sortWorld
    rw [cell?_grow _ _ _ (by show p.block < (putRow _ _ _ _ _).heap.size; rw [size_putRow]; show p.block < w3.heap.size; omega), cell?_putRow_other _ _ g _ _ _ (Or.inl (by omega))]
    exact hu)) x)
   (fun j hj => by
    have hj' : j < n := by rw [hdl] at hj; exact hj
    have h1 := harr.nat j (by simpa using hj')
    refine ⟨?_, harr.frozen _⟩
    rw [Nat.zero_add, h1, getElem!_pos _ j hj, zN (show j < (List.range n).length by simpa using hj')]
    simp only [List.getElem_range, List.getElem_toArray, List.getElem_finRange]
    rfl)
   (by rw [hdl]; omega) (by rw [hdl]; exact Nat.le_refl _)
  rw [hdl] at this
  refine this.mono fun e w' ⟨h1, q, h2⟩ => ⟨⟨_, h1, ?_⟩, ?_⟩
  ·have hf : (List.filter (fun x : Fin n => !!cenB t x.val) (List.finRange n).toArray.toList) = (List.finRange n).filter (fun x : Fin n => cenB t x.val) := by simp
   rw [hf, qGS, gP, List.all_eq_true, ← HN.out]
   exact ⟨fun h x hx => h ⟨x, List.mem_range.1 hx⟩, fun h x => h x.val (List.mem_range.2 x.isLt)⟩
  ·have hb3 : Below w2.heap.size w2 w3 := ⟨hg3.os, hg3.tape, hg3.output, hg3.size, fun j hj => hg3.block j hj (by simp)⟩
   rw [h2]
   exact kE (below_putRow hb3 (by rw [hg]; exact Nat.le_refl _)))
 have HG12 := Kh (zC HG1.out HG2.out)
 clear harr hg3 hg HEL HC HRC
 go_wp2_with fail
 refine HDF.out.mono ?_
 rintro e w4 ⟨⟨m, rfl, hm⟩, hg4⟩
 have HM := Kh hm; have HG4 := Kh (zC HG12.out hg4)
 clear hm hg4
 go_wp2
 go_ret
 exact ⟨⟨_, _, m, rfl, HM.out⟩, HG4.out⟩
theorem qHE (B:Nat)(w:World)(v:Value)(t:List (List Int))(hB:B<=w.heap.size)(hM:Mat B w v t)(hs:Shape t)(hv:rX t=0):Calls Try.prog 58 #[v] w fun e w'=>(∃sa sc m,e=.returned (.slice sa m sc)/\(m=t.length↔gP t=true))/\w.grownBy w' none:=by
 obtain⟨b,off,cap,RB,RO,RC,rfl,h8,h4,hq⟩:=hM.sq hs;obtain⟨w1,h1⟩:=Nm (w.alloc (.cells #[.slice (some ⟨b,off,none⟩) t.length cap] 35));have h0:w.grownBy w1 none:=by rw[h1];exact Ga w _ none
 have h5:=heap_alloc_new w (.cells #[.slice (some ⟨b,off,none⟩) t.length cap] 35);obtain⟨pb,h3⟩:=Nm w.heap.size;rw[<-h1,<-h3]at h5;have h2:=zG h5 0;simp only[List.getElem_toArray,List.getElem_cons_zero]at h2;have h6:=Kh (qHD B w1 pb b off cap RB RO RC t (Nat.le_trans hB h0.size) (hq.kept h0 (by simp)) (hM.kept h0 (by simp)) hs hv h8 (by unfold maxLen at h4;exact h4) h2);obtain⟨H2,h9,H0⟩:=K3 h0 h1 h3;obtain⟨n,hN⟩:=Nm t.length;rw[<-hN]at h6 h2⊢;have HN:=Kh hN;clear hM hs hv h8 h4 hq h1 h0 h5 h3 hN;go_enter Try.func58,Try.ntmps58;go_upto_region 1 with fail;rw[HN.out,<-h9.out,<-H0.out];rw[HN.out]at h2 h6;go_wp2_with fail;refine h6.out.mono ?_;rintro e w2 ⟨⟨sa,sc,m,rfl,hm⟩,h7⟩;have HM:=Kh hm;have H1:=Kh (zC H2.out h7);clear hm h7;go_wp2;go_ret;exact⟨⟨sa,sc,m,rfl,by rw[HN.out];exact HM.out⟩,H1.out⟩
theorem qOA (B:Nat)(w:World)(v:Value)(t:List (List Int))(hB:B<=w.heap.size)(hM:Mat B w v t)(hs:Shape t)(hv:rX t=0):Calls Try.prog 33 #[v] w fun e w'=>e=.returned (.bool (gP t))/\w.grownBy w' none:=by
 obtain⟨a,cap,rfl⟩:=hM.shape;have HV:=Kh (qAF B w _ t hB hM);rw[show (rX t == 0)=true by rw[hv];rfl]at HV;have h0:Hid (∀W:World,w.grownBy W none->Calls Try.prog 58 #[.slice a t.length cap] W fun e w'=>(∃sa sc m,e=.returned (.slice sa m sc)/\(m=t.length↔gP t=true))/\W.grownBy w' none):=Kh (fun W hW=>qHE B W _ t (Nat.le_trans hB hW.size) (hM.kept hW (by simp)) hs hv);obtain⟨n,hN⟩:=Nm t.length;obtain⟨c,hc⟩:=Nm (gP t);rw[<-hN]at HV h0⊢;rw[<-hc]at h0⊢;clear hM hs hv hN hc;go_enter Try.func33,Try.ntmps33;go_wp2_with fail;refine HV.out.mono ?_;rintro e w1 ⟨rfl,h1⟩;have h3:=Kh (h0.out w1 h1);have h5:=Kh h1;clear h1 h0 HV;go_wp2_with fail;refine h3.out.mono ?_;rintro e w2 ⟨⟨sa,sc,m,rfl,hm⟩,h2⟩;have h4:=Kh (zC h5.out h2)
 have e1:((m:Int) == (n:Int))=c:=by
  rw[Bool.eq_iff_iff,<-hm,beq_iff_eq];omega
 clear hm h2 h3;go_wp2;go_ret;exact⟨rfl,h4.out⟩
def rI (l:List ByteArray):List Value:=l.map .string
theorem qCP {α:Type}[BEq α][LawfulBEq α][DecidableEq α]:∀(xs ys:List α),Lib.allEq (fun x y=>x == y) xs ys=decide (xs=ys)
 | [],[]=>rfl
 | [],y::ys=>by simp[Lib.allEq]
 | x::xs,[]=>by simp[Lib.allEq]
 | x::xs,y::ys=>by
  rw[Lib.allEq,qCP xs ys,Bool.eq_iff_iff]
  simp
theorem cY (B C:Nat)(w:World)(v1 v2:Value)(xs ys:List Int)(h1:Row B w v1 (ints xs))(h2:Row C w v2 (ints ys))(hl:1<=xs.length):Calls Try.prog 54 #[v1,v2] w fun e w'=>e=.returned (.bool (decide (xs=ys)))/\w.grownBy w' none:=by
 by_cases he:xs.length=ys.length
 ·obtain⟨b1,o1,c1,rfl,_,_,m1,r1⟩:=h1.some_ (by rw[zK];omega)
  obtain⟨b2,o2,c2,rfl,_,_,m2,r2⟩:=h2.some_ (by rw[zK];omega);have k1:=h1.len_le;have k2:=h2.len_le;rw[zK]at k1 k2⊢;rw[zK];unfold maxLen at k1 k2;refine(Try.slices_Equal_int b1 o1 xs.length c1 b2 o2 ys.length c2 xs ys w (Nat.le_refl _) (Nat.le_refl _) (by omega) (by omega) (fun j hj=>r1.int j hj) (fun j hj=>r2.int j hj)).mono ?_;rintro e w' ⟨rfl,q,rfl⟩;rw[List.take_of_length_le (Nat.le_refl _),List.take_of_length_le (Nat.le_refl _)];exact⟨by rw[show (xs == ys)=decide (xs=ys) by rw[Bool.eq_iff_iff];simp],zS _ _ none⟩
 obtain⟨a1,c1,rfl⟩:=h1.shape;obtain⟨a2,c2,rfl⟩:=h2.shape;rw[zK,zK];exact(Try.slices_Equal_int_lens a1 a2 xs.length c1 ys.length c2 w he).mono fun e w' ⟨e1,e2⟩=>⟨by rw[e1,decide_eq_false (fun e=>he (by rw[e]))],by rw[e2];exact zT _ _⟩
theorem vM.str_ {w:World}{b off:Nat}{zs:List ByteArray}(h:vM w b off (rI zs))(i:Nat)(hi:i<zs.length):w.cell? ⟨b,off+i,none⟩=some (.string (zs.getD i ByteArray.empty)):=by
 rw[vM.map h i hi];simp[List.getD,List.getElem?_eq_getElem hi]
theorem vM.bool_ {w:World}{b off:Nat}{zs:List Bool}(h:vM w b off (bls zs))(i:Nat)(hi:i<zs.length):w.cell? ⟨b,off+i,none⟩=some (.bool zs[i]!):=by
 rw[vM.map (f:=Value.bool) h i hi,getElem!_pos zs i hi]
theorem qGV (B C:Nat)(w:World)(v1 v2:Value)(xs ys:List ByteArray)(h1:Row B w v1 (rI xs))(h2:Row C w v2 (rI ys))(hl:1<=xs.length):Calls Try.prog 55 #[v1,v2] w fun e w'=>e=.returned (.bool (decide (xs=ys)))/\w.grownBy w' none:=by
 have l1:(rI xs).length=xs.length:=by simp[rI]
 have l2:(rI ys).length=ys.length:=by simp[rI]
 by_cases he:xs.length=ys.length
 ·obtain⟨b1,o1,c1,rfl,_,_,m1,r1⟩:=h1.some_ (by omega)
  obtain⟨b2,o2,c2,rfl,_,_,m2,r2⟩:=h2.some_ (by omega);have k1:=h1.len_le;have k2:=h2.len_le;rw[l1]at k1⊢;rw[l2]at k2⊢;unfold maxLen at k1 k2;refine(Try.slices_Equal_string b1 o1 xs.length c1 b2 o2 ys.length c2 xs ys w (Nat.le_refl _) (Nat.le_refl _) (by omega) (by omega) (fun j hj=>r1.str_ j hj) (fun j hj=>r2.str_ j hj)).mono ?_;rintro e w' ⟨rfl,q,rfl⟩;rw[List.take_of_length_le (Nat.le_refl _),List.take_of_length_le (Nat.le_refl _)];exact⟨rfl,zS _ _ none⟩
 obtain⟨a1,c1,rfl⟩:=h1.shape;obtain⟨a2,c2,rfl⟩:=h2.shape;rw[l1,l2];exact(Try.slices_Equal_string_lens a1 a2 xs.length c1 ys.length c2 w he).mono fun e w' ⟨e1,e2⟩=>⟨by rw[e1,decide_eq_false (fun e=>he (by rw[e]))],by rw[e2];exact zT _ _⟩
theorem eI (B C:Nat)(w:World)(v1 v2:Value)(xs ys:List Bool)(h1:Row B w v1 (bls xs))(h2:Row C w v2 (bls ys))(hl:1<=xs.length)(a9:1<=ys.length):Calls Try.prog 56 #[v1,v2] w fun e w'=>e=.returned (.bool (decide (xs=ys)))/\w.grownBy w' none:=by
 obtain⟨b1,o1,c1,rfl,_,_,m1,r1⟩:=h1.some_ (by rw[zX];omega);obtain⟨b2,o2,c2,rfl,_,_,m2,r2⟩:=h2.some_ (by rw[zX];omega);have k1:=h1.len_le;have k2:=h2.len_le;rw[zX]at k1 k2⊢;rw[zX];unfold maxLen at k1 k2;refine(Try.slices_Equal_f56 Value.bool (fun x y=>x == y) (NeqAt.bool _ Try.underlying4) b1 o1 xs.length c1 b2 o2 ys.length c2 xs ys w (Nat.le_refl _) (Nat.le_refl _) (by omega) (by omega) (fun j hj=>r1.bool_ j hj) (fun j hj=>r2.bool_ j hj)).mono ?_;rintro e w' ⟨rfl,q,rfl⟩;rw[List.take_of_length_le (Nat.le_refl _),List.take_of_length_le (Nat.le_refl _),qCP];exact⟨rfl,zS _ _ none⟩
theorem qHH (B:Nat)(w:World)(v:Value)(f:List Bool)(h:Row B w v (bls f))(h1:1<=f.length)(hb:f.length<=1000000):Calls Try.prog 75 #[v] w fun e w'=>∃sa sc,e=.returned (.slice sa f.length sc)/\w'.ownsRow w.heap.size 4 1 (.slice sa f.length sc) f.length (bls f)/\w.grownBy w' none:=by
 obtain⟨b,off,cap,rfl,_,H0,h9,h7⟩:=h.some_ (by rw[zX];omega);rw[zX]at h⊢;obtain⟨n,hn⟩:=Nm f.length;have HN:=Kh hn;have HR:=Kh h
 have h8:Hid (∀u∈bls f,u.oneCell'=true):=Kh (fun u hu=>by
  obtain⟨y,_,rfl⟩:=List.mem_map.1 hu;rfl)
 rw[<-hn]at h1 hb HR⊢;have h2:=Ga w (.cells #[] 4) none;have h0:=qBE (heap_alloc_new w (.cells #[] 4)) (Nat.le_refl _);obtain⟨w1,h3⟩:=Nm (w.alloc (.cells #[] 4));rw[<-h3]at h2 h0;have H2:=Kh (HR.out.kept h2 (by simp));obtain⟨h6,H3,H1⟩:=K3 h2 h0 h3;clear h H0 h9 h7 hn h2 h0 h3;have q4:∀(W:World) (a:Option Addr) (n c n' c':Nat),(binOp .eql 26 (.slice a n c) (.slice none n' c')).run Try.prog W=.ok (.bool a.isNone) W:=fun W a n c n' c'=>Lib.run_eql_slice_nil W _ _ a n c n' c' Try.underlying26;go_enter Try.func75,Try.ntmps75;go_wp2_with (first|(rw[<-H1.out];at_builtin;refine appR rfl (.tmp 5) (.tmp 6) _ rfl wF w.heap.size _ 0 [] rfl H3.out _ (bls f) rfl ⟨_,H2.out⟩ h8.out n ?a1 ?a2 ?a3 ?a4 ?_)|fail)
 case a1=>rw[zX];have:=HN.out;omega
 case a2=>unfold maxLen;omega
 case a3=>omega
 case a4=>exact h6.out.size
 intro sa sc w2 h4 h5;have HO:=Kh h4;have H4:=Kh h5;clear h4 h5;go_wp2;go_ret;exact⟨sa,sc,rfl,HO.out,zC h6.out H4.out (fun j e=>by cases e;exact Nat.le_refl _)⟩
def inR (n:Nat)(zs:List Int):Bool:=zs.all fun x=>decide (0<=x/\x<n)
theorem dG (B:Nat)(w:World)(v:Value)(zs:List Int)(n:Nat)(h:Row B w v (ints zs)):Calls Try.prog 74 #[v,.int .i64 (n:Int)] w fun e w'=>e=.returned (.bool (inR n zs))/\w'=w:=by
 have h2:=h.len_le;rw[zK]at h2;unfold maxLen at h2;by_cases h0:zs.length=0
 ·have hx:zs=[]:=List.eq_nil_of_length_eq_zero h0
  subst hx;obtain⟨a,c,rfl⟩:=h.nil_ rfl;clear h;go_enter Try.func74,Try.ntmps74;go_wp2
  go_loopg [6,9] 0 (fun g a6 i wr=>i=.int .i64 0/\wr=w)
  case atStart=>exact⟨rfl,rfl⟩
  obtain⟨rfl,rfl⟩:=hrel;go_wp2;go_ret;exact⟨rfl,rfl⟩
 obtain⟨b,o,c,rfl,_,h7,h6,hr⟩:=h.some_ (by rw[zK];omega);have R:=Kh hr;rw[zK]at h7⊢;clear h hr;unfold maxLen at h6;go_enter Try.func74,Try.ntmps74;go_wp2
 go_loopg [6,9] zs.length (fun g a6 i wr=>∃k:Nat,g+k=zs.length/\i=.int .i64 k/\inR n (zs.take k)=true/\wr=w)
 case atStart=>exact⟨0,rfl,rfl,rfl,rfl⟩
 obtain⟨k,hg,rfl,hn,rfl⟩:=hrel;have HG:=Kh hg;have HN:=Kh hn;clear hg hn;by_cases hk:k<zs.length
 ·have h8:(k:Int)<zs.length:=by omega
  have ca:=R.out.int k hk;obtain⟨x,hx⟩:=Nm (zs.getD k 0);rw[<-hx]at ca;have HX:=Kh hx;clear hx;have h5:Hid (x∈zs):=Kh (by rw[HX.out,List.getD_eq_getElem?_getD,List.getElem?_eq_getElem hk];exact List.getElem_mem hk)
  have h3:¬(0<=x/\x<n)->inR n zs=false:=fun h=>by
   rw[inR,List.all_eq_false];exact⟨x,h5.out,by simpa using h⟩
  have h4:=Kh h3;clear h3;by_cases hx0:x<0
  ·go_wp2
   go_ret;exact⟨yT (h4.out (by omega)).symm,rfl⟩
  by_cases hxn:(n:Int)<=x
  ·go_wp2
   go_ret;exact⟨yT (h4.out (by omega)).symm,rfl⟩
  go_wp2;go_roundg (zs.length-(k+1))
  case measure=>have:=HG.out;omega
  refine⟨k+1,by have:=HG.out;omega,by go_num,?_,rfl⟩;have h1:=HN.out;unfold inR at h1⊢;rw[zZ (d:=0) hk,List.all_append,h1,<-HX.out];simp;omega
 have HM:Hid (inR n zs=true):=Kh (by
  have:=HN.out
  rwa [List.take_of_length_le (by have:=HG.out;omega)]at this)
 go_wp2;go_ret;exact⟨yT HM.out.symm,rfl⟩
open Go.Maps
inductive pa1I (k m P aC tC:Nat)(aA tA:Option Addr)(ac:List Bool)(w5:World)(a0:Act)(l:Array Bool)(a:Act)(w:World):Prop
 | mk (x12:Value) (x16:Value) (x17:Value) (x3:Value) (o:Nat) (ha:a=zP a0 [(12,x12),(16,x16),(17,x17),(3,x3)]) (HR:∀j∈[0,1,2,3,5,6,7],l.getD j true=true) (H4:Hid (l.getD 4 true=true->∃sa sc,x12=.slice sa m sc/\w.ownsRow w5.heap.size 4 1 (.slice sa m sc) m (bls ac))) (H8:Hid (l.getD 8 true=true->∃g,x16=.slice (some ⟨g,0,none⟩) m m/\w.ownsRow w5.heap.size 22 1 (.slice (some ⟨g,0,none⟩) m m) m (List.replicate m (.slice none 0 0)))) (H9:Hid (l.getD 9 true=true->l.getD 4 true=true/\l.getD 8 true=true/\x17=.agg #[.int .i64 k,.int .i64 0,x12,x16])) (H10:Hid (l.getD 10 true=true->x3=.pointer (some ⟨o,0,none⟩)/\w5.heap.size<=o)) (B1:Hid (l.getD 10 true=true->(l.getD 11 true=false->w.heap[o]?=some (.cells #[.int .i64 0,.int .i64 0,.slice none 0 0,.slice none 0 0] 37 (0,0))))) (B2:Hid (l.getD 11 true=true->l.getD 4 true=true/\l.getD 8 true=true/\l.getD 9 true=true/\l.getD 10 true=true/\w.heap[o]?=some (.cells #[.int .i64 k,.int .i64 0,x12,x16] 37 (0,0)))) (HG:(w5.grownBy w none))
theorem qSV {k m P aC tC:Nat}{aA tA:Option Addr}{ac:List Bool}{w5:World}{a0:Act}{l:Array Bool}{a:Act}{w:World}(hc:w5.cell? ⟨P,0,none⟩=some (.int .i64 k)/\w5.cell? ⟨P,4,none⟩=some (.slice aA m aC)/\w5.cell? ⟨P,1,none⟩=some (.slice tA m tC))(h:pa1I k m P aC tC aA tA ac w5 a0 l a w):wH 11 (fun W=>W.cell? ⟨P,0,none⟩=some (.int .i64 k)/\W.cell? ⟨P,4,none⟩=some (.slice aA m aC)/\W.cell? ⟨P,1,none⟩=some (.slice tA m tC)) (fun _=>True) l w:=by
 obtain⟨x12,x16,x17,x3,o,ha,HR,H4,H8,H9,h0,B1,B2,HG⟩:=h;exact⟨⟨zJ hc.1 HG,zJ hc.2.1 HG,zJ hc.2.2 HG⟩,fun _=>trivial⟩
theorem qDI {k m P aC tC:Nat}{aA tA:Option Addr}{ac:List Bool}{w5:World}{a0:Act}{l:Array Bool}{a:Act}{w:World}(h:pa1I k m P aC tC aA tA ac w5 a0 l a w):∀j∈[0,1,2,3,5,6,7],l.getD j true=true:=by
 obtain⟨x12,x16,x17,x3,o,ha,HR,H4,H8,H9,h0,B1,B2,HG⟩:=h;exact HR
theorem qJB {k m P aC tC:Nat}{aA tA:Option Addr}{ac:List Bool}{w5:World}{v0 v1 v2 v3 v4 v5 v6 v7 e5 e6 e7 e8 e9 d0 d1 d2 d3 d4 d5 d6 d7 d8 d9 c0 c1 c2 c3 c5 c7 c8 c9 b0 b1 b2 b3 b4 b5 b6 b7 b8 b9 a1 a2 a3 a4 a5 a6 a7:Value}{dd:_}{a0:Act}(a9:a0=⟨#[v0,v1,v2,v3,v4,v5,v6,v7,.pointer (some ⟨P,0,none⟩),.int .i64 k,.pointer (some ⟨P,4,none⟩),.slice aA m aC,e5,.pointer (some ⟨P,1,none⟩),.slice tA m tC,.int .i64 m,e6,e7,e8,e9,d0,d1,d2,d3,d4,d5,d6,d7,d8,d9,c0,c1,c2,c3,c5,c7,c8,c9,b0,b1,b2,b3,b4,b5,b6,b7,b8,b9,a1,a2,a3,a4,a5,a6,a7],dd⟩)(e2:∀w:World,(Instr.makeSlice 35 (.int .i64 (m:Int)) (.int .i64 (m:Int))).run Try.prog w=.ok (.slice (some ⟨w.heap.size,0,none⟩) m m) (w.alloc (.cells (madeCells #[.slice none 0 0] m) 22)))(e4:Hid ((madeCells #[.slice none 0 0] m).toList=List.replicate m (.slice none 0 0)))(e3:m<=maxLen)(e1:∀W:World,w5.grownBy W none->Calls Try.prog 75 #[.slice aA m aC] W fun e w'=>∃sa sc,e=.returned (.slice sa m sc)/\w'.ownsRow w5.heap.size 4 1 (.slice sa m sc) m (bls ac)/\W.grownBy w' none)(a8:Array Oper)(Q7:Exit->Act->World->Prop):pO (jX Try.prog .any a8 Q7 (pa1I k m P aC tC aA tA ac w5 a0)) 0 (rZ Try.f53 1).toList:=by
 refine⟨?s0,?s1,?s2,?s3,?s4,?s5,?s6,?s7,?s8,?s9,?s10,?s11,trivial⟩
 case s0 =>
  exact fun l a w h h1=>absurd (qDI h 0 (by simp)) (by rw[h1];simp)
 case s1 =>
  exact fun l a w h h1=>absurd (qDI h 1 (by simp)) (by rw[h1];simp)
 case s2 =>
  exact fun l a w h h1=>absurd (qDI h 2 (by simp)) (by rw[h1];simp)
 case s3 =>
  exact fun l a w h h1=>absurd (qDI h 3 (by simp)) (by rw[h1];simp)
 case s4 =>
  intro l a w h h1 h0 K hK;obtain⟨x12,x16,x17,x3,o,ha,HR,H4,H8,H9,h2,B1,B2,HG⟩:=h;subst ha;rw[a9];simp only[zP,List.foldl_cons,List.foldl_nil,Act.put,sPa,sPb,sPc];go_simp
  go_at_call 75
  refine(e1 w HG).mono ?_;rintro e w6 ⟨g6,c6,rfl,h3,h7⟩;refine hK.out _ _ ?_;refine⟨(.slice g6 m c6),x16,x17,x3,o,?fa4,fun j hj=>zD (HR j hj),Kh (fun _=>⟨g6,c6,rfl,h3⟩),Kh (fun h=>let ⟨g,e,ho⟩:=H8.out (zE (by decide) h);⟨g,e,yB ho h7⟩),(hs7A H9 h1),(hs7P h2),Kh (fun h h9=>zB (B1.out (zE (by decide) h) (zI h9)) h7),(hs7A B2 h1),zC HG h7⟩
  case fa4=>rw[a9];simp only[zP,List.foldl_cons,List.foldl_nil,Act.put,sPa,sPb,sPc]
 case s5 =>
  exact fun l a w h h1=>absurd (qDI h 5 (by simp)) (by rw[h1];simp)
 case s6 =>
  exact fun l a w h h1=>absurd (qDI h 6 (by simp)) (by rw[h1];simp)
 case s7 =>
  exact fun l a w h h1=>absurd (qDI h 7 (by simp)) (by rw[h1];simp)
 case s8 =>
  intro l a w h h1 h0 K hK;obtain⟨x12,x16,x17,x3,o,ha,HR,H4,H8,H9,h2,B1,B2,HG⟩:=h;subst ha;rw[a9];simp only[zP,List.foldl_cons,List.foldl_nil,Act.put,sPa,sPb,sPc];go_simp;have H5:=oB (e:=22) e4.out HG.size e3;refine hK.out _ _ ?_;refine⟨x12,(.slice (some ⟨w.heap.size,0,none⟩) m m),x17,x3,o,?fa8,fun j hj=>zD (HR j hj),Kh (fun h=>let ⟨g,c,e,ho⟩:=H4.out (zE (by decide) h);⟨g,c,e,yB ho (Ga w (.cells (madeCells #[.slice none 0 0] m) 22) none)⟩),Kh (fun _=>⟨w.heap.size,rfl,H5⟩),(hs7B H9 h1),(hs7P h2),Kh (fun h h9=>zB (B1.out (zE (by decide) h) (zI h9)) (Ga w (.cells (madeCells #[.slice none 0 0] m) 22) none)),(hs7B B2 h1),zC HG (Ga w (.cells (madeCells #[.slice none 0 0] m) 22) none)⟩
  case fa8=>rw[a9];simp only[zP,List.foldl_cons,List.foldl_nil,Act.put,sPa,sPb,sPc]
 case s9 =>
  intro l a w h h1 h0 K hK;obtain⟨x12,x16,x17,x3,o,ha,HR,H4,H8,H9,h2,B1,B2,HG⟩:=h;have DH4:=H4.out (zM (h0 ⟨4,.data⟩ (by simp) rfl));have DH8:=H8.out (zM (h0 ⟨8,.data⟩ (by simp) rfl));obtain⟨g4,c4,rfl,h5⟩:=DH4;obtain⟨g8,rfl,h4⟩:=DH8;subst ha;rw[a9];simp only[zP,List.foldl_cons,List.foldl_nil,Act.put,sPa,sPb,sPc];go_simp;refine hK.out _ _ ?_;refine⟨(.slice g4 m c4),(.slice (some ⟨g8,0,none⟩) m m),(.agg #[.int .i64 k,.int .i64 0,(.slice g4 m c4),(.slice (some ⟨g8,0,none⟩) m m)]),x3,o,?fa9,fun j hj=>zD (HR j hj),Kh (fun _=>⟨g4,c4,rfl,h5⟩),Kh (fun _=>⟨g8,rfl,h4⟩),Kh (fun _=>⟨zD (zM (h0 ⟨4,.data⟩ (by simp) rfl)),zD (zM (h0 ⟨8,.data⟩ (by simp) rfl)),rfl⟩),(hs7P h2),Kh (fun h h9=>B1.out (zE (by decide) h) (zI h9)),Kh (fun h=>absurd (B2.out (zE (by decide) h)).2.2.1 (by rw[h1];simp)),HG⟩
  case fa9=>rw[a9];simp only[zP,List.foldl_cons,List.foldl_nil,Act.put,sPa,sPb,sPc]
 case s10 =>
  intro l a w h h1 h0 K hK;obtain⟨x12,x16,x17,x3,o,ha,HR,H4,H8,H9,h2,B1,B2,HG⟩:=h;subst ha;rw[a9];simp only[zP,List.foldl_cons,List.foldl_nil,Act.put,sPa,sPb,sPc];go_simp;refine hK.out _ _ ?_;refine⟨x12,x16,x17,(.pointer (some ⟨w.heap.size,0,none⟩)),w.heap.size,?fa10,fun j hj=>zD (HR j hj),Kh (fun h=>let ⟨g,c,e,ho⟩:=H4.out (zE (by decide) h);⟨g,c,e,yB ho (Ga w (.cells #[.int .i64 0,.int .i64 0,.slice none 0 0,.slice none 0 0] 37) none)⟩),Kh (fun h=>let ⟨g,e,ho⟩:=H8.out (zE (by decide) h);⟨g,e,yB ho (Ga w (.cells #[.int .i64 0,.int .i64 0,.slice none 0 0,.slice none 0 0] 37) none)⟩),(hs7R H9),Kh (fun _=>⟨rfl,HG.size⟩),Kh (fun _ _=>heap_alloc_new w _),Kh (fun h=>absurd (B2.out (zE (by decide) h)).2.2.2.1 (by rw[h1];simp)),zC HG (Ga w (.cells #[.int .i64 0,.int .i64 0,.slice none 0 0,.slice none 0 0] 37) none)⟩
  case fa10=>rw[a9];simp only[zP,List.foldl_cons,List.foldl_nil,Act.put,sPa,sPb,sPc]
 intro l a w h h1 h0 K hK;obtain⟨x12,x16,x17,x3,o,ha,HR,H4,H8,H9,h2,B1,B2,HG⟩:=h;have DH10:=h2.out (zM (h0 ⟨10,.data⟩ (by simp) rfl));have DB1:=B1.out (zM (h0 ⟨10,.data⟩ (by simp) rfl));have DH9:=H9.out (zM (h0 ⟨9,.data⟩ (by simp) rfl));obtain⟨rfl,ho⟩:=DH10;obtain⟨H0,h8,rfl⟩:=DH9;have H3:=zM (h0 ⟨9,.data⟩ (by simp) rfl);have H1:=zM (h0 ⟨10,.data⟩ (by simp) rfl);obtain⟨g4,c4,rfl,h5⟩:=H4.out H0;obtain⟨g8,rfl,h4⟩:=H8.out h8;have hb:=DB1 h1;subst ha;rw[a9];simp only[zP,List.foldl_cons,List.foldl_nil,Act.put,sPa,sPb,sPc];obtain⟨k0,k1,k2,k3⟩:=zL hb;have f0:=zA hb 0;have f1:=zA hb 1;have f2:=zA hb 2;have f3:=zA hb 3;go_simp;obtain⟨H2,h6⟩:=uB hb (.int .i64 k) (.int .i64 0) (.slice g4 m c4) (.slice (some ⟨g8,0,none⟩) m m);refine hK.out _ _ ?_;refine⟨(.slice g4 m c4),(.slice (some ⟨g8,0,none⟩) m m),(.agg #[.int .i64 k,.int .i64 0,(.slice g4 m c4),(.slice (some ⟨g8,0,none⟩) m m)]),(.pointer (some ⟨o,0,none⟩)),o,?fa11,fun j hj=>zD (HR j hj),Kh (fun _=>⟨g4,c4,rfl,h5.kept h6 (.inr (zV h5 hb (by decide)))⟩),Kh (fun _=>⟨g8,rfl,h4.kept h6 (.inr (zV h4 hb (by decide)))⟩),Kh (fun _=>⟨zD H0,zD h8,rfl⟩),Kh (fun _=>⟨rfl,ho⟩),Kh (fun _ h9=>yF h9),Kh (fun _=>⟨zD H0,zD h8,zD H3,zD H1,H2⟩),yK HG h6 (by show _<=o;omega)⟩
 case fa11=>rw[a9];simp only[zP,List.foldl_cons,List.foldl_nil,Act.put,sPa,sPb,sPc]
inductive AutS (w6:World)(o k m ng:Nat)(sa:Option Addr)(sc:Nat)(ac:List Bool)(hs:List Value)(dn:List (List Int))(tl:List RowS)(w:World):Prop
 | mk (X:Nat->Prop) (hB:BoxS w6.heap.size X o 37 w6 w (⟨w6.heap.size,4,.slice sa m sc,m,bls ac,1⟩::⟨w6.heap.size,22,.slice (some ⟨ng,0,none⟩) m m,m,hs,1⟩::tl) #[.int .i64 (k:Int),.int .i64 0,.slice sa m sc,.slice (some ⟨ng,0,none⟩) m m] w) (hT:xU X 3 ints w (hs.take dn.length) dn)
section
variable {w6 w w':World} {o k m ng sc:Nat} {sa:Option Addr} {ac:List Bool} {hs:List Value} {dn:List (List Int)} {tl:List RowS}
theorem AutS.grow (h:AutS w6 o k m ng sa sc ac hs dn tl w)(hg:w.grownBy w' none):AutS w6 o k m ng sa sc ac hs dn tl w':=by
 obtain⟨X,hB,hT⟩:=h;exact⟨X,(hB.grow hg).rebase,hT.kept (hB.mem.keep hg) hg.size⟩
theorem AutS.g (h:AutS w6 o k m ng sa sc ac hs dn tl w):w6.grownBy w none:=by
 obtain⟨X,hB,hT⟩:=h;exact hB.grown
theorem AutS.cells (h:AutS w6 o k m ng sa sc ac hs dn tl w):w.heap[o]?=some (.cells #[.int .i64 (k:Int),.int .i64 0,.slice sa m sc,.slice (some ⟨ng,0,none⟩) m m] 37 (0,0))/\Arr w ng 22 hs/\hs.length=m:=by
 obtain⟨X,hB,hT⟩:=h;have h1:=hB.own (r:=⟨w6.heap.size,22,.slice (some ⟨ng,0,none⟩) m m,m,hs,1⟩) (by simp);exact⟨hB.box,Arr.of_owns h1,by have:=h1.1;simpa using this⟩
theorem AutS.begin {cg i:Nat}{xs:List Value}(h:AutS w6 o k m ng sa sc ac hs dn [] w)(hi:i<m)(hd:dn.length=i)(hg:w.grownBy w' none)(ho:w'.ownsRow w.heap.size 3 1 (.slice (some ⟨cg,0,none⟩) k k) k xs):AutS w6 o k m ng sa sc ac (hs.set i (.slice (some ⟨cg,0,none⟩) k k)) dn (⟨w6.heap.size,3,.slice (some ⟨cg,0,none⟩) k k,k,xs,1⟩::[]) (w'.setCell ⟨ng,i,none⟩ (.slice (some ⟨cg,0,none⟩) k k)):=by
 obtain⟨X,hB,hT⟩:=h;have hA:=hB.add hg (e:=3) (sz:=1) (n:=k) (v:=.slice (some ⟨cg,0,none⟩) k k) (xs:=xs) ho (by decide);have hP:=hA.put (j:=1) rfl hi (.slice (some ⟨cg,0,none⟩) k k);refine⟨X,hP.rebase,?_⟩;rw[List.take_set_of_le (by omega)];exact hT.kept hP.kept hP.wk
theorem AutS.putC {cg j:Nat}{xs:List Value}(h:AutS w6 o k m ng sa sc ac hs dn (⟨w6.heap.size,3,.slice (some ⟨cg,0,none⟩) k k,k,xs,1⟩::[]) w)(hj:j<k)(u:Value):AutS w6 o k m ng sa sc ac hs dn (⟨w6.heap.size,3,.slice (some ⟨cg,0,none⟩) k k,k,(xs.set j u),1⟩::[]) (w.setCell ⟨cg,j,none⟩ u):=by
 obtain⟨X,hB,hT⟩:=h;have hP:=hB.put (j:=2) rfl hj u;exact⟨X,hP.rebase,hT.kept hP.kept hP.wk⟩
theorem AutS.arrC {cg:Nat}{xs:List Value}(h:AutS w6 o k m ng sa sc ac hs dn (⟨w6.heap.size,3,.slice (some ⟨cg,0,none⟩) k k,k,xs,1⟩::[]) w):Arr w cg 3 xs/\xs.length=k:=by
 obtain⟨X,hB,hT⟩:=h;have h1:=hB.own (r:=⟨w6.heap.size,3,.slice (some ⟨cg,0,none⟩) k k,k,xs,1⟩) (by simp);exact⟨Arr.of_owns h1,by have:=h1.1;simpa using this⟩
theorem AutS.fin {cg i:Nat}{r:List Int}(h:AutS w6 o k m ng sa sc ac hs dn (⟨w6.heap.size,3,.slice (some ⟨cg,0,none⟩) k k,k,ints r,1⟩::[]) w)(hd:dn.length=i)(hi:i<m)(hh:hs[i]?=some (.slice (some ⟨cg,0,none⟩) k k)):AutS w6 o k m ng sa sc ac hs (dn++[r]) [] w:=by
 obtain⟨X,hB,hT⟩:=h;have hR:=BoxS.retire (rs:=(⟨w6.heap.size,4,.slice sa m sc,m,bls ac,1⟩::⟨w6.heap.size,22,.slice (some ⟨ng,0,none⟩) m m,m,hs,1⟩::[])) (r:=⟨w6.heap.size,3,.slice (some ⟨cg,0,none⟩) k k,k,ints r,1⟩) hB;refine⟨_,hR,?_⟩;have hX:RowX (fun j=>X j\/(Value.slice (some ⟨cg,0,none⟩) k k).ownBlock=some j) 3 w (.slice (some ⟨cg,0,none⟩) k k) (ints r):=RowX.of_owns (hB.own (r:=⟨w6.heap.size,3,.slice (some ⟨cg,0,none⟩) k k,k,ints r,1⟩) (by simp)) (fun j hj=>.inr hj);have h9:=(hT.mono (X':=fun j=>X j\/(Value.slice (some ⟨cg,0,none⟩) k k).ownBlock=some j) (fun j hj=>.inl hj)).snoc hX
 have e:hs.take dn.length++[.slice (some ⟨cg,0,none⟩) k k]=hs.take (dn++[r]).length:=by
  rw[List.length_append,List.length_singleton,hd,List.take_add_one,hh];rfl
 rw[e]at h9;exact h9
end
theorem qQI {Q:Exit->Act->World->Prop}{v0 v2 v3 v4 v5 v6 v7 v8 v9 e1 e2 e3 e4 e5 e6 e7 e8 d0 d1 d2 d3 d4 d5 d6 d7 d8 d9 c0 c1 c2 c3 c5 c6 c7 c8 c9 b0 b1 b2 b3 b4 b5 b6 b7 b8 b9 a1 a2 a3 a4 a5 a6 a7 a8:Value}{w:World}{k m P aC tC:Nat}{aA tA:Option Addr}{ac:List Bool}(e0:m<=400)(hC:w.cell? ⟨P,0,none⟩=some (.int .i64 k)/\w.cell? ⟨P,4,none⟩=some (.slice aA m aC)/\w.cell? ⟨P,1,none⟩=some (.slice tA m tC))(e9:∀W:World,w.grownBy W none->Calls Try.prog 75 #[.slice aA m aC] W fun e w'=>∃sa sc,e=.returned (.slice sa m sc)/\w'.ownsRow W.heap.size 4 1 (.slice sa m sc) m (bls ac)/\W.grownBy w' none)(a9:∀(z8 z9 z10 z11 z12 z13 z14 z15 z16 z17:Value) (w6 w':World) (o ng:Nat) (sa:Option Addr) (sc:Nat),w.grownBy w6 none->AutS w6 o k m ng sa sc ac (List.replicate m (.slice none 0 0)) [] [] w'->Q .normal ⟨(v0::(Value.pointer (some ⟨P,0,none⟩))::v2::(Value.pointer (some ⟨o,0,none⟩))::v4::v5::v6::v7::z8::z9::z10::z11::z12::z13::z14::z15::z16::z17::d0::d1::d2::d3::d4::d5::d6::d7::d8::d9::c0::c1::c2::c3::c5::c6::c7::c8::c9::b0::b1::b2::b3::b4::b5::b6::b7::b8::b9::a1::a2::a3::a4::a5::a6::a7::a8::[]).toArray,[]⟩ w'):Code.wp Try.prog (reg Try.f53 1) Q ⟨(v0::(Value.pointer (some ⟨P,0,none⟩))::v2::v3::v4::v5::v6::v7::v8::v9::e1::e2::e3::e4::e5::e6::e7::e8::d0::d1::d2::d3::d4::d5::d6::d7::d8::d9::c0::c1::c2::c3::c5::c6::c7::c8::c9::b0::b1::b2::b3::b4::b5::b6::b7::b8::b9::a1::a2::a3::a4::a5::a6::a7::a8::[]).toArray,[]⟩ w:=by
 obtain⟨h5,h4,h3⟩:=hC
 conv=>arg 2;whnf
 obtain⟨w5,h2⟩:=Nm w.drew;have h1:w.grownBy w5 none:=by rw[h2];exact zW w none
 have H0:=Kh h2;have H1:=Kh h1;have C:Hid (w5.cell? ⟨P,0,none⟩=some (.int .i64 k)/\w5.cell? ⟨P,4,none⟩=some (.slice aA m aC)/\w5.cell? ⟨P,1,none⟩=some (.slice tA m tC)):=Kh ⟨zJ h5 h1,zJ h4 h1,zJ h3 h1⟩;have H2:Hid (∀W:World,w5.grownBy W none->Calls Try.prog 75 #[.slice aA m aC] W fun e w'=>∃sa sc,e=.returned (.slice sa m sc)/\w'.ownsRow w5.heap.size 4 1 (.slice sa m sc) m (bls ac)/\W.grownBy w' none):=Kh (fun W hW=>(e9 W (zC h1 hW)).mono fun e w' ⟨g,c,he,ho,hg⟩=>⟨g,c,he,wS ho hW.size,hg⟩);have h9:m<=maxLen:=by unfold maxLen;omega
 clear h2 h1 h5 h4 h3 e9;refine wp_region_noPanic ?_;refine yQ (G:=wH 11 (fun W=>W.cell? ⟨P,0,none⟩=some (.int .i64 k)/\W.cell? ⟨P,4,none⟩=some (.slice aA m aC)/\W.cell? ⟨P,1,none⟩=some (.slice tA m tC)) (fun _=>True)) (by kernel_rfl) ?_;rw[<-H0.out];refine zO 0 ⟨C.out,fun _=>trivial⟩ ?_;refine zO 1 ⟨C.out,fun _=>trivial⟩ ?_;refine zO 2 ⟨C.out,fun _=>trivial⟩ ?_;refine zO 3 ⟨C.out,fun _=>trivial⟩ ?_;refine zO 5 ⟨C.out,fun _=>trivial⟩ ?_;refine zO 6 ⟨C.out,fun _=>trivial⟩ ?_;refine zO 7 ⟨C.out,fun _=>trivial⟩ ?_;refine uQ (fun Wp hWp a0 ha0=>?_);subst hWp
 try simp only[Act.put,sPd,sPe,sPf,sPa,sPb,sPc]at ha0
 have H3:=Kh ha0;refine uP (I:=pa1I k m P aC tC aA tA ac w5 a0) (fun l a w h=>qSV C.out h) (qJB ha0 (qEY m (by omega)) (Kh (qFA rfl m)) h9 H2.out) (by kernel_rfl) ?hend (by decide +kernel) ?hinit
 case hinit =>
  clear ha0;refine⟨a0.tmps.getD 12 undef,a0.tmps.getD 16 undef,a0.tmps.getD 17 undef,a0.tmps.getD 3 undef,0,(vQ (by simp)).symm,by decide +kernel,Kh (fun h=>absurd h (by decide +kernel)),Kh (fun h=>absurd h (by decide +kernel)),Kh (fun h=>absurd h (by decide +kernel)),Kh (fun h=>absurd h (by decide +kernel)),Kh (fun h=>absurd h (by decide +kernel)),Kh (fun h=>absurd h (by decide +kernel)),zT _ _⟩
 clear ha0;intro l a w6 h h0;obtain⟨x12,x16,x17,x3,o,ha,HR,H4,H8,H9,h8,B1,B2,HG⟩:=h;obtain⟨g4,c4,rfl,h7⟩:=H4.out (h0 4 (by decide));obtain⟨g8,rfl,h6⟩:=H8.out (h0 8 (by decide));obtain⟨_,_,rfl⟩:=H9.out (h0 9 (by decide));obtain⟨rfl,ho⟩:=h8.out (h0 10 (by decide));obtain⟨_,_,_,_,hb⟩:=B2.out (h0 11 (by decide));clear H4 H8 H9 h8 B1 B2 HR;subst ha;rw[H3.out];simp only[zP,List.foldl_cons,List.foldl_nil,Act.put,sPa,sPb,sPc];refine NoPanic.normal ?_;refine a9 _ _ _ _ _ _ _ _ _ _  w5 w6 o g8 g4 c4 H1.out ⟨fun _=>False,⟨⟨?_,?_,fun r hr k hk hx=>hx,fun k hk=>hk.elim⟩,?_,hb,fun h=>h,Nat.le_refl _,ho,HG.size,HG,xX.refl _ _,Nat.le_refl _⟩,xU.nil⟩
 ·intro r hr
  simp only[List.mem_cons,List.not_mem_nil,or_false]at hr;rcases hr with rfl|rfl
  ·exact h7
  exact h6
 ·refine List.pairwise_cons.2 ⟨fun s hs=>?_,List.pairwise_cons.2 ⟨fun s hs=>by simp at hs,List.Pairwise.nil⟩⟩
  simp only[List.mem_cons,List.not_mem_nil,or_false]at hs;subst hs;exact qS h7 h6 (by decide)
 intro r hr;simp only[List.mem_cons,List.not_mem_nil,or_false]at hr;rcases hr with rfl|rfl<;>exact⟨rfl,by simp⟩
theorem qQH {Q:Exit->Act->World->Prop}{v0 v2 v5 v6 v7 v8 v9 d0 d1 d2 d3 d4 d5 d6 d7 d8 d9 c1 c2 c3 c4 c5 c6 e3 e4 e5 e6 e7 e8 e9 c7 c8 c9 b0 b1 b2 b3 b4 b5 b6 b7 b8 b9 a0 a1 a2 a3 a4 a5 a6 a7 a8:Value}{w6 w:World}{o k m ng sc:Nat}{sa:Option Addr}{ac:List Bool}{hs:List Value}{dn:List (List Int)}{P i:Nat}(h:AutS w6 o k m ng sa sc ac hs dn [] w)(hi:i<m)(hd:dn.length=i)(hm:m<=400)(e2:k<=6)(c0:w.cell? ⟨P,0,none⟩=some (.int .i64 (k:Int)))(a9:∀(z26 z27 z28 z29 z30 z31 z32:Value) (w':World) (cg:Nat),AutS w6 o k m ng sa sc ac (hs.set i (.slice (some ⟨cg,0,none⟩) k k)) dn (⟨w6.heap.size,3,.slice (some ⟨cg,0,none⟩) k k,k,ints (List.replicate k 0),1⟩::[]) w'->Q .normal ⟨(v0::(Value.pointer (some ⟨P,0,none⟩))::v2::(Value.pointer (some ⟨o,0,none⟩))::(Value.int .i64 (i:Int))::v5::v6::v7::v8::v9::d0::d1::d2::d3::d4::d5::d6::d7::d8::d9::c1::c2::c3::c4::c5::c6::z26::z27::z28::z29::z30::z31::z32::c7::c8::c9::b0::b1::b2::b3::b4::b5::b6::b7::b8::b9::a0::a1::a2::a3::a4::a5::a6::a7::a8::[]).toArray,[]⟩ w'):Code.wp Try.prog (reg Try.f53 5) Q ⟨(v0::(Value.pointer (some ⟨P,0,none⟩))::v2::(Value.pointer (some ⟨o,0,none⟩))::(Value.int .i64 (i:Int))::v5::v6::v7::v8::v9::d0::d1::d2::d3::d4::d5::d6::d7::d8::d9::c1::c2::c3::c4::c5::c6::e3::e4::e5::e6::e7::e8::e9::c7::c8::c9::b0::b1::b2::b3::b4::b5::b6::b7::b8::b9::a0::a1::a2::a3::a4::a5::a6::a7::a8::[]).toArray,[]⟩ w:=by
 obtain⟨H3,h7,f0⟩:=h.cells
 have h0:∀W:World,w.grownBy W none->W.cell? ⟨o,3,none⟩=some (.slice (some ⟨ng,0,none⟩) m m)/\W.cell? ⟨P,0,none⟩=some (.int .i64 (k:Int)):=fun W hg=>by
  have q2:=zG (zB H3 hg) 3;simp only[List.getElem_toArray,List.getElem_cons_zero,List.getElem_cons_succ]at q2;exact⟨q2,zJ c0 hg⟩
 have h2:∀W:World,w.grownBy W none->∃u,W.cell? ⟨ng,i,none⟩=some u:=fun W hg=>⟨_,(h7.kept hg (by simp)).cell i (by omega)⟩;have H2:∀W:World,w.grownBy W none->W.frozen? ⟨ng,i,none⟩=false:=fun W hg=>(h7.kept hg (by simp)).frozen i;obtain⟨H,H9,H8⟩:=K3 h h2 H2;have f1:(i:Int)<m:=by omega
 have e1:∀w:World,(Instr.makeSlice 22 (.int .i64 (k:Int)) (.int .i64 (k:Int))).run Try.prog w=.ok (.slice (some ⟨w.heap.size,0,none⟩) k k) (w.alloc (.cells (madeCells #[.int .i64 0] k) 3)) :=
  fun w=>qPD k (by omega) w
 clear h H3 h7 h2 H2 c0;have H4:Hid (∀W:World,w.grownBy W none->W.cell? ⟨o,3,none⟩=some (.slice (some ⟨ng,0,none⟩) m m)/\W.cell? ⟨P,0,none⟩=some (.int .i64 (k:Int))):=Kh (fun W hg=>h0 W hg);clear h0
 conv=>arg 2;whnf
 obtain⟨w7,h5⟩:=Nm w.drew;have H1:w.grownBy w7 none:=by rw[h5];exact zW w none
 have H6:=Kh h5;have H0:=Kh H1;clear h5 H1;refine wp_region_noPanic ?_;refine yQ (G:=wH 7 (fun _=>True) (fun W=>W.cell? ⟨o,3,none⟩=some (.slice (some ⟨ng,0,none⟩) m m)/\W.cell? ⟨P,0,none⟩=some (.int .i64 (k:Int)))) (by kernel_rfl) ?_;rw[<-H6.out];have C:=Kh (H4.out w7 H0.out);refine zO 0 ⟨trivial,fun _=>C.out⟩ ?_;refine xG 1 ⟨trivial,fun _=>C.out⟩ ?_;refine zO 2 ⟨trivial,fun _=>C.out⟩ ?_;refine zO 3 ⟨trivial,fun _=>C.out⟩ ?_;refine xG 4 ⟨trivial,fun _=>C.out⟩ ?_;have h1:=oB (w:=w7) (b:=w7.heap.size) (m:=k) (e:=3) (by rw[aL,yM]) (Nat.le_refl _) (by unfold maxLen;omega);rw[show List.replicate k (Value.int .i64 0)=ints (List.replicate k 0) by simp[ints]]at h1;have h4:=Ga w7 (.cells (madeCells #[.int .i64 0] k) 3) none;obtain⟨cg,h6⟩:=Nm w7.heap.size;obtain⟨w9,h3⟩:=Nm (w7.alloc (.cells (madeCells #[.int .i64 0] k) 3));have h8:Hid (w9.ownsRow w7.heap.size 3 1 (.slice (some ⟨cg,0,none⟩) k k) k (ints (List.replicate k 0))):=Kh (by rw[h6,h3];exact h1);rw[<-h3]at h4;have H7:=Kh h4;have h9:=Kh (zC H0.out h4);have C9:=Kh (H4.out w9 h9.out);have H5:=Kh h3;have e0:=Kh h6;clear h6 h3 h4 h1;refine oneG (i:=5) (by kernel_rfl) rfl (fun K hK=>?_);go_simp;rw[<-e0.out,<-H5.out];refine hK.out _ _ ⟨trivial,fun _=>C9.out⟩ ?_;clear hK K C
 try simp only[Act.put,sPd,sPe,sPf,sPa,sPb,sPc]
 refine zO 6 ⟨trivial,fun _=>C9.out⟩ ?_;obtain⟨u9,q9⟩:=H9.out w9 h9.out;have f9:=H8.out w9 h9.out;refine oneG (i:=7) (by kernel_rfl) rfl (fun K hK=>?_);go_simp;refine hK.out _ _ ⟨trivial,fun h=>by simp at h⟩ ?_;clear hK K q9 f9
 try simp only[Act.put,sPd,sPe,sPf,sPa,sPb,sPc]
 refine tZ (by kernel_rfl) ?_ _;refine NoPanic.normal ?_;exact a9 _ _ _ _ _ _ _  _ cg ((H.out.grow H0.out).begin hi hd H7.out h8.out)
theorem qRN {Q:Exit->Act->World->Prop}{v0 v1 v2 v8 v9 d3 d4 d5 d6 d7 d8 d9 c1 c2 c3 c4 c5 c6 c7 c8 c9 b0 b1 b2 b3 b4 b5 b6 b7 b8 b9 a0 a1 a2 a3 a4 e2 e3 e4 e5 e6 e7 e8 e9 d0 d1 d2 a5 a6 a7:Value}{w6 w:World}{o k m ng sc:Nat}{sa:Option Addr}{ac:List Bool}{hs:List Value}{dn:List (List Int)}{i j y rb ro rc cg:Nat}{z:Int}{xs:List Value}(h:AutS w6 o k m ng sa sc ac hs dn (⟨w6.heap.size,3,.slice (some ⟨cg,0,none⟩) k k,k,xs,1⟩::[]) w)(hi:i<m)(hj:j<k)(e1:y<m)(hm:m<=400)(e0:k<=6)(hh:hs[i]?=some (.slice (some ⟨cg,0,none⟩) k k))(c0:w.cell? ⟨rb,ro+y,none⟩=some (.int .i64 z))(a8:m<=rc/\rc<=maxLen)(a9:∀(z41 z42 z43 z44 z45 z46 z47 z48 z49 z50 z51:Value) (w':World),AutS w6 o k m ng sa sc ac hs dn (⟨w6.heap.size,3,.slice (some ⟨cg,0,none⟩) k k,k,(xs.set j (.int .i64 z)),1⟩::[]) w'->Q .normal ⟨(v0::v1::v2::(Value.pointer (some ⟨o,0,none⟩))::(Value.int .i64 (i:Int))::(Value.slice (some ⟨rb,ro,none⟩) m rc)::(Value.int .i64 (j:Int))::(Value.int .i64 (y:Int))::v8::v9::d3::d4::d5::d6::d7::d8::d9::c1::c2::c3::c4::c5::c6::c7::c8::c9::b0::b1::b2::b3::b4::b5::b6::b7::b8::b9::a0::a1::a2::a3::a4::z41::z42::z43::z44::z45::z46::z47::z48::z49::z50::z51::a5::a6::a7::[]).toArray,[]⟩ w'):Code.wp Try.prog (reg Try.f53 9) Q ⟨(v0::v1::v2::(Value.pointer (some ⟨o,0,none⟩))::(Value.int .i64 (i:Int))::(Value.slice (some ⟨rb,ro,none⟩) m rc)::(Value.int .i64 (j:Int))::(Value.int .i64 (y:Int))::v8::v9::d3::d4::d5::d6::d7::d8::d9::c1::c2::c3::c4::c5::c6::c7::c8::c9::b0::b1::b2::b3::b4::b5::b6::b7::b8::b9::a0::a1::a2::a3::a4::e2::e3::e4::e5::e6::e7::e8::e9::d0::d1::d2::a5::a6::a7::[]).toArray,[]⟩ w:=by
 obtain⟨h7,h8,H3⟩:=h.cells;obtain⟨h4,H2⟩:=h.arrC
 have h0:∀W:World,w.grownBy W none->W.cell? ⟨o,3,none⟩=some (.slice (some ⟨ng,0,none⟩) m m)/\W.cell? ⟨ng,i,none⟩=some (.slice (some ⟨cg,0,none⟩) k k)/\W.cell? ⟨rb,ro+y,none⟩=some (.int .i64 z):=fun W hg=>by
  have q2:=zG (zB h7 hg) 3;simp only[List.getElem_toArray,List.getElem_cons_zero,List.getElem_cons_succ]at q2;exact⟨q2,pE (h8.kept hg (by simp)) hh,zJ c0 hg⟩
 have h1:∀W:World,w.grownBy W none->∃u,W.cell? ⟨cg,j,none⟩=some u:=fun W hg=>⟨_,(h4.kept hg (by simp)).cell j (by omega)⟩;have h6:∀W:World,w.grownBy W none->W.frozen? ⟨cg,j,none⟩=false:=fun W hg=>(h4.kept hg (by simp)).frozen j;obtain⟨H,H6,H5⟩:=K3 h h1 h6;have H9:(i:Int)<m:=by omega
 have H8:(j:Int)<k:=by omega
 have h9:(y:Int)<m:=by omega
 have H1:=a8.1;have H0:rc<=9223372036854775807:=by have:=a8.2;unfold maxLen at this;omega
 clear h h7 h8 h4 h1 h6 c0 hh a8 H3 H2;have H7:Hid (∀W:World,w.grownBy W none->W.cell? ⟨o,3,none⟩=some (.slice (some ⟨ng,0,none⟩) m m)/\W.cell? ⟨ng,i,none⟩=some (.slice (some ⟨cg,0,none⟩) k k)/\W.cell? ⟨rb,ro+y,none⟩=some (.int .i64 z)):=Kh (fun W hg=>h0 W hg);clear h0
 conv=>arg 2;whnf
 obtain⟨w7,h3⟩:=Nm w.drew;have h5:w.grownBy w7 none:=by rw[h3];exact zW w none
 have H4:=Kh h3;have h2:=Kh h5;clear h3 h5;refine wp_region_noPanic ?_;refine yQ (G:=wH 11 (fun _=>True) (fun W=>W.cell? ⟨o,3,none⟩=some (.slice (some ⟨ng,0,none⟩) m m)/\W.cell? ⟨ng,i,none⟩=some (.slice (some ⟨cg,0,none⟩) k k)/\W.cell? ⟨rb,ro+y,none⟩=some (.int .i64 z))) (by kernel_rfl) ?_;rw[<-H4.out];have C:=Kh (H7.out w7 h2.out);refine zO 0 ⟨trivial,fun _=>C.out⟩ ?_;refine xG 1 ⟨trivial,fun _=>C.out⟩ ?_;refine zO 2 ⟨trivial,fun _=>C.out⟩ ?_;refine zO 3 ⟨trivial,fun _=>C.out⟩ ?_;refine xG 4 ⟨trivial,fun _=>C.out⟩ ?_;refine zO 5 ⟨trivial,fun _=>C.out⟩ ?_;refine zO 6 ⟨trivial,fun _=>C.out⟩ ?_;refine zO 7 ⟨trivial,fun _=>C.out⟩ ?_;refine zO 8 ⟨trivial,fun _=>C.out⟩ ?_;refine xG 9 ⟨trivial,fun _=>C.out⟩ ?_;refine zO 10 ⟨trivial,fun _=>C.out⟩ ?_;obtain⟨u9,q9⟩:=H6.out w7 h2.out;have f9:=H5.out w7 h2.out;refine oneG (i:=11) (by kernel_rfl) rfl (fun K hK=>?_);go_simp;refine hK.out _ _ ⟨trivial,fun h=>by simp at h⟩ ?_;clear hK K q9 f9
 try simp only[Act.put,sPd,sPe,sPf,sPa,sPb,sPc]
 refine tZ (by kernel_rfl) ?_ _;refine NoPanic.normal ?_;exact a9 _ _ _ _ _ _ _ _ _ _ _  _ ((H.out.grow h2.out).putC hj _)
end Go.Proofs.Ytobakifdllameaa
