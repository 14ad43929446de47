/- Part 8 of the proof. -/
import Derived.Test.YtcoimliafiammaaGreatQa7
import Derived.Deep.DeepCutAuto
import Derived.Deep.CutBlock
import Derived.StringKeys
set_option linter.unusedVariables false
set_option linter.unusedSimpArgs false
set_option maxRecDepth 100000
set_option maxHeartbeats 16000000
namespace Go.Proofs.YtcoimliafiammaaGreat
open Go.RowKit
structure PatsUp (base:Nat)(w:World)(v:Value)(n:Nat)(svs:List Value)(ps:List (List (List Int))):Prop where
 own:w.ownsRow base 65 1 v n svs
 rows:wO w.heap.size 9 strs w svs ps
theorem RowT.lit {w w':World}{cs:Array Value}{e:TypeId}{row:Option Nat}{q:Nat}{xs:List Value}(hc:cs.toList=xs)(hq:cs.size=q)(hm:q<=maxLen)(hg:(w.alloc (.cells cs e)).grownBy w' row)(hr:row≠some w.heap.size):RowT w'.heap.size e w' (.slice (some ⟨w.heap.size,0,none⟩) q q) xs:=by
 have hb:=zB (heap_alloc_new w (.cells cs e)) hg hr;have hl:xs.length=q:=by rw[<-hc,<-hq];simp
 refine .inr ⟨w.heap.size,0,q,cs,(0,0),by rw[hl],zM hb,by omega,hm,hb,fun i hi=>?_⟩;rw[Nat.zero_add,<-Array.getElem?_toList,hc,List.getElem?_eq_getElem hi]
theorem PatsUp.push {base n q:Nat}{w w':World}{v v':Value}{a9:List Value}{ps:List (List (List Int))}{us:List (List Int)}{cs:Array Value}(h:PatsUp base w v n a9 ps)(hc:cs.toList=strs us)(hq:cs.size=q)(hm:q<=maxLen)(a8:w'.ownsRow base 65 1 v' (n+1) (a9++[.slice (some ⟨w.heap.size,0,none⟩) q q]))(hg:(w.alloc (.cells cs 9)).grownBy w' v.ownBlock):PatsUp base w' v' (n+1) (a9++[.slice (some ⟨w.heap.size,0,none⟩) q q]) (ps++[us])/\w.grownBy w' v.ownBlock:=by
 have h4:∀k,v.ownBlock=some k->k<w.heap.size:=fun k hk=>(h.own.lt k hk).2;have hA:=Ga w (.cells cs 9) none;have h3:=h.own.alloc (.cells cs 9);have h0:=zZ h3 (e':=9) (by decide);refine⟨⟨a8,?_⟩,zC (Ga w _ _) hg⟩;have h1:=h.rows.kept hA (by simp);have h2:=(h1.kept hg (fun k e=>.inr (h0 k e))).mono (Nat.le_trans hA.size hg.size);exact h2.snoc (RowT.lit hc hq hm hg (fun e=>by have:=h4 _ e;omega))
theorem PatsUp.nil (base:Nat)(w:World):PatsUp base w (.slice none 0 0) 0 [] []:=⟨World.ownsRow_nil _ _ _ _,wO.nil⟩
theorem PatsUp.kept {base n:Nat}{w w':World}{v:Value}{a9:List Value}{ps:List (List (List Int))}{row:Option Nat}(h:PatsUp base w v n a9 ps)(hg:w.grownBy w' row)(hr:∀k,row=some k->w.heap.size<=k):PatsUp base w' v n a9 ps:=by
 refine⟨h.own.kept hg ?_,(h.rows.kept hg (fun k e=>.inl (hr k e))).mono hg.size⟩;rcases hv:v.ownBlock with _|k
 ·exact .inl rfl
 exact .inr fun e=>by have:=hr k e.symm;have:=(h.own.lt k hv).2;omega
theorem PatsUp.listed {base n:Nat}{w w0:World}{sa:Option Addr}{sc:Nat}{a9:List Value}{ps:List (List (List Int))}(h:PatsUp base w (.slice sa n sc) n a9 ps)(hg:w0.grownBy w none)(hn:ps.length=n):uG w0 ps (.returned (.slice sa n sc)) w :=
 ⟨sa,sc,a9,by rw[hn],by rw[hn];exact RowT.of_owns h.own,h.rows,hg⟩
theorem uR {B b off sc:Nat}{w:World}{ws:List (List Int)}(h:RowT B 9 w (.slice (some ⟨b,off,none⟩) ws.length sc) (strs ws)){i:Nat}(hi:i<ws.length):w.cell? ⟨b,off+i,none⟩=some (.string (strOfNums ws[i])):=by
 rcases h.row with ⟨_,_,h,_⟩|⟨b',off',cap',hv,_,_,_,hra⟩
 ·have h2:ws.length=0:=by injection h
  omega
 simp only[Value.slice.injEq,Option.some.injEq,Addr.mk.injEq,and_true]at hv;obtain⟨⟨rfl,rfl⟩,_⟩:=hv;have:=hra.map i hi;exact this
theorem qI {B:Nat}{w:World}{sa:Option Addr}{sc:Nat}{ws:List (List Int)}(h:RowT B 9 w (.slice sa ws.length sc) (strs ws))(hp:0<ws.length):∃b off,sa=some ⟨b,off,none⟩/\ws.length<=sc/\sc<=maxLen:=by
 rcases h with ⟨hn,hn2⟩|⟨b,off,cap,cur,m,hv,hb,hc1,hc2,hblk,hcell⟩
 ·have:=congrArg List.length hn2;rw[xC]at this;simp at this;simp[this]at hp
 simp only[Value.slice.injEq]at hv;obtain⟨rfl,_,rfl⟩:=hv;rw[xC]at hc1;exact⟨b,off,rfl,hc1,hc2⟩
def oneB (u:List Int):List (List Int):=[u]
def sufB (u:List Int):List (List Int):=[[],u]
def preB (u:List Int):List (List Int):=[u,[]]
def facB (u:List Int):List (List Int):=[[],u,[]]
theorem fQ {letters k:Nat}(h:1<=letters):1<=(upTo letters (k+1)).length:=by
 rw[xP,List.length_append,uF];have:=Nat.one_le_pow k letters (by omega);omega
theorem qAQ {letters k:Nat}(h:1<=letters)(hk:1<=k):2<=(upTo letters (k+1)).length:=by
 obtain⟨k',rfl⟩:∃k',k=k'+1:=⟨k-1,by omega⟩;rw[xP,xP,List.length_append,List.length_append,uF,uF];have:=Nat.one_le_pow k' letters (by omega);have:=Nat.one_le_pow (k'+1) letters (by omega);omega
theorem rK {letters n:Nat}(hn:n<=9){u:List Int}(hu:u∈upTo letters n):u.length<=8:=by
 simp only[upTo,List.mem_flatMap,List.mem_range]at hu;obtain⟨m,hm,hu⟩:=hu;rw[(rG hu).1];omega
theorem xQ {α β:Type}(f:α->β)(l:List α)(j:Nat)(h:j<l.length):(l.take (j+1)).map f=(l.take j).map f++[f l[j]]:=by
 rw[List.take_succ_eq_append_getElem h,List.map_append];rfl
theorem qSO (letters k:Nat)(w:World)(h1:1<=letters)(h6:letters<=6)(hk:k<=8):Calls Tryz.prog 45 #[.int .i64 1,.int .i64 letters,.int .i64 (k:Int)] w (uG w ([]++((upTo letters (k+1)).drop 0).map oneB)):=by
 obtain⟨wa,h4⟩:=Nm (upTo letters (k+1));have a4:1<=wa.length:=by rw[h4];exact fQ h1
 have a5:wa.length<=20000000:=by rw[h4];have:=tX letters h6 (k+1) (by omega);omega
 rw[<-h4];have h7:=Kh h4;have H1:=Kh (mC letters k w h1 h6 (by omega));rw[<-h4]at H1;clear h4;go_enter Tryz.func45,Tryz.ntmps45;go_wp2_with fail;refine H1.out.mono ?_;rintro e w1 ⟨sa,sc,rfl,h3,H0⟩;obtain⟨b,off,rfl,a6,H9⟩:=qI h3 (by omega);have H6:=Kh H0.size;clear H1;unfold maxLen at H9;go_wp2
 go_loopw [8,27] (fun v i wr=>∃(sl:Option Addr) (c j:Nat) (svs:List Value),i=.int .i64 j/\j<=wa.length/\v=.slice sl j c /\
   PatsUp w1.heap.size wr v j svs ([]++((wa.drop 0).take j).map oneB)/\RowT w1.heap.size 9 wr (.slice (some ⟨b,off,none⟩) wa.length sc) (strs wa)/\w.grownBy wr none/\w1.heap.size<=wr.heap.size)
  (fun _ i _=>wa.length-(intOf i).toNat)
 case atStart=>exact⟨_,_,0,_,rfl,Nat.zero_le _,rfl,by simpa using PatsUp.nil _ _,h3,H0,Nat.le_refl _⟩
 clear h3 H0;obtain⟨sl,c,j,svs,rfl,hj,rfl,H2,hT,hg,hs⟩:=hrel;have h5:=Kh H2;clear H2;by_cases hlt:j<wa.length
 ·have H7:(j:Int)<((wa.length:Nat):Int):=by omega
  have h2:wr.cell? ⟨b,off+j,none⟩=some (.string (strOfNums wa[j])):=by
   have:=uR hT (i:=j) (by omega);exact this
  have hu:=rK (letters:=letters) (n:=k+1) (by omega) (u:=wa[j]) (by rw[<-h7.out];exact List.getElem_mem (by omega));obtain⟨u,h9⟩:=Nm (wa[j]);have HU:=Kh h9;rw[<-h9]at hu h2;clear h9;have H4:=h5.out.own.alloc (.cells #[.string (strOfNums u)] 9);go_wp2_with (at_builtin;refine app1 rfl (.tmp 31) (.tmp 35) _ rfl qG w1.heap.size _ j svs rfl H4 _ (by rw[zL];rfl) rfl ?c1 ?c2 ?c3 ?_)
  case c1=>unfold maxLen;omega
  case c2=>omega
  case c3=>rw[zL];have:=hg.size;have:=H6.out;omega
  intro sl' c' w3 h0 H5 _;obtain⟨H3,h8⟩:=h5.out.push (us:=oneB u) (cs:=#[.string (strOfNums u)]) (q:=1) rfl rfl (by unfold maxLen;omega) h0 H5;have a0:=fun q (e:(Value.slice sl j c).ownBlock=some q)=>(h5.out.own.lt q e).1;have a1:=hT.kept h8 (fun q e=>.inr (zZ h5.out.own (by decide) q e));have H8:=zA hg h8 (fun q e=>by have:=a0 q e;have:=H6.out;omega);have a3:=h8.size;have a2:=Kh H3;clear h0 H5 H4 h2 h8 H3 hT;go_wp2;go_roundw
  case rel =>
   refine⟨sl',c',j+1,svs++[Value.slice (some ⟨wr.heap.size,0,none⟩) 1 1],by go_num,by omega,rfl,?_,a1,H8,by omega⟩
   have e7:[]++((wa.drop 0).take (j+1)).map oneB=([]++((wa.drop 0).take j).map oneB)++[oneB u]:=by
    have e9:(wa.drop 0)[j]'(by rw[List.length_drop];omega)=u:=by rw[HU.out];simp
    rw[xQ oneB _ j (by rw[List.length_drop];omega),e9];simp only[List.append_assoc]
   rw[e7];exact a2.out
  simp[intOf];omega
 obtain rfl:j=wa.length:=by omega
 have e8:[]++((wa.drop 0).take (wa.length)).map oneB=[]++(wa.drop 0).map oneB:=by rw[List.take_of_length_le (by rw[List.length_drop];omega)]
 rw[e8]at h5;clear e8 hlt;go_wp2;go_ret;exact h5.out.listed hg (by simp<;>omega)
def EsS (B Bw b off len sc:Nat)(ws:List (List Int))(w wx:World)(v:Value)(G:List (List (List Int))):Prop :=
 ∃(n:Nat) (sl:Option Addr) (c:Nat) (svs:List Value),v=.slice sl n c/\PatsUp B wx (.slice sl n c) n svs G/\RowT Bw 9 wx (.slice (some ⟨b,off,none⟩) len sc) (strs ws)/\w.grownBy wx none/\Bw<=wx.heap.size
theorem EsS.shape {B Bw b off len sc:Nat}{ws:List (List Int)}{w wx:World}{v:Value}{G:List (List (List Int))}(h:EsS B Bw b off len sc ws w wx v G):∃n sl c,v=.slice sl n c/\EsS B Bw b off len sc ws w wx (.slice sl n c) G:=by
 obtain⟨n,sl,c,svs,rfl,h⟩:=h;exact⟨n,sl,c,rfl,n,sl,c,svs,rfl,h⟩
theorem EsS.words {B Bw b off sc len:Nat}{ws:List (List Int)}{w wx:World}{v:Value}{G:List (List (List Int))}(h:EsS B Bw b off len sc ws w wx v G):RowT Bw 9 wx (.slice (some ⟨b,off,none⟩) len sc) (strs ws):=by
 obtain⟨n,sl,c,svs,rfl,h1,h2,h3⟩:=h;exact h2
theorem qCD {ops:Array Oper}{a9:List Oper}{o:Oper}{a:Act}{Q:Exit->Act->World->Prop}(a8:o.guard=none)(s x:Operand)(ho:o.op=.call { callee:=.builtin .append,args:=#[s,x],argTypes:=#[32,32] }){B Bw b off len sc n c q:Nat}{sl:Option Addr}{ws us:List (List Int)}{G:List (List (List Int))}{w wo:World}{cs:Array Value}(hF:EsS B Bw b off len sc ws w wo (.slice sl n c) G)(hn:G.length<=100000000)(a7:w.heap.size<=B)(a6:B<=Bw)(hc:cs.toList=strs us)(hq:cs.size=q)(hm:q<=maxLen)(hs:a.eval s=.slice sl n c)(hx:a.eval x=.slice (some ⟨wo.heap.size+1,0,none⟩) 1 1)(h:∀sl' c' w3,EsS B Bw b off len sc ws w w3 (.slice sl' (n+1) c') (G++[us])->wpList Tryz.prog ops Q a9 (a.put o.dst (.slice sl' (n+1) c')) w3):wpList Tryz.prog ops Q (o::a9) a ((wo.alloc (.cells cs 9)).alloc (.cells #[.slice (some ⟨wo.heap.size,0,none⟩) q q] 65)):=by
 obtain⟨n',sl',c',svs,e,hL,hT,hg,h7⟩:=hF;injection e with e1 e2 e3;subst e1;subst e2;subst e3;have h6:n=G.length:=by have:=hL.own.1;have:=hL.rows.1;omega
 have h3:=hL.own.alloc (.cells cs 9);refine app1 a8 s x _ ho qG B _ n svs hs h3 _ (by rw[zL];exact hx) rfl (by unfold maxLen;omega) (by omega) (by rw[zL];omega) ?_;intro sl1 c1 wp1 h0 h4 _;obtain⟨h2,h1⟩:=hL.push hc hq hm h0 h4;have h5:=fun q (e:(Value.slice sl n c).ownBlock=some q)=>(hL.own.lt q e).1;exact h sl1 c1 wp1 ⟨n+1,sl1,c1,_,rfl,h2,hT.kept h1 (fun q e=>.inr (zZ hL.own (by decide) q e)),zA hg h1 (fun q e=>by have:=h5 q e;omega),by have:=h1.size;omega⟩
theorem jV (KD:Int)(letters k kk:Nat)(w:World)(a7:2<=KD)(a8:KD<=5)(h1:1<=letters)(h6:letters<=6)(hk:k<=7)(a9:kk=k+1):Calls Tryz.prog 45 #[.int .i64 KD,.int .i64 letters,.int .i64 (kk:Int)] w (uG w (((([]++((upTo letters (k+1)).drop 0).map oneB)++if KD≠2 then ((upTo letters (kk+1)).drop 1).map sufB else [])++if KD≠3 then ((upTo letters (kk+1)).drop 1).map preB else [])++if KD=5 then ((upTo letters (kk+1)).drop 1).map facB else [])):=by
 obtain⟨wa,H5⟩:=Nm (upTo letters (k+1));have c1:1<=wa.length:=by rw[H5];exact fQ h1
 have c3:wa.length<=20000000:=by rw[H5];have:=tX letters h6 (k+1) (by omega);omega
 rw[<-H5];have H7:=Kh H5;have a3:=Kh (mC letters k w h1 h6 (by omega));rw[<-H5]at a3;clear H5;obtain⟨wb,H4⟩:=Nm (upTo letters (kk+1));have c0:2<=wb.length:=by rw[H4];exact qAQ h1 (by omega)
 have c2:wb.length<=20000000:=by rw[H4];have:=tX letters h6 (kk+1) (by omega);omega
 rw[<-H4];have h9:=Kh H4;have b9:Hid (∀W,Calls Tryz.prog 62 #[.int .i64 letters,.int .i64 (kk:Int)] W (qLK W wb)):=Kh (fun W=>by rw[H4];exact mC letters kk W h1 h6 (by omega));clear H4;obtain⟨RES,H2⟩:=Nm ((((([]++(wa.drop 0).map oneB)++if KD≠2 then (wb.drop 1).map sufB else [])++if KD≠3 then (wb.drop 1).map preB else [])++if KD=5 then (wb.drop 1).map facB else []));rw[<-H2];have a2:=Kh H2;clear H2;have c8:(kk:Int)-1=(k:Int):=by omega
 have b1:kk<=8:=by omega
 have ek1:(KD == 1)=false:=by rw[beq_eq_false_iff_ne];omega
 clear a9;go_enter Tryz.func45,Tryz.ntmps45;go_wp2_with fail;refine a3.out.mono ?_;rintro e w1 ⟨sa,sc,rfl,H0,a1⟩;obtain⟨b,off,rfl,d1,b4⟩:=qI H0 (by omega);have a0:=Kh a1.size;have HF:Hid (EsS w1.heap.size w1.heap.size b off wa.length sc wa w w1 (.slice none 0 0) []):=Kh ⟨0,none,0,[],rfl,PatsUp.nil _ _,H0,a1,Nat.le_refl _⟩;clear a3 H0 a1;unfold maxLen at b4;go_wp2
 go_loopg [8,27] (wa.length) (fun gh v i wr=>∃j:Nat,gh+j=wa.length/\i=.int .i64 j/\EsS w1.heap.size w1.heap.size b off wa.length sc wa w wr v (([]:List (List (List Int)))++((wa.drop 0).take j).map oneB))
 case atStart=>exact⟨0,rfl,rfl,by simpa using HF.out⟩
 clear HF;obtain⟨j,h7,rfl,hF⟩:=hrel;have h3:=Kh h7;clear h7;obtain⟨n,sl,c,rfl,hF⟩:=hF.shape;have HF:=Kh hF;by_cases hlt:j<wa.length
 ·have H1:(j:Int)<((wa.length:Nat):Int):=by omega
  have h0:=uR hF.words (i:=j) (by omega);skip;have hu:=rK (letters:=letters) (n:=k+1) (by omega) (u:=wa[j]) (by rw[<-H7.out];exact List.getElem_mem (by omega));obtain⟨u,h2⟩:=Nm (wa[j]);have HU:=Kh h2;have h5:(([]:List (List (List Int)))++((wa.drop 0).take j).map oneB).length<=100000000:=by simp only[List.length_append,List.length_nil,List.length_map,List.length_take];omega
  rw[<-h2]at hu h0;clear h2 hF;go_wp2_with (at_builtin;refine qCD rfl (.tmp 31) (.tmp 35) rfl HF.out h5 a0.out (by omega) (us:=oneB u) (cs:=#[.string (strOfNums u)]) (q:=1) rfl rfl (by unfold maxLen;omega) rfl rfl ?_;intro sl' c' w3 h8);have H3:=Kh h8;clear h8 h0 h5;go_wp2;go_roundg (wa.length-(j+1))
  case measure=>have:=h3.out;omega
  have e9:(wa.drop 0)[j]'(by rw[List.length_drop];omega)=u:=by rw[HU.out];simp
  exact⟨j+1,by have:=h3.out;omega,by go_num,by rw[xQ oneB _ j (by rw[List.length_drop];omega),e9,<-List.append_assoc];exact H3.out⟩
 obtain rfl:j=wa.length:=by have:=h3.out;omega
 rw[List.take_of_length_le (by rw[List.length_drop];omega)]at HF;clear hlt hF;go_wp2_with fail;refine(b9.out _).mono ?_;rintro e w2 ⟨sa2,sc2,rfl,h4,H8⟩;obtain⟨n',sl',c',svs,e,hL,hT,hg,hs⟩:=HF.out;injection e with e1 e2 e3;subst e1;subst e2;subst e3;have a4:=hL.kept H8 (by simp);have H6:=zA hg H8;obtain⟨b2,off2,rfl,d0,b3⟩:=qI h4 (by omega);have c9:(1:Int)<sc2:=(by omega);have a6:w1.heap.size<=w2.heap.size:=Nat.le_trans hs H8.size;unfold maxLen at b3;obtain⟨G1,H9⟩:=Nm ([]++(wa.drop 0).map oneB);have a5:Hid (EsS w1.heap.size w2.heap.size b2 off2 wb.length sc2 wb w w2 (.slice sl n c) G1):=Kh ⟨n,sl,c,svs,rfl,by rw[H9];exact a4,h4,H6,Nat.le_refl _⟩;have b8:=Kh H9;have c7:G1.length<=20000000:=by rw[H9];simp;omega
 clear H9 hL hT hg H8 hs a4 h4 H6 HF;have HF:=a5;clear a5
 go_upto_if 46 with fail
 go_cut [8] (fun v wx=>EsS w1.heap.size w2.heap.size b2 off2 wb.length sc2 wb w wx v (G1++if KD≠2 then (wb.drop 1).map sufB else []))
 case first =>
  by_cases hc:KD≠2
  ·have ec:(KD != 2)=true:=by rw[bne_iff_ne];exact hc
   rw[ec];have HC:=Kh hc;clear hc;go_wp2
   go_loopg [8,49] (wb.length-1) (fun gh v i wr=>∃j:Nat,gh+j=wb.length-1/\i=.int .i64 j/\EsS w1.heap.size w2.heap.size b2 off2 wb.length sc2 wb w wr v (G1++((wb.drop 1).take j).map sufB))
   case atStart=>exact⟨0,rfl,rfl,by simpa using HF.out⟩
   clear HF;obtain⟨j,h7,rfl,hF⟩:=hrel;have h3:=Kh h7;clear h7;obtain⟨n,sl,c,rfl,hF⟩:=hF.shape;have HF:=Kh hF;by_cases hlt:j<wb.length-1
   ·have H1:(j:Int)<((wb.length-1:Nat):Int):=by omega
    have h0:=uR hF.words (i:=1+j) (by omega);rw[<-Nat.add_assoc]at h0;have hu:=rK (letters:=letters) (n:=kk+1) (by omega) (u:=wb[1+j]) (by rw[<-h9.out];exact List.getElem_mem (by omega));obtain⟨u,h2⟩:=Nm (wb[1+j]);have HU:=Kh h2;have h5:(G1++((wb.drop 1).take j).map sufB).length<=100000000:=by simp only[List.length_append,List.length_nil,List.length_map,List.length_take];omega
    rw[<-h2]at hu h0;clear h2 hF;go_wp2_with (at_builtin;refine qCD rfl (.tmp 53) (.tmp 57) rfl HF.out h5 a0.out (by omega) (us:=sufB u) (cs:=#[.string ⟨#[]⟩,.string (strOfNums u)]) (q:=2) rfl rfl (by unfold maxLen;omega) rfl rfl ?_;intro sl' c' w3 h8);have H3:=Kh h8;clear h8 h0 h5;go_wp2;go_roundg (wb.length-1-(j+1))
    case measure=>have:=h3.out;omega
    have e9:(wb.drop 1)[j]'(by rw[List.length_drop];omega)=u:=by rw[HU.out];simp[Nat.add_comm]
    exact⟨j+1,by have:=h3.out;omega,by go_num,by rw[xQ sufB _ j (by rw[List.length_drop];omega),e9,<-List.append_assoc];exact H3.out⟩
   obtain rfl:j=wb.length-1:=by have:=h3.out;omega
   rw[List.take_of_length_le (by rw[List.length_drop];omega)]at HF;clear hlt hF;go_wp2
   go_meet
   rw[if_pos HC.out];exact HF.out
  have ec:(KD != 2)=false:=by rw[show KD=2 by omega];rfl
  have HC:=Kh hc;clear hc;go_wp2
  go_meet
  rw[if_neg HC.out,List.append_nil];exact HF.out
 obtain⟨n,sl,c,rfl,hF⟩:=hcut.shape;have HF:=Kh hF;clear hcut hF;obtain⟨G2,hG⟩:=Nm (G1++if KD≠2 then (wb.drop 1).map sufB else []);rw[<-hG]at HF;have c6:G2.length<=30000000+10000000:=by rw[hG,List.length_append];split<;>simp<;>omega
 have b7:=Kh hG;clear hG
 go_upto_if 61 with fail
 go_cut [8] (fun v wx=>EsS w1.heap.size w2.heap.size b2 off2 wb.length sc2 wb w wx v (G2++if KD≠3 then (wb.drop 1).map preB else []))
 case first =>
  by_cases hc:KD≠3
  ·have ec:(KD != 3)=true:=by rw[bne_iff_ne];exact hc
   rw[ec];have HC:=Kh hc;clear hc;go_wp2
   go_loopg [8,64] (wb.length-1) (fun gh v i wr=>∃j:Nat,gh+j=wb.length-1/\i=.int .i64 j/\EsS w1.heap.size w2.heap.size b2 off2 wb.length sc2 wb w wr v (G2++((wb.drop 1).take j).map preB))
   case atStart=>exact⟨0,rfl,rfl,by simpa using HF.out⟩
   clear HF;obtain⟨j,h7,rfl,hF⟩:=hrel;have h3:=Kh h7;clear h7;obtain⟨n,sl,c,rfl,hF⟩:=hF.shape;have HF:=Kh hF;by_cases hlt:j<wb.length-1
   ·have H1:(j:Int)<((wb.length-1:Nat):Int):=by omega
    have h0:=uR hF.words (i:=1+j) (by omega);rw[<-Nat.add_assoc]at h0;have hu:=rK (letters:=letters) (n:=kk+1) (by omega) (u:=wb[1+j]) (by rw[<-h9.out];exact List.getElem_mem (by omega));obtain⟨u,h2⟩:=Nm (wb[1+j]);have HU:=Kh h2;have h5:(G2++((wb.drop 1).take j).map preB).length<=100000000:=by simp only[List.length_append,List.length_nil,List.length_map,List.length_take];omega
    rw[<-h2]at hu h0;clear h2 hF;go_wp2_with (at_builtin;refine qCD rfl (.tmp 68) (.tmp 72) rfl HF.out h5 a0.out (by omega) (us:=preB u) (cs:=#[.string (strOfNums u),.string ⟨#[]⟩]) (q:=2) rfl rfl (by unfold maxLen;omega) rfl rfl ?_;intro sl' c' w3 h8);have H3:=Kh h8;clear h8 h0 h5;go_wp2;go_roundg (wb.length-1-(j+1))
    case measure=>have:=h3.out;omega
    have e9:(wb.drop 1)[j]'(by rw[List.length_drop];omega)=u:=by rw[HU.out];simp[Nat.add_comm]
    exact⟨j+1,by have:=h3.out;omega,by go_num,by rw[xQ preB _ j (by rw[List.length_drop];omega),e9,<-List.append_assoc];exact H3.out⟩
   obtain rfl:j=wb.length-1:=by have:=h3.out;omega
   rw[List.take_of_length_le (by rw[List.length_drop];omega)]at HF;clear hlt hF;go_wp2
   go_meet
   rw[if_pos HC.out];exact HF.out
  have ec:(KD != 3)=false:=by rw[show KD=3 by omega];rfl
  have HC:=Kh hc;clear hc;go_wp2
  go_meet
  rw[if_neg HC.out,List.append_nil];exact HF.out
 obtain⟨n,sl,c,rfl,hF⟩:=hcut.shape;have HF:=Kh hF;clear hcut hF;obtain⟨G3,hG⟩:=Nm (G2++if KD≠3 then (wb.drop 1).map preB else []);rw[<-hG]at HF;have c5:G3.length<=40000000+20000000:=by rw[hG,List.length_append];split<;>simp<;>omega
 have b6:=Kh hG;clear hG
 go_upto_if 76 with fail
 go_cut [8] (fun v wx=>EsS w1.heap.size w2.heap.size b2 off2 wb.length sc2 wb w wx v (G3++if KD=5 then (wb.drop 1).map facB else []))
 case first =>
  by_cases hc:KD=5
  ·have ec:(KD == 5)=true:=by rw[hc];rfl
   rw[ec];have HC:=Kh hc;clear hc;go_wp2
   go_loopg [8,79] (wb.length-1) (fun gh v i wr=>∃j:Nat,gh+j=wb.length-1/\i=.int .i64 j/\EsS w1.heap.size w2.heap.size b2 off2 wb.length sc2 wb w wr v (G3++((wb.drop 1).take j).map facB))
   case atStart=>exact⟨0,rfl,rfl,by simpa using HF.out⟩
   clear HF;obtain⟨j,h7,rfl,hF⟩:=hrel;have h3:=Kh h7;clear h7;obtain⟨n,sl,c,rfl,hF⟩:=hF.shape;have HF:=Kh hF;by_cases hlt:j<wb.length-1
   ·have H1:(j:Int)<((wb.length-1:Nat):Int):=by omega
    have h0:=uR hF.words (i:=1+j) (by omega);rw[<-Nat.add_assoc]at h0;have hu:=rK (letters:=letters) (n:=kk+1) (by omega) (u:=wb[1+j]) (by rw[<-h9.out];exact List.getElem_mem (by omega));obtain⟨u,h2⟩:=Nm (wb[1+j]);have HU:=Kh h2;have h5:(G3++((wb.drop 1).take j).map facB).length<=100000000:=by simp only[List.length_append,List.length_nil,List.length_map,List.length_take];omega
    rw[<-h2]at hu h0;clear h2 hF;go_wp2_with (at_builtin;refine qCD rfl (.tmp 83) (.tmp 87) rfl HF.out h5 a0.out (by omega) (us:=facB u) (cs:=#[.string ⟨#[]⟩,.string (strOfNums u),.string ⟨#[]⟩]) (q:=3) rfl rfl (by unfold maxLen;omega) rfl rfl ?_;intro sl' c' w3 h8);have H3:=Kh h8;clear h8 h0 h5;go_wp2;go_roundg (wb.length-1-(j+1))
    case measure=>have:=h3.out;omega
    have e9:(wb.drop 1)[j]'(by rw[List.length_drop];omega)=u:=by rw[HU.out];simp[Nat.add_comm]
    exact⟨j+1,by have:=h3.out;omega,by go_num,by rw[xQ facB _ j (by rw[List.length_drop];omega),e9,<-List.append_assoc];exact H3.out⟩
   obtain rfl:j=wb.length-1:=by have:=h3.out;omega
   rw[List.take_of_length_le (by rw[List.length_drop];omega)]at HF;clear hlt hF;go_wp2
   go_meet
   rw[if_pos HC.out];exact HF.out
  have ec:(KD == 5)=false:=by rw[beq_eq_false_iff_ne];exact hc
  have HC:=Kh hc;clear hc;go_wp2
  go_meet
  rw[if_neg HC.out,List.append_nil];exact HF.out
 obtain⟨n,sl,c,rfl,hF⟩:=hcut.shape;have HF:=Kh hF;clear hcut hF;obtain⟨G4,hG⟩:=Nm (G3++if KD=5 then (wb.drop 1).map facB else []);rw[<-hG]at HF;have c4:G4.length<=50000000+30000000:=by rw[hG,List.length_append];split<;>simp<;>omega
 have b5:=Kh hG;clear hG;obtain⟨n',sl',c',svs,e,hL,hT,hg,hs⟩:=HF.out;injection e with e1 e2 e3;subst e1;subst e2;subst e3;have HL:=Kh hL;have HG:=Kh hg;have b0:n=G4.length:=by have:=hL.own.1;have:=hL.rows.1;omega
 clear hL hT hg hs HF;subst b0;go_wp2;go_ret;rw[a2.out,<-b8.out,<-b7.out,<-b6.out,<-b5.out];exact HL.out.listed HG.out rfl
theorem qSN (letters k kk:Nat)(w:World)(h1:1<=letters)(h6:letters<=6)(hk:k<=7)(a9:kk=k+1):Calls Tryz.prog 45 #[.int .i64 2,.int .i64 letters,.int .i64 (kk:Int)] w (uG w (([]++((upTo letters (k+1)).drop 0).map oneB)++((upTo letters (kk+1)).drop 1).map preB)):=by
 simpa only[ne_eq,not_true_eq_false,if_false,List.append_nil,if_pos (show ¬(2:Int)=3 by decide),if_neg (show ¬(2:Int)=5 by decide)] using jV 2 letters k kk w (by decide) (by decide) h1 h6 hk a9
theorem qSM (letters k kk:Nat)(w:World)(h1:1<=letters)(h6:letters<=6)(hk:k<=7)(a9:kk=k+1):Calls Tryz.prog 45 #[.int .i64 3,.int .i64 letters,.int .i64 (kk:Int)] w (uG w (([]++((upTo letters (k+1)).drop 0).map oneB)++((upTo letters (kk+1)).drop 1).map sufB)):=by
 simpa only[ne_eq,not_true_eq_false,if_false,List.append_nil,if_pos (show ¬(3:Int)=2 by decide),if_neg (show ¬(3:Int)=5 by decide)] using jV 3 letters k kk w (by decide) (by decide) h1 h6 hk a9
theorem qSL (letters k kk:Nat)(w:World)(h1:1<=letters)(h6:letters<=6)(hk:k<=7)(a9:kk=k+1):Calls Tryz.prog 45 #[.int .i64 4,.int .i64 letters,.int .i64 (kk:Int)] w (uG w ((([]++((upTo letters (k+1)).drop 0).map oneB)++((upTo letters (kk+1)).drop 1).map sufB)++((upTo letters (kk+1)).drop 1).map preB)):=by
 simpa only[ne_eq,if_pos (show ¬(4:Int)=2 by decide),if_pos (show ¬(4:Int)=3 by decide),if_neg (show ¬(4:Int)=5 by decide),List.append_nil] using jV 4 letters k kk w (by decide) (by decide) h1 h6 hk a9
theorem qSK (letters k kk:Nat)(w:World)(h1:1<=letters)(h6:letters<=6)(hk:k<=7)(a9:kk=k+1):Calls Tryz.prog 45 #[.int .i64 5,.int .i64 letters,.int .i64 (kk:Int)] w (uG w (((([]++((upTo letters (k+1)).drop 0).map oneB)++((upTo letters (kk+1)).drop 1).map sufB)++((upTo letters (kk+1)).drop 1).map preB)++((upTo letters (kk+1)).drop 1).map facB)):=by
 simpa only[ne_eq,if_pos (show ¬(5:Int)=2 by decide),if_pos (show ¬(5:Int)=3 by decide),if_true] using jV 5 letters k kk w (by decide) (by decide) h1 h6 hk a9
theorem qZY {P:Program}{w:World}{ops:Array Oper}{a9:List Oper}{o:Oper}{a:Act}{Q:Exit->Act->World->Prop}(a8:o.guard=none)(l c:Operand)(t:TypeId)(ho:o.op=.makeSlice t l c){e:TypeId}{z:Value}{bytes:Nat}(E:ElemOk P t e z bytes)(kl kc:IntKind)(C:Int)(n:Nat)(hl:a.eval l=.int kl 0)(hc:a.eval c=.int kc C)(hC:C=(n:Int))(hb:bytes*n<=281474976710656)(a7:n<=maxLen)(h:∀w',w'.ownsRow w.heap.size e 1 (.slice (some ⟨w.heap.size,0,none⟩) 0 n) 0 []->w.grownBy w' none->wpList P ops Q a9 (a.put o.dst (.slice (some ⟨w.heap.size,0,none⟩) 0 n)) w'):wpList P ops Q (o::a9) a w:=by
 obtain⟨i,hi,h0,h1,h2⟩:=info_parts E.hi;exact wpList_make_own w a8 l c t ho w.heap.size e i z 1 E.ht hi h0 h1 kl kc C n hl hc hC (by rw[h2];exact hb) a7 (Nat.le_refl _) h
theorem eQ (bs:List (List Int))(u:List Int):strs bs++[Value.string (strOfNums u)]=strs (bs++[u]):=by rw[tY];rfl
def eE (w:World)(bs:List (List Int))(u:List Int)(e:Ending)(w':World):Prop :=
 ∃(sa:Option Addr) (sc:Nat),e=.returned (.slice sa (bs.length+1) sc)/\w'.ownsRow w.heap.size 9 1 (.slice sa (bs.length+1) sc) (bs.length+1) (strs (bs++[u]))/\w.grownBy w' none
theorem fD (B:Nat)(w:World)(v:Value)(bs:List (List Int))(u:List Int)(h:Row B w v (strs bs))(hl:bs.length<=100):Calls Tryz.prog 63 #[v,.string (strOfNums u)] w (eE w bs u):=by
 have H:=Kh h;obtain⟨va,vc,rfl⟩:=h.shape;rw[xC]at H⊢;obtain⟨n,hn⟩:=Nm bs.length;rw[<-hn]at H hl;have HN:=Kh hn
 have h4:∀x∈strs bs,x.oneCell'=true:=fun x hx=>by
  obtain⟨y,_,rfl⟩:=List.mem_map.1 hx;rfl
 have h6:=Kh h4;unfold eE;rw[<-hn];clear h hn h4;go_enter Tryz.func63,Tryz.ntmps63;go_wp2_with (at_make;refine qZY rfl _ _ _ rfl tI .i64 .i64 _ (n+1) rfl rfl ?m1 ?m2 ?m3 ?_)
 case m1=>omega
 case m2=>omega
 case m3=>unfold maxLen;omega
 intro w1 h2 h5;have h7:=H.out.kept h5 (by simp);go_wp2_with (at_builtin;refine appR rfl (.tmp 8) (.tmp 9) _ rfl tI w.heap.size _ 0 [] rfl h2 _ (strs bs) rfl ⟨_,h7⟩ h6.out n ?a1 ?a2 ?a3 ?a4 ?_)
 case a1=>rw[xC,<-HN.out];omega
 case a2=>unfold maxLen;omega
 case a3=>omega
 case a4=>exact h5.size
 intro s2 c2 w2 h1 h9;have H1:=fun q (e:(Value.slice (some ⟨w.heap.size,0,none⟩) 0 (n+1)).ownBlock=some q)=>(h2.lt q e).1;have h3:=zA h5 h9 H1;go_wp2_with (at_builtin;refine app1 rfl (.tmp 10) (.tmp 12) _ rfl tI w.heap.size _ n (strs bs) rfl h1 _ rfl rfl ?c1 ?c2 ?c3 ?_)
 case c1=>unfold maxLen;omega
 case c2=>omega
 case c3=>exact h3.size
 intro s3 c3 w3 h0 h8 _;have H0:=fun q (e:(Value.slice s2 n c2).ownBlock=some q)=>(h1.lt q e).1;rw[eQ]at h0;have H2:=Kh h0;have H3:=Kh (zA h3 h8 H0);clear h2 h1 h0 h5 h9 h8 H1 H0 h3 h7;go_wp2;go_ret;exact⟨s3,c3,rfl,H2.out,H3.out⟩
open Go.Maps
theorem pN:Tryz.prog.underlying 108=some (.map 9 3):=by kernel_rfl
theorem mE:Tryz.prog.underlying 9=some .string:=by kernel_rfl
theorem lT:Keyed Tryz.prog 9:=string_keyed mE
def kb (l:List Nat):List Nat:=l.flatMap fun q=>[q / 256,q % 256]
def kbR (l:List Nat):List Nat:=l.flatMap fun q=>[q % 256,q / 256]
theorem qRV (l:List Nat):(kb l).length=2*l.length:=by
 induction l with
 | nil=>rfl
 | cons x l ih=>simp only[kb,List.flatMap_cons,List.length_append,List.length_cons,List.length_nil]at ih⊢;omega
theorem qAG (l:List Nat):(kbR l).length=2*l.length:=by
 induction l with
 | nil=>rfl
 | cons x l ih=>simp only[kbR,List.flatMap_cons,List.length_append,List.length_cons,List.length_nil]at ih⊢;omega
theorem xAC (l:List Nat)(x:Nat):kb (l++[x])=kb l++[x / 256,x % 256]:=by simp[kb]
theorem qWU (l:List Nat)(x:Nat):kbR (l++[x])=kbR l++[x % 256,x / 256]:=by simp[kbR]
theorem qYN:∀ {l m:List Nat},kb l=kb m->l=m
 | [],[],_=>rfl
 | [],y::m,h=>by simp[kb]at h
 | x::l,[],h=>by simp[kb]at h
 | x::l,y::m,h=>by
  simp only[kb,List.flatMap_cons,List.cons_append,List.nil_append,List.cons.injEq]at h
  obtain⟨h1,h2,h3⟩:=h
  rw[qYN (l:=l) (m:=m) h3,show x=y by omega]
theorem qRW:∀ {l m:List Nat},kbR l=kbR m->l=m
 | [],[],_=>rfl
 | [],y::m,h=>by simp[kbR]at h
 | x::l,[],h=>by simp[kbR]at h
 | x::l,y::m,h=>by
  simp only[kbR,List.flatMap_cons,List.cons_append,List.nil_append,List.cons.injEq]at h
  obtain⟨h1,h2,h3⟩:=h
  rw[qRW (l:=l) (m:=m) h3,show x=y by omega]
def pA (n:Nat)(l:List Nat):Prop:=l.length=n/\∀x∈l,x<512
theorem qKK {n:Nat}{l:List Nat}(h:pA n l):∀x∈kb l,x<256:=by
 intro x hx;simp only[kb,List.mem_flatMap,List.mem_cons,List.not_mem_nil,or_false]at hx;obtain⟨q,hq,hx⟩:=hx;have:=h.2 q hq;omega
theorem qEZ {n:Nat}{l:List Nat}(h:pA n l):∀x∈kbR l,x<256:=by
 intro x hx;simp only[kbR,List.mem_flatMap,List.mem_cons,List.not_mem_nil,or_false]at hx;obtain⟨q,hq,hx⟩:=hx;have:=h.2 q hq;omega
theorem oG (l:List Nat):(txtT l).size=l.length:=by
 have:(txtT l).size=(txtT l).data.toList.length:=by rw[Array.length_toList];rfl
 rw[this];unfold txtT;rw[strOfNums_data];simp[zb]
theorem xBV {n:Nat}(h:n<=400):KeyK 108 9 (pA n) (fun l=>.string (txtT (kb l))) where
 key:=lT
 und:=pN
 of:=fun a ha=>by rw[Go.WideMaps.keyOf_string_mk mE (by rw[oG,qRV,ha.1];unfold maxLen;omega)];rfl
 inj:=fun a b ha hb e=>qYN (qIY (qKK ha) (qKK hb) (by simpa using e))
theorem xAB {n:Nat}(h:n<=400):KeyK 108 9 (pA n) (fun l=>.string (txtT (kbR l))) where
 key:=lT
 und:=pN
 of:=fun a ha=>by rw[Go.WideMaps.keyOf_string_mk mE (by rw[oG,qAG,ha.1];unfold maxLen;omega)];rfl
 inj:=fun a b ha hb e=>qRW (qIY (qEZ ha) (qEZ hb) (by simpa using e))
theorem qLP (l m:List Nat):u8s (l++m)=u8s l++u8s m:=by simp[u8s,zb]
theorem xBG {w:World}{b e n:Nat}{cs:Array Value}{m:Nat×Nat}(h:w.heap[b]?=some (.cells cs e m))(hn:cs.size=n)(hm:n<=maxLen):Row (b+1) w (.slice (some ⟨b,0,none⟩) n n) cs.toList :=
 .inr ⟨b,0,n,by simp[hn],by omega,by simp[hn],hm,zM h,fun i hi=>by
  rw[Nat.zero_add,cell_of_row w b i _ _ _ h]
  have:i<cs.size:=by simpa using hi
  simp[this]⟩
theorem qKZ (B:Nat)(w:World)(v:Value)(l:List Nat)(n:Nat)(hB:B<=w.heap.size)(h:Row B w v (nats l))(hs:pA n l)(hn:n<=400):Calls Tryz.prog 65 #[v] w fun e w'=>e=.returned (.string (txtT (kb l)))/\w.grownBy w' none:=by
 obtain⟨a,c,rfl⟩:=h.shape;have H7:=h.len_le;rw[zV,hs.1]at H7⊢;have H:=Kh h;have HS:=Kh hs;clear h hs;go_enter Tryz.func65,Tryz.ntmps65;go_wp2_with (first|(at_make;refine qZY rfl _ _ _ rfl qIB .i64 .i64 _ (2*n) rfl rfl ?m1 ?m2 ?m3 ?_)|fail)
 case m1=>omega
 case m2=>omega
 case m3=>unfold maxLen;omega
 intro w1 h1 H0;have H1:=Kh h1;have H3:=Kh H0;clear h1 H0;go_wp2
 go_loopg [3,5,12] n (fun gh v3 a5 i wr=>∃(k:Nat) (sa:Option Addr) (sc:Nat),gh+k=n/\i=.int .i64 k/\v3=.slice sa (2*k) sc/\wr.ownsRow w.heap.size 5 1 (.slice sa (2*k) sc) (2*k) (u8s (kb (l.take k)))/\w.grownBy wr none)
 case atStart=>exact⟨0,_,_,rfl,rfl,rfl,H1.out,H3.out⟩
 clear H1 H3;obtain⟨k,sa,sc,hg,rfl,rfl,h2,h3⟩:=hrel;obtain⟨HG,HO,H2⟩:=K3 hg h2 h3;clear hg h2;by_cases hk:k<n
 ·have H5:(k:Int)<n:=by omega
  obtain⟨kb_,ko,kc,e,_,h8,h7,h5⟩:=(H.out.kept h3 (by simp)).some_ (by rw[zV,HS.out.1];omega);rw[zV,HS.out.1]at e h8;simp only[Value.slice.injEq]at e;obtain⟨rfl,_,rfl⟩:=e;have a7:c<=9223372036854775807:=by unfold maxLen at h7;omega
  have c1:=h5.nat k (by rw[HS.out.1];exact hk)
  have h4:Hid (u8s (kb (l.take (k+1)))=u8s (kb (l.take k))++[.int .u8 ((l.getD k 0 / 256:Nat):Int),.int .u8 ((l.getD k 0 % 256:Nat):Int)]):=Kh (by
   rw[zT (d:=0) (by rw[HS.out.1];exact hk),xAC,qLP];rfl)
  have H4:l.getD k 0<512:=HS.out.2 _ (by rw[zG (by rw[HS.out.1];exact hk)];exact List.getElem_mem _);obtain⟨x,hx⟩:=Nm (l.getD k 0);rw[<-hx]at c1 h4 H4;obtain⟨y,hy⟩:=Nm (x / 256);obtain⟨z,hz⟩:=Nm (x % 256);rw[<-hy,<-hz]at h4;have e1:(x:Int) / 2 ^ 8=(y:Int):=by rw[hy];omega
  have e2:(x:Int) / 256=(y:Int):=by rw[hy];omega
  have e3:IntKind.u8.wrap (y:Int)=y:=IntWalk.u8_in _ (by omega)
  have e4:IntKind.u8.wrap (x:Int)=z:=by
   have:IntKind.u8.wrap (x:Int)=(x:Int) % 256:=by simp[IntKind.wrap,IntKind.bits,IntKind.signed]
   rw[this,hz];omega
  have a6:=h3.size;have H8:Hid (∀W:World,wr.grownBy W none->W.ownsRow w.heap.size 5 1 (.slice sa (2*k) sc) (2*k) (u8s (kb (l.take k)))):=Kh (fun W hW=>zP HO.out hW);clear h5 h8 h7 h3 hx hy hz;go_wp2_with (first|(at_builtin;refine appR rfl _ _ _ rfl qIB w.heap.size (.slice sa (2*k) sc) (2*k) _ rfl (H8.out _ (Ga wr _ none)) (.slice (some ⟨wr.heap.size,0,none⟩) 2 2) [.int .u8 (y:Int),.int .u8 (z:Int)] rfl ⟨wr.heap.size+1,?r0⟩ ?r1 (2*(k+1)) ?a1 ?a2 ?a3 ?a4 ?_)|fail)
  case r0=>exact xBG (heap_alloc_new wr _) rfl (by unfold maxLen;omega)
  case r1=>intro u hu;simp at hu;rcases hu with rfl|rfl<;>rfl
  case a1=>simp;omega
  case a2=>unfold maxLen;omega
  case a3=>omega
  case a4=>rw[zL];omega
  intro sa' sc' w8 h0 h9;have H9:Hid (w8.ownsRow w.heap.size 5 1 (.slice sa' (2*(k+1)) sc') (2*(k+1)) (u8s (kb (l.take (k+1))))):=Kh (by rw[h4.out];exact h0);have a0:Hid (w.grownBy w8 none):=Kh (zA (zA H2.out (Ga wr _ none)) h9 (fun x e=>(HO.out.lt x e).1));clear h0 h9;go_wp2;go_roundg (n-(k+1))
  case measure=>have:=HG.out;omega
  exact⟨k+1,sa',sc',by have:=HG.out;omega,by go_num,rfl,H9.out,a0.out⟩
 have h6:k=n:=by have:=HG.out;omega
 have H5:¬(k:Int)<n:=(by omega);have HE:Hid (l.take k=l):=Kh (by rw[h6,<-HS.out.1];exact List.take_length);rw[HE.out]at HO;have H6:=oX 73 5 Tryz.underlying73 Tryz.underlying5 9 Tryz.underlying9 HO.out;obtain⟨X,hX⟩:=Nm (txtT (kb l));rw[show strOfNums (zb (kb l))=X from hX.symm]at H6;have HX:=Kh hX;clear h6 h3 hX;go_wp2;go_ret;exact⟨by rw[HX.out];rfl,H2.out⟩
theorem eK (l m:List Nat):txtT (l++m)=txtT l++txtT m:=by
 unfold txtT;rw[show zb (l++m)=zb l++zb m by simp[zb]];unfold strOfNums;apply ByteArray.ext;simp
theorem aH (B:Nat)(w:World)(v:Value)(l:List Nat)(n:Nat)(hB:B<=w.heap.size)(h:Row B w v (nats l))(hs:pA n l)(hn:n<=400):Calls Tryz.prog 89 #[v] w fun e w'=>e=.returned (.string (txtT (kbR l)))/\w.grownBy w' none:=by
 obtain⟨a,c,rfl⟩:=h.shape;have H1:=h.len_le;rw[zV,hs.1]at H1⊢;have H:=Kh h;have HS:=Kh hs;clear h hs;go_enter Tryz.func89,Tryz.ntmps89;go_wp2
 go_loopg [3,5,8] n (fun gh v3 a5 i wr=>∃(k:Nat),gh+k=n/\i=.int .i64 k/\v3=.string (txtT (kbR (l.take k)))/\w.grownBy wr none)
 case atStart=>exact⟨0,rfl,rfl,rfl,zH _ _⟩
 obtain⟨k,hg,rfl,rfl,h1⟩:=hrel;have HG:=Kh hg;have h6:=Kh h1;clear hg;by_cases hk:k<n
 ·have h9:(k:Int)<n:=by omega
  obtain⟨kb_,ko,kc,e,_,h5,h4,h2⟩:=(H.out.kept h1 (by simp)).some_ (by rw[zV,HS.out.1];omega);rw[zV,HS.out.1]at e h5;simp only[Value.slice.injEq]at e;obtain⟨rfl,_,rfl⟩:=e;have H5:c<=9223372036854775807:=by unfold maxLen at h4;omega
  have c1:=h2.nat k (by rw[HS.out.1];exact hk);have h7:l.getD k 0<512:=HS.out.2 _ (by rw[zG (by rw[HS.out.1];exact hk)];exact List.getElem_mem _)
  have h0:Hid (txtT (kbR (l.take (k+1)))=txtT (kbR (l.take k))++txtT [l.getD k 0 % 256,l.getD k 0 / 256]):=Kh (by
   rw[zT (d:=0) (by rw[HS.out.1];exact hk),qWU,eK])
  have H3:(txtT (kbR (l.take k))).size=2*k:=by rw[oG,qAG,List.length_take,HS.out.1];omega
  obtain⟨x,hx⟩:=Nm (l.getD k 0);rw[<-hx]at c1 h0 h7;obtain⟨y,hy⟩:=Nm (x / 256);obtain⟨z,hz⟩:=Nm (x % 256);rw[<-hy,<-hz]at h0;have H2:(txtT [z,y]).size=2:=by rw[oG];rfl
  obtain⟨S,hS⟩:=Nm (txtT (kbR (l.take k)));obtain⟨T,hT⟩:=Nm (txtT [z,y]);rw[<-hS]at H3 h0⊢;rw[<-hT]at H2 h0;have e1:(x:Int) / 2 ^ 8=(y:Int):=by rw[hy];omega
  have e2:(x:Int) / 256=(y:Int):=by rw[hy];omega
  have e3:IntKind.u8.wrap (y:Int)=y:=IntWalk.u8_in _ (by omega)
  have e4:IntKind.u8.wrap (x:Int)=z:=by
   have:IntKind.u8.wrap (x:Int)=(x:Int) % 256:=by simp[IntKind.wrap,IntKind.bits,IntKind.signed]
   rw[this,hz];omega
  have H4:Hid (Arr (wr.alloc (.cells #[.int .u8 (z:Int),.int .u8 (y:Int)] 5)) wr.heap.size 5 (([z,y].map fun(x:Nat)=>(x:Int)).map (Value.int .u8))):=Kh (Arr.new wr 5 #[.int .u8 (z:Int),.int .u8 (y:Int)]);have H0:=qD 73 5 Tryz.underlying73 Tryz.underlying5 9 Tryz.underlying9 2 2 rfl H4.out;rw[show strOfNums ([z,y].map fun(x:Nat)=>(x:Int))=T from hT.symm]at H0;have h8:¬(9223372036854775807<S.size+T.size):=(by omega);clear h2 h5 h4 h1 hx hy hz hS hT;go_wp2;go_roundg (n-(k+1))
  case measure=>have:=HG.out;omega
  exact⟨k+1,by have:=HG.out;omega,by go_num,by rw[h0.out],zA h6.out (Ga wr _ none)⟩
 have h3:k=n:=by have:=HG.out;omega
 have h9:¬(k:Int)<n:=(by omega);have HE:Hid (l.take k=l):=Kh (by rw[h3,<-HS.out.1];exact List.take_length);clear h3 h1;go_wp2;go_ret;exact⟨by rw[HE.out];rfl,h6.out⟩
end Go.Proofs.YtcoimliafiammaaGreat
namespace Go.Proofs.YtcoimliafiammaaGreat
section
variable {α:Type} (nxt:α->Nat->α) (k:Nat) (s0:α)
def rA (x:α)(w:List Nat):α:=w.foldl nxt x
structure BfsI (l:List α)(i a:Nat):Prop where
 nd:l.Nodup
 hd:l[0]?=some s0
 le:i<=l.length
 cl:∀j x,j<i->l[j]?=some x->∀b,b<k->nxt x b∈l
 row:∀x,l[i]?=some x->∀b,b<a->b<k->nxt x b∈l
 re:∀x∈l,∃w,yO k w/\rA nxt s0 w=x
variable {nxt k s0}
theorem BfsI.start:BfsI nxt k s0 [s0] 0 0 :=
 ⟨by simp,rfl,by simp,fun j x h=>by omega,fun x _ b hb=>by omega,fun x hx=>⟨[],fun a ha=>by simp at ha,by simp at hx;exact hx.symm⟩⟩
theorem BfsI.old {l:List α}{i a:Nat}(h:BfsI nxt k s0 l i a){x:α}(hx:l[i]?=some x)(hm:nxt x a∈l):BfsI nxt k s0 l i (a+1) :=
 ⟨h.nd,h.hd,h.le,h.cl,fun y hy b hb hbk=>by
  rcases Nat.lt_succ_iff_lt_or_eq.1 hb with hb|rfl
  ·exact h.row y hy b hb hbk
  ·rw[hx]at hy;rw[<-Oj hy];exact hm,h.re⟩
theorem BfsI.new {l:List α}{i a:Nat}(h:BfsI nxt k s0 l i a)(ha:a<k){x:α}(hx:l[i]?=some x)(hm:nxt x a ∉ l):BfsI nxt k s0 (l++[nxt x a]) i (a+1):=by
 have hi:i<l.length:=(List.getElem?_eq_some_iff.1 hx).1;have h0:∀j,j<l.length->(l++[nxt x a])[j]?=l[j]?:=fun j hj=>List.getElem?_append_left hj;refine⟨?_,?_,by simp;omega,fun j y hj hy b hb=>?_,fun y hy b hb hbk=>?_,fun y hy=>?_⟩
 ·rw[List.nodup_append]
  exact⟨h.nd,by simp,fun y hy z hz e=>by simp at hz;subst hz;subst e;exact hm hy⟩
 ·rw[h0 0 (by omega)];exact h.hd
 ·rw[h0 j (by omega)]at hy
  exact List.mem_append_left _ (h.cl j y hj hy b hb)
 ·rw[h0 i hi]at hy
  rcases Nat.lt_succ_iff_lt_or_eq.1 hb with hb|rfl
  ·exact List.mem_append_left _ (h.row y hy b hb hbk)
  rw[hx]at hy;rw[<-Oj hy];simp
 rcases List.mem_append.1 hy with hy|hy
 ·exact h.re y hy
 simp at hy;subst hy;obtain⟨w,hw,e⟩:=h.re x (List.mem_of_getElem? hx);refine⟨w++[a],fun b hb=>?_,?_⟩
 ·rcases List.mem_append.1 hb with hb|hb
  ·exact hw b hb
  simp at hb;omega
 simp[rA]at e⊢;rw[e]
theorem BfsI.next {l:List α}{i:Nat}(h:BfsI nxt k s0 l i k)(hi:i<l.length):BfsI nxt k s0 l (i+1) 0 :=
 ⟨h.nd,h.hd,hi,fun j x hj hx b hb=>by
  rcases Nat.lt_succ_iff_lt_or_eq.1 hj with hj|rfl
  ·exact h.cl j x hj hx b hb
  ·exact h.row x hx b hb hb,fun x _ b hb=>by omega,h.re⟩
structure BfsD (nxt:α->Nat->α)(k:Nat)(s0:α)(l:List α):Prop where
 nd:l.Nodup
 hd:l[0]?=some s0
 cl:∀x∈l,∀b,b<k->nxt x b∈l
 re:∀x∈l,∃w,yO k w/\rA nxt s0 w=x
theorem BfsI.done {l:List α}{i:Nat}(h:BfsI nxt k s0 l i 0)(hi:¬i<l.length):BfsD nxt k s0 l :=
 ⟨h.nd,h.hd,fun x hx b hb=>by
  obtain⟨j,hj,e⟩:=List.getElem_of_mem hx
  exact h.cl j x (by omega) (by rw[List.getElem?_eq_getElem hj,e]) b hb,h.re⟩
theorem BfsD.all {l:List α}(h:BfsD nxt k s0 l):∀(w:List Nat) {x:α},x∈l->yO k w->rA nxt x w∈l
 | [],x,hx,_=>hx
 | a::w,x,hx,hw=>BfsD.all h w (h.cl x hx a (hw a (by simp))) (fun b hb=>hw b (List.mem_cons_of_mem _ hb))
theorem BfsD.mem0 {l:List α}(h:BfsD nxt k s0 l):s0∈l:=List.mem_of_getElem? h.hd
theorem BfsD.sub {l:List α}(h:BfsD nxt k s0 l){m:List α}(hm:m.Nodup)(hr:∀x∈m,∃w,yO k w/\rA nxt s0 w=x):m.length<=l.length :=
 hm.length_le_of_subset fun x hx=>by
  obtain⟨w,hw,rfl⟩:=hr x hx
  exact h.all w h.mem0 hw
def qZ {α:Type}[BEq α](nxt:α->Nat->α)(k:Nat)(l:List α)(x:α):List Int:=(List.range k).map fun a=>((l.idxOf (nxt x a):Nat):Int)
def bfsA {α:Type}[BEq α](nxt:α->Nat->α)(k:Nat)(fin:α->Bool)(l:List α):DfaV:=⟨k,0,l.map fin,l.map (qZ nxt k l)⟩
theorem qIS [BEq α][LawfulBEq α]{l m:List α}{x:α}(h:∀b,b<k->nxt x b∈l):qZ nxt k (l++m) x=qZ nxt k l x:=by
 refine List.map_congr_left fun a ha=>?_;rw[List.idxOf_append,if_pos (h a (List.mem_range.1 ha))]
variable {fin:α->Bool}
theorem iS [BEq α]{l:List α}{i:Nat}(hi:i<l.length):(bfsA nxt k fin l).next.getD i []=qZ nxt k l l[i]:=by
 show (l.map (qZ nxt k l)).getD i []=_;rw[zG (by simpa using hi)];simp
theorem xAQ [BEq α]{l:List α}{i a:Nat}(hi:i<l.length)(ha:a<k):nx (bfsA nxt k fin l) i a=l.idxOf (nxt l[i] a):=by
 unfold nx entN ent;rw[iS hi,qZ,zG (by simpa using ha)];simp
theorem BfsD.vd [BEq α][LawfulBEq α]{l:List α}(h:BfsD nxt k s0 l)(h1:1<=k)(h6:k<=6)(hl:l.length<=4194304):VD (bfsA nxt k fin l) l.length k:=by
 have h0:0<l.length:=(List.getElem?_eq_some_iff.1 h.hd).1;have hr:∀q,q<l.length->((bfsA nxt k fin l).next.getD q []).length=k:=fun q hq=>by rw[iS hq];simp[qZ]
 refine⟨rfl,h1,h6,by simp[bfsA],h0,hl,by simp[bfsA],by show (0:Int)<=0;omega,by show (0:Int)<_;omega,hr,fun q a hq ha=>?_,fun q a hq ha=>?_⟩
 ·unfold ent
  rw[iS hq,qZ,zG (by simpa using ha)];simp
 unfold ent;rw[iS hq,qZ,zG (by simpa using ha)];simp only[List.getElem_map,List.getElem_range];have:=List.idxOf_lt_length_of_mem (h.cl l[q] (List.getElem_mem hq) a ha);omega
theorem BfsD.run [BEq α][LawfulBEq α]{l:List α}(h:BfsD nxt k s0 l):∀(w:List Nat) {i:Nat} (hi:i<l.length),yO k w->Go.Proofs.YtcoimliafiammaaGreat.run (bfsA nxt k fin l) i w=l.idxOf (rA nxt l[i] w)
 | [],i,hi,_=>by
  show i=l.idxOf l[i]
  exact(h.nd.idxOf_getElem i hi).symm
 | a::w,i,hi,hw=>by
  have ha:=hw a (by simp)
  have hm:=h.cl l[i] (List.getElem_mem hi) a ha
  have hj:=List.idxOf_lt_length_of_mem hm
  show Go.Proofs.YtcoimliafiammaaGreat.run (bfsA nxt k fin l) (nx (bfsA nxt k fin l) i a) w=_
  rw[xAQ hi ha,BfsD.run h w hj (fun b hb=>hw b (List.mem_cons_of_mem _ hb)),List.getElem_idxOf]
  rfl
theorem BfsD.acc [BEq α][LawfulBEq α]{l:List α}(h:BfsD nxt k s0 l){w:List Nat}(hw:yO k w):Go.Proofs.YtcoimliafiammaaGreat.acc (bfsA nxt k fin l) (st0 (bfsA nxt k fin l)) w=fin (rA nxt s0 w):=by
 obtain⟨h0,e⟩:=List.getElem?_eq_some_iff.1 h.hd;show (l.map fin).getD (Go.Proofs.YtcoimliafiammaaGreat.run (bfsA nxt k fin l) 0 w) false=_;rw[h.run w h0 hw,e];have hm:=h.all w h.mem0 hw;have hj:=List.idxOf_lt_length_of_mem hm;rw[zG (by simpa using hj)];simp[List.getElem_map]
end
theorem iP:∀(n:Nat) (l:List (List Bool)),l.Nodup->(∀x∈l,x.length=n)->l.length<=2 ^ n
 | 0,l,hn,hl=>by
  have:l ⊆ [[]]:=fun x hx=>by simp[List.eq_nil_of_length_eq_zero (hl x hx)]
  simpa using hn.length_le_of_subset this
 | n+1,l,hn,hl=>by
  have key:∀b:Bool,(l.filter fun x=>x.headD false == b).length<=2 ^ n:=fun b=>by
   have h0:∀x∈l.filter (fun x=>x.headD false == b),x=b::x.tail/\x.length=n+1:=fun x hx=>by
    obtain⟨h1,h2⟩:=List.mem_filter.1 hx
    have h3:=hl x h1
    cases x with
    | nil=>simp at h3
    | cons c x=>simp at h2;exact⟨by rw[h2];rfl,h3⟩
   have h1:=iP n ((l.filter fun x=>x.headD false == b).map List.tail) (by
    rw[List.Nodup,List.pairwise_map]
    refine List.Pairwise.imp_of_mem ?_ (hn.filter _)
    intro x y hx hy hne e
    exact hne (by rw[(h0 x hx).1,(h0 y hy).1,e])) (fun x hx=>by
    obtain⟨y,hy,rfl⟩:=List.mem_map.1 hx
    rw[List.length_tail,(h0 y hy).2];omega)
   rwa [List.length_map]at h1
  have h1:=key true
  have h2:=key false
  have h3:∀l:List (List Bool),l.length=(l.filter fun x=>x.headD false == true).length+(l.filter fun x=>x.headD false == false).length:=fun l=>by
   induction l with
   | nil=>rfl
   | cons x l ih =>
    rw[List.filter_cons,List.filter_cons]
    generalize x.headD false=b
    cases b
    ·rw[if_neg (by decide),if_pos (by decide),List.length_cons,List.length_cons];omega
    ·rw[if_pos (by decide),if_neg (by decide),List.length_cons,List.length_cons];omega
  have:=h3 l
  rw[Nat.pow_succ];omega
def nxtT (ds:List DfaV)(x:List Nat)(a:Nat):List Nat:=(List.range ds.length).map fun i=>nx (ds.getD i ⟨0,0,[],[]⟩) (x.getD i 0) a
def st0T (ds:List DfaV):List Nat:=ds.map st0
def dN:DfaV:=⟨0,0,[],[]⟩
theorem nG (ds:List DfaV)(x:List Nat)(a:Nat):(nxtT ds x a).length=ds.length:=by simp[nxtT]
theorem rB (ds:List DfaV):(st0T ds).length=ds.length:=by simp[st0T]
theorem fX {ds:List DfaV}{x:List Nat}{a i:Nat}(hi:i<ds.length):(nxtT ds x a).getD i 0=nx (ds.getD i dN) (x.getD i 0) a:=by
 rw[zG (by rw[nG];exact hi)];simp[nxtT,dN]
theorem fT {ds:List DfaV}{i:Nat}(hi:i<ds.length):(st0T ds).getD i 0=st0 (ds.getD i dN):=by
 rw[zG (by rw[rB];exact hi),zG hi];simp[st0T]
theorem qCX {ds:List DfaV}{i:Nat}(hi:i<ds.length):∀(w:List Nat) (x:List Nat),(rA (nxtT ds) x w).getD i 0=run (ds.getD i dN) (x.getD i 0) w
 | [],x=>rfl
 | a::w,x=>by
  show (rA (nxtT ds) (nxtT ds x a) w).getD i 0=run (ds.getD i dN) (nx (ds.getD i dN) (x.getD i 0) a) w
  rw[qCX hi w,fX hi]
def accT (ds:List DfaV)(x:List Nat)(i:Nat):Bool:=(ds.getD i dN).final.getD (x.getD i 0) false
theorem uU {ds:List DfaV}{i:Nat}(hi:i<ds.length)(w:List Nat):accT ds (rA (nxtT ds) (st0T ds) w) i=acc (ds.getD i dN) (st0 (ds.getD i dN)) w:=by
 unfold accT acc;rw[qCX hi,fT hi]
def OkT (ds:List DfaV)(k:Nat):Prop:=∀i,i<ds.length->∃n,VD (ds.getD i dN) n k/\n<=512
def InT (ds:List DfaV)(x:List Nat):Prop:=x.length=ds.length/\∀i,i<ds.length->x.getD i 0<(ds.getD i dN).final.length
theorem OkT.in0 {ds:List DfaV}{k:Nat}(h:OkT ds k):InT ds (st0T ds):=⟨rB ds,fun i hi=>by
 obtain⟨n,hv,_⟩:=h i hi
 rw[fT hi,hv.hn];exact oJ hv⟩
theorem OkT.next {ds:List DfaV}{k:Nat}(h:OkT ds k){x:List Nat}(hx:InT ds x){a:Nat}(ha:a<k):InT ds (nxtT ds x a):=⟨nG ds x a,fun i hi=>by
 obtain⟨n,hv,_⟩:=h i hi
 have h1:=hx.2 i hi
 rw[hv.hn]at h1⊢
 rw[fX hi];exact mP hv h1 ha⟩
theorem OkT.small {ds:List DfaV}{k:Nat}(h:OkT ds k){x:List Nat}(hx:InT ds x):∀i,i<ds.length->x.getD i 0<512:=fun i hi=>by
 obtain⟨n,hv,h5⟩:=h i hi
 have h1:=hx.2 i hi
 rw[hv.hn]at h1;omega
theorem OkT.walk {ds:List DfaV}{k:Nat}(h:OkT ds k):∀(w:List Nat) {x:List Nat},InT ds x->yO k w->InT ds (rA (nxtT ds) x w)
 | [],x,hx,_=>hx
 | a::w,x,hx,hw=>OkT.walk h w (h.next hx (hw a (by simp))) (fun b hb=>hw b (List.mem_cons_of_mem _ hb))
def qXY (ds:List DfaV)(k:Nat):Prop:=∃l,BfsD (nxtT ds) k (st0T ds) l/\l.length<=4000
def Over (ds:List DfaV)(k:Nat):Prop:=∃l:List (List Nat),l.Nodup/\(∀x∈l,∃w,yO k w/\rA (nxtT ds) (st0T ds) w=x)/\4000<l.length
theorem oF {ds:List DfaV}{k:Nat}(h:qXY ds k)(h':Over ds k):False:=by
 obtain⟨l,hl,h1⟩:=h;obtain⟨m,hm,hr,h2⟩:=h';have:=hl.sub hm hr;omega
theorem BfsI.over {ds:List DfaV}{k i a:Nat}{l:List (List Nat)}(h:BfsI (nxtT ds) k (st0T ds) l i a)(hl:l.length=4000)(ha:a<k){x:List Nat}(hx:l[i]?=some x)(hm:nxtT ds x a ∉ l):Over ds k:=by
 have:=h.new ha hx hm;exact⟨_,this.nd,this.re,by simp;omega⟩
def Conf (ds:List DfaV)(np k:Nat):Prop:=∃u v,yO k u/\yO k v/\(∀i,i<np->acc (ds.getD i dN) (st0 (ds.getD i dN)) u=acc (ds.getD i dN) (st0 (ds.getD i dN)) v)/\acc (ds.getD np dN) (st0 (ds.getD np dN)) u=true/\acc (ds.getD np dN) (st0 (ds.getD np dN)) v=false
def mtsT (ds:List DfaV)(np:Nat)(x:List Nat):List Bool:=(List.range np).map fun i=>accT ds x i
theorem nI (ds:List DfaV)(np:Nat)(x:List Nat):(mtsT ds np x).length=np:=by simp[mtsT]
theorem fY {ds:List DfaV}{np i:Nat}{x:List Nat}(hi:i<np):(mtsT ds np x).getD i false=accT ds x i:=by
 rw[zG (by rw[nI];exact hi)];simp[mtsT]
theorem qRI {ds:List DfaV}{np:Nat}{x y:List Nat}:mtsT ds np x=mtsT ds np y↔∀i,i<np->accT ds x i=accT ds y i:=by
 constructor
 ·intro h i hi
  rw[<-fY hi,h,fY hi]
 intro h;exact List.map_congr_left fun i hi=>h i (List.mem_range.1 hi)
theorem lX {ds:List DfaV}{np k:Nat}(hn:np<ds.length){l:List (List Nat)}(h:BfsD (nxtT ds) k (st0T ds) l):Conf ds np k↔∃x y,x∈l/\y∈l/\mtsT ds np x=mtsT ds np y/\accT ds x np=true/\accT ds y np=false:=by
 constructor
 ·rintro ⟨u,v,hu,hv,h1,h2,h3⟩
  refine⟨_,_,h.all u h.mem0 hu,h.all v h.mem0 hv,qRI.2 fun i hi=>?_,?_,?_⟩
  ·rw[uU (by omega),uU (by omega)];exact h1 i hi
  ·rw[uU hn];exact h2
  rw[uU hn];exact h3
 rintro ⟨x,y,hx,hy,h1,h2,h3⟩;obtain⟨u,hu,rfl⟩:=h.re x hx;obtain⟨v,hv,rfl⟩:=h.re y hy;refine⟨u,v,hu,hv,fun i hi=>?_,?_,?_⟩
 ·have:=qRI.1 h1 i hi
  rwa [uU (by omega),uU (by omega)]at this
 ·rwa [uU hn]at h2
 rwa [uU hn]at h3
open Go.Maps Go.RowKit
theorem dL {a9:List (List Nat)}{f:List Nat}(h:f∈a9):numE a9 f=some (a9.idxOf f):=if_pos h
theorem qKC {a9:List (List Nat)}{f:List Nat}(h:f ∉ a9):numE a9 f=none:=if_neg h
inductive ProdS (w0:World)(B o mb k np:Nat)(pv:Value)(L:List (List Nat))(nxl fr bl:List Nat)(m q:Nat)(tl:List RowS)(w:World):Prop
 | mk (X:Nat->Prop) (hs:List Value) (sS sN sF sB:Option Addr) (cS cN cF cB u c:Nat)
  (hB:BoxS B X o 106 w0 w (⟨B,22,.slice sS m cS,m,hs,1⟩::⟨B,3,.slice sN q cN,q,nats nxl,1⟩::⟨B,3,.slice sF m cF,m,nats fr,1⟩::⟨B,3,.slice sB m cB,m,nats bl,1⟩::tl) #[.int .i64 (k:Int),pv,.slice sS m cS,.slice sN q cN,.slice sF m cF,.slice sB m cB] w)
  (hE:uX X 3 nats w hs L) (hM:MapK 9 (pA np) (fun l=>.string (txtT (kb l))) w mb u c (numE L)) (hmx:¬X mb) (hmb:w0.heap.size<=mb) (hu:u<=m)
  (hl:L.length=m/\nxl.length=q/\fr.length=m/\bl.length=m) (hhs:hs.length=m)
section
variable {w0 w w':World} {B o mb k np m q:Nat} {pv:Value} {L:List (List Nat)} {nxl fr bl:List Nat} {tl:List RowS}
theorem ProdS.grow (h:ProdS w0 B o mb k np pv L nxl fr bl m q tl w)(hg:w.grownBy w' none):ProdS w0 B o mb k np pv L nxl fr bl m q tl w':=by
 obtain⟨X,hs,sS,sN,sF,sB,cS,cN,cF,cB,u,c,hB,hE,hM,h0,h1,hu,hl,h3⟩:=h;have h2:=hB.mem.keep hg;exact⟨X,hs,sS,sN,sF,sB,cS,cN,cF,cB,u,c,(hB.grow hg).rebase,hE.kept h2 hg.size,hM.kept hg (by simp),h0,h1,hu,hl,h3⟩
theorem ProdS.facts (h:ProdS w0 B o mb k np pv L nxl fr bl m q tl w):w0.grownBy w none/\B<=w.heap.size/\w0.heap.size<=B/\w0.heap.size<=o/\o<w.heap.size/\L.length=m/\nxl.length=q:=by
 obtain⟨X,hs,sS,sN,sF,sB,cS,cN,cF,cB,u,c,hB,hE,hM,h0,h1,hu,hl,h2⟩:=h;exact⟨hB.grown,Nat.le_trans hB.base hB.wk,hB.size,hB.old,zM hB.box,hl.1,hl.2.1⟩
theorem ProdS.cells (h:ProdS w0 B o mb k np pv L nxl fr bl m q tl w):∃sS cS sN cN sF cF sB cB,w.heap[o]?=some (.cells #[.int .i64 (k:Int),pv,.slice sS m cS,.slice sN q cN,.slice sF m cF,.slice sB m cB] 106 (0,0))/\(0<m->∃sb,sS=some ⟨sb,0,none⟩/\m<=cS/\cS<=maxLen/\∀i,i<m->L.getD i []≠[]->∃g off cap,w.cell? ⟨sb,i,none⟩=some (.slice (some ⟨g,off,none⟩) (L.getD i []).length cap)/\(L.getD i []).length<=cap/\cap<=maxLen/\∀j,j<(L.getD i []).length->w.cell? ⟨g,off+j,none⟩=some (.int .i64 (((L.getD i []).getD j 0:Nat):Int))):=by
 obtain⟨X,hs,sS,sN,sF,sB,cS,cN,cF,cB,u,c,hB,hE,hM,h9,H0,hu,hl,H1⟩:=h;refine⟨sS,cS,sN,cN,sF,cF,sB,cB,hB.box,fun h0=>?_⟩;have ho:=hB.own (r:=⟨B,22,.slice sS m cS,m,hs,1⟩) (by simp);simp only at ho;obtain⟨sb,rfl,h1,h2,ha⟩:=yH ho h0;refine⟨sb,rfl,h1,h2,fun i hi hne=>?_⟩;have h4:i<hs.length:=by omega
 have hr:=hE.2 i h4 (by omega);have h6:L.getD i []=L[i]'(by omega):=zG (by omega)
 have h3:0<(nats (L[i]'(by omega))).length:=by
  rw[zV,<-h6];exact List.length_pos_iff.2 hne
 rw[h6];obtain⟨g,off,cap,e,H2,h5,h8,h7⟩:=hr.1.row.some_ h3;rw[zV]at e h5;refine⟨g,off,cap,?_,h5,h8,fun j hj=>h7.nat j hj⟩;rw[ha.cell i h4,e]
theorem ProdS.map (h:ProdS w0 B o mb k np pv L nxl fr bl m q tl w):∃u c,u<=m/\MapK 9 (pA np) (fun l=>.string (txtT (kb l))) w mb u c (numE L):=by
 obtain⟨X,hs,sS,sN,sF,sB,cS,cN,cF,cB,u,c,hB,hE,hM,h0,h1,hu,hl,h2⟩:=h;exact⟨u,c,hu,hM⟩
theorem ProdS.addRow (h:ProdS w0 B o mb k np pv L nxl fr bl m q [] w)(hg:w.grownBy w' none){e sz n:Nat}{v:Value}{xs:List Value}(ho:w'.ownsRow w.heap.size e sz v n xs)(he:e≠106):ProdS w0 B o mb k np pv L nxl fr bl m q (⟨B,e,v,n,xs,sz⟩::[]) w':=by
 obtain⟨X,hs,sS,sN,sF,sB,cS,cN,cF,cB,u,c,hB,hE,hM,h0,h1,hu,hl,h3⟩:=h;have h2:=hB.mem.keep hg;exact⟨X,hs,sS,sN,sF,sB,cS,cN,cF,cB,u,c,(hB.add hg ho he).rebase,hE.kept h2 hg.size,hM.kept hg (by simp),h0,h1,hu,hl,h3⟩
theorem ProdS.arr {e rb n cap:Nat}{xs:List Value}(h:ProdS w0 B o mb k np pv L nxl fr bl m q (⟨B,e,.slice (some ⟨rb,0,none⟩) n cap,n,xs,1⟩::[]) w):Arr w rb e xs:=by
 obtain⟨X,hs,sS,sN,sF,sB,cS,cN,cF,cB,u,c,hB,hE,hM,h0,h1,hu,hl,h2⟩:=h;exact Arr.of_owns (hB.own (r:=⟨B,e,.slice (some ⟨rb,0,none⟩) n cap,n,xs,1⟩) (by simp))
theorem ProdS.put {e rb n cap i:Nat}{xs:List Value}(h:ProdS w0 B o mb k np pv L nxl fr bl m q (⟨B,e,.slice (some ⟨rb,0,none⟩) n cap,n,xs,1⟩::[]) w)(hi:i<n)(y:Value):ProdS w0 B o mb k np pv L nxl fr bl m q (⟨B,e,.slice (some ⟨rb,0,none⟩) n cap,n,xs.set i y,1⟩::[]) (w.setCell ⟨rb,i,none⟩ y):=by
 obtain⟨X,hs,sS,sN,sF,sB,cS,cN,cF,cB,u,c,hB,hE,hM,h2,h3,hu,hl,h5⟩:=h;have hP:=hB.put (j:=4) rfl hi y;have h4:=hP.kept;have h0:=hP.wk
 have h1:rb≠mb:=fun e1=>by
  subst e1;exact yL (es:=#[]) (clock:=0) (hB.own (r:=⟨B,e,.slice (some ⟨rb,0,none⟩) n cap,n,xs,1⟩) (by simp)) hM.obj rfl
 exact⟨X,hs,sS,sN,sF,sB,cS,cN,cF,cB,u,c,hP.rebase,hE.kept h4 h0,hM.kept (zD w ⟨rb,i,none⟩ y) (fun e=>h1 (Oj e)),h2,h3,hu,hl,h5⟩
end
end Go.Proofs.YtcoimliafiammaaGreat
namespace Go.Proofs.YtcoimliafiammaaGreat
open Go.RowKit
theorem RowT.len_le {B e:Nat}{w:World}{v:Value}{xs:List Value}(h:RowT B e w v xs):xs.length<=maxLen:=h.row.len_le
theorem Mat.of_rowT {w:World}{B e:Nat}{v:Value}{hs:List Value}{t:List (List Int)}(h:RowT B e w v hs)(hr:wO B 3 ints w hs t)(hB:B<=w.heap.size):Mat w.heap.size w v t:=by
 have h0:=hr.1;rcases h with ⟨rfl,rfl⟩|⟨b,off,cap,cur,m,rfl,hb,hc1,hc2,hg,hcell⟩
 ·exact .inl ⟨_,_,rfl,List.eq_nil_of_length_eq_zero (by simpa using h0.symm)⟩
 have h3:∀x,∃a c,x<t.length->hs.getD x (.int .i64 0)=.slice a (t.getD x []).length c:=by
  intro x;by_cases hx:x<t.length
  ·have h1:=hr.2 x (by omega) hx
   obtain⟨a,c,e⟩:=h1.shape;refine⟨a,c,fun _=>?_⟩;rw[zG (by omega),e,yF,zG hx]
  exact⟨none,0,fun h=>absurd h hx⟩
 obtain⟨A,hA⟩:=Classical.axiomOfChoice h3;obtain⟨C,hC⟩:=Classical.axiomOfChoice hA;refine .inr ⟨b,off,cap,A,C,by rw[h0],by omega,hc2,zM hg,zM hg,fun x hx=>?_,fun x hx=>?_⟩
 ·rw[cell_of_row w b (off+x) _ _ _ hg,hcell x (by omega),<-hC x hx,zG (show x<hs.length by omega)]
 have h1:=hr.2 x (by omega) hx;have h2:=hC x hx;rw[zG (show x<hs.length by omega)]at h2;rw[<-h2,zG hx];exact h1.row.mono hB
def DfaT (w:World)(f nx:Value)(d:DfaV):Prop:=∃hs,RowT w.heap.size 4 w f (bls d.final)/\RowT w.heap.size 22 w nx hs/\wO w.heap.size 3 ints w hs d.next
section
variable {w w':World} {f nx:Value} {d:DfaV}
theorem DfaT.kept {row:Option Nat}(h:DfaT w f nx d)(hg:w.grownBy w' row)(h1:∀k,row=some k->yC w 4 k/\yC w 22 k/\yC w 3 k):DfaT w' f nx d:=by
 obtain⟨hs,a,b,c⟩:=h;exact⟨hs,(a.kept hg (fun k hk=>.inr (h1 k hk).1)).mono hg.size,(b.kept hg (fun k hk=>.inr (h1 k hk).2.1)).mono hg.size,(c.kept hg (fun k hk=>.inr (h1 k hk).2.2)).mono hg.size⟩
theorem DfaT.grow (h:DfaT w f nx d)(hg:w.grownBy w' none):DfaT w' f nx d:=h.kept hg (by simp)
theorem DfaT.zero (w:World):DfaT w (.slice none 0 0) (.slice none 0 0) qTZ:=⟨[],.inl ⟨rfl,rfl⟩,.inl ⟨rfl,rfl⟩,wO.nil⟩
theorem DfaT.ok (h:DfaT w f nx d):tM w.heap.size w (.agg #[.int .i64 d.letters,.int .i64 d.start,f,nx]) d:=by
 obtain⟨hs,a,b,c⟩:=h;exact⟨_,_,rfl,a.row,Mat.of_rowT b c (Nat.le_refl _)⟩
end
theorem sZ.t {w w':World}{v:Value}{m:DfaV}(h:sZ w w' v m):∃f nx,v=.agg #[.int .i64 m.letters,.int .i64 m.start,f,nx]/\DfaT w' f nx m:=by
 obtain⟨o,hs,sf,cf,sn,cn,rfl,_,hb⟩:=h;exact⟨_,_,rfl,hs,RowT.of_owns hb.ownF,RowT.of_owns hb.ownN,hb.rows⟩
def qCQ (w:World)(E:Int)(m:DfaV)(e:Ending)(w':World):Prop:=∃f nx,e=.returned (.tuple #[.agg #[.int .i64 m.letters,.int .i64 m.start,f,nx],.int .i64 E])/\DfaT w' f nx m/\w.grownBy w' none
theorem DfaT.shapes {w:World}{f nx:Value}{d:DfaV}(h:DfaT w f nx d):∃sa n1 c1 sb n2 c2,f=.slice sa n1 c1/\nx=.slice sb n2 c2:=by
 obtain⟨hs,a,b,_⟩:=h;obtain⟨sa,c1,rfl⟩:=a.shape;obtain⟨sb,c2,rfl⟩:=b.shape;exact⟨sa,_,c1,sb,_,c2,rfl,rfl⟩
def rM (bs:List ByteArray):Nat:=(bs.map (·.size)).sum
def tQ (n:Nat)(letters:Int)(i:Nat)(u:ByteArray):Bool:=zU u letters && !(decide (0<i/\i+1<n) && u.toList.isEmpty)
def vP (n:Nat)(letters:Int):Nat->List ByteArray->Bool
 | _,[]=>true
 | i,u::us=>tQ n letters i u && vP n letters (i+1) us
def yT (bs:List ByteArray)(letters:Int):Int :=
 if letters<1\/6<letters then 1 else if 8<bs.length then 3 else if 64<rM bs then 3
 else if bs.length=0 then 22 else if vP bs.length letters 0 bs then 0 else 22
theorem aB (bs:List ByteArray)(k:Nat)(hk:k<bs.length):rM (bs.take (k+1))=rM (bs.take k)+bs[k].size:=by
 rw[List.take_succ_eq_append_getElem hk];simp only[rM,List.map_append,List.sum_append];simp
theorem dF (bs:List ByteArray)(letters:Int)(j:Nat)(hj:j<bs.length):vP bs.length letters j (bs.drop j)=(tQ bs.length letters j bs[j] && vP bs.length letters (j+1) (bs.drop (j+1))):=by
 rw[List.drop_eq_getElem_cons hj];rfl
theorem dE {bs:List ByteArray}{letters:Int}{j:Nat}(hj:j<bs.length)(hb:tQ bs.length letters j bs[j]=true)(h:vP bs.length letters j (bs.drop j)=vP bs.length letters 0 bs):vP bs.length letters (j+1) (bs.drop (j+1))=vP bs.length letters 0 bs:=by
 rw[<-h,dF bs letters j hj,hb,Bool.true_and]
theorem aV {bs:List ByteArray}{letters:Int}{j:Nat}(hj:j<bs.length)(hb:tQ bs.length letters j bs[j]=false)(h:vP bs.length letters j (bs.drop j)=vP bs.length letters 0 bs):vP bs.length letters 0 bs=false:=by
 rw[<-h,dF bs letters j hj,hb,Bool.false_and]
theorem dG {n j:Nat}{letters:Int}{u:ByteArray}(h1:zU u letters=true)(h2:(j=0\/¬(j:Int)<n-1)\/u.toList.isEmpty=false):tQ n letters j u=true:=by
 unfold tQ;rcases h2 with h2|h2
 ·have:decide (0<j/\j+1<n)=false:=by simp;omega
  simp[h1,this]
 simp[h1,h2]
theorem dI {n j:Nat}{letters:Int}{u:ByteArray}(h1:¬zU u letters=true):tQ n letters j u=false:=by
 simp[tQ,h1]
theorem dH {n j:Nat}{letters:Int}{u:ByteArray}(h:0<j)(h1:(j:Int)<n-1)(h2:u.toList.isEmpty=true):tQ n letters j u=false:=by
 have:decide (0<j/\j+1<n)=true:=by simp;omega
 simp[tQ,this,h2]
theorem kJ {bs:List ByteArray}{letters:Int}(h1:¬letters<1)(h2:¬6<letters)(h3:¬8<bs.length)(h4:¬64<rM bs)(h5:¬bs.length=0):
  yT bs letters=if vP bs.length letters 0 bs then 0 else 22:=by
 unfold yT;rw[if_neg (by omega),if_neg h3,if_neg h4,if_neg h5]
def SomeLen (w:World):Prop:=0<w.heap.size/\∃m:Int,w.cell? ⟨0,0,none⟩=some (.int .i64 m)
theorem SomeLen.kept {w w':World}{row:Option Nat}(h:SomeLen w)(hg:w.grownBy w' row)(hr:row≠some 0):SomeLen w' :=
 ⟨Nat.lt_of_lt_of_le h.1 hg.size,h.2.imp fun _ hm=>(World.cell?_of_block (hg.block _ h.1 (fun e=>hr e.symm))).trans hm⟩
def rZ:List (List UInt8)->List UInt8->Option (List UInt8)
 | [],r=>some r
 | u::us,r=>if (Lib.cut r u).2.2 then rZ us (Lib.cut r u).2.1 else none
def lQ (bs:List (List UInt8))(r v:List UInt8):Bool:=match rZ bs r with
 | some r=>Lib.hasSuffix r v
 | none=>false
def wU (bs:List (List UInt8))(s:List UInt8):Bool :=
 match bs with
 | []=>false
 | [b]=>s == b
 | b::rest=>Lib.hasPrefix s b && lQ rest.dropLast (s.drop b.length) (rest.getLastD [])
def yJ (bs:List ByteArray)(s:ByteArray):Bool:=decide (yT bs 6=0) && (zU s 6 && wU (bs.map (·.data.toList)) s.data.toList)
theorem vH {bs:List ByteArray}{letters:Int}(h:yT bs letters=0):1<=letters/\letters<=6/\bs.length<=8/\rM bs<=64/\0<bs.length/\vP bs.length letters 0 bs=true:=by
 unfold yT at h
 split at h
 ·omega
 split at h
 ·omega
 split at h
 ·omega
 split at h
 ·omega
 split at h
 ·exact⟨by omega,by omega,by omega,by omega,by omega,by assumption⟩
 omega
theorem qEA {bs:List ByteArray}{s:ByteArray}(h:yT bs 6=0)(hW:zU s 6=true)(h1:bs.length=1)(h0:0<bs.length):yJ bs s=(s.toList == bs[0].toList):=by
 match bs,h1 with
 | [b],_=>simp[yJ,h,hW,wU,ByteArray.toList_eq]
def mid (bs:List ByteArray):List (List UInt8):=((bs.map (·.data.toList)).drop 1).dropLast
theorem qL (bs:List ByteArray):(mid bs).length=bs.length-1-1:=by simp[mid]
theorem qHQ (bs:List ByteArray)(k:Nat)(h:k<bs.length-1-1):(mid bs)[k]'(by rw[qL];exact h)=bs[1+k].data.toList:=by
 simp[mid,Nat.add_comm]
theorem qFM (bs:List ByteArray)(r:List UInt8)(k:Nat)(h:k<bs.length-1-1)(hf:(Lib.cut r bs[1+k].data.toList).2.2=true):rZ ((mid bs).drop (k+1)) (Lib.cut r bs[1+k].data.toList).2.1=rZ ((mid bs).drop k) r:=by
 rw[List.drop_eq_getElem_cons (show k<(mid bs).length by rw[qL];exact h),qHQ bs k h];simp[rZ,hf]
theorem qFL (bs:List ByteArray)(r:List UInt8)(k:Nat)(h:k<bs.length-1-1)(hf:¬(Lib.cut r bs[1+k].data.toList).2.2=true):rZ ((mid bs).drop k) r=none:=by
 rw[List.drop_eq_getElem_cons (show k<(mid bs).length by rw[qL];exact h),qHQ bs k h];simp[rZ,hf]
theorem xCN (r u:List UInt8):(Lib.cut r u).2.1.length<=r.length:=by
 unfold Lib.cut
 split
 ·simp
 simp
theorem xBD {α:Type}{bs:List α}(h0:0<bs.length)(h1:bs.length≠1):∃b c rest,bs=b::c::rest:=by
 match bs,h0,h1 with
 | b::c::rest,_,_=>exact⟨b,c,rest,rfl⟩
theorem qBK {bs:List ByteArray}{s:ByteArray}(h0:0<bs.length)(h1:bs.length≠1)(hF:rZ (mid bs) (Lib.trimPrefix s.data.toList bs[0].data.toList)=none):yJ bs s=false:=by
 match bs,h0,h1 with
 | b::c::rest,_,_ =>
  by_cases hP:Lib.hasPrefix s.data.toList b.data.toList=true
  ·have e:Lib.trimPrefix s.data.toList b.data.toList=s.data.toList.drop b.data.toList.length:=by simp only[Lib.trimPrefix,hP,if_true]
   simp only[List.getElem_cons_zero,e,mid,List.map_cons,List.drop_succ_cons,List.drop_zero]at hF;simp only[yJ,wU,List.map_cons,lQ,hF,Bool.and_false]
  simp only[Bool.not_eq_true]at hP;simp[yJ,wU,hP]
theorem qEB {bs:List ByteArray}{s:ByteArray}{r:List UInt8}(h:yT bs 6=0)(hW:zU s 6=true)(h0:0<bs.length)(h1:bs.length≠1)(hP:Lib.hasPrefix s.data.toList bs[0].data.toList=true)(hF:rZ (mid bs) (Lib.trimPrefix s.data.toList bs[0].data.toList)=some r):yJ bs s=Lib.hasSuffix r bs[bs.length-1].data.toList:=by
 have hl:(bs.drop 1).map (·.data.toList)≠[]:=by
  intro e;have:=congrArg List.length e;simp at this;omega
 have hg:((bs.drop 1).map (·.data.toList)).getLastD []=bs[bs.length-1].data.toList:=by
  rw[List.getLastD_eq_getLast?,List.getLast?_eq_getElem?];simp only[List.length_map,List.length_drop,List.getElem?_map,List.getElem?_drop];rw[show 1+(bs.length-1-1)=bs.length-1 by omega,List.getElem?_eq_getElem (by omega)];rfl
 obtain⟨b,c,rest,rfl⟩:=xBD h0 h1;have h2:Lib.hasPrefix s.data.toList b.data.toList=true:=hP;have e:Lib.trimPrefix s.data.toList b.data.toList=s.data.toList.drop b.data.toList.length:=by simp only[Lib.trimPrefix,h2,if_true]
 simp only[List.getElem_cons_zero,e,mid,List.map_cons,List.drop_succ_cons,List.drop_zero]at hF;simp only[List.drop_succ_cons,List.drop_zero,List.map_cons]at hg;simp only[yJ,h,hW,decide_true,Bool.true_and,wU,List.map_cons,lQ,hF,h2,hg]
theorem qZC {s:ByteArray}{b:List UInt8}{bs:List ByteArray}(_h:yT bs 6=0)(hW:zU s 6=true):(Lib.trimPrefix s.data.toList b).length<=2048:=by
 have hs:s.size<=2048:=by simp[zU]at hW;omega
 have e:s.data.toList.length=s.size:=by simp
 unfold Lib.trimPrefix
 split
 ·rw[List.length_drop];omega
 omega
theorem bP {bs:List ByteArray}{s:ByteArray}(h0:0<bs.length)(h1:bs.length≠1)(hP:¬Lib.hasPrefix s.data.toList bs[0].data.toList=true):yJ bs s=false:=by
 match bs,h0,h1 with
 | b::c::rest,_,_ =>
  simp only[List.getElem_cons_zero,Bool.not_eq_true]at hP;simp[yJ,wU,hP]
theorem yK (w:World)(n:Int):Calls Tryz.prog 29 #[.int .i64 n] w fun e w'=>e=.returned (.bool (decide (1<=n/\n<=6)))/\w=w':=by
 by_cases h:1<=n
 ·go_enter Tryz.func29,Tryz.ntmps29
  go_wp2;go_ret;exact⟨zW (by simp[h]),rfl⟩
 go_enter Tryz.func29,Tryz.ntmps29;go_wp2;go_ret;exact⟨zW (by simp;omega),rfl⟩
theorem oU (s:ByteArray)(letters:Int)(w:World)(hs:s.size<=maxLen):Calls Tryz.prog 37 #[.string s,.int .i64 letters] w fun e w'=>e=.returned (.bool (zU s letters))/\w=w':=by
 unfold maxLen at hs;by_cases h1:¬(1<=letters/\letters<=6)
 ·have e1:decide (1<=letters/\letters<=6)=false:=decide_eq_false h1
  go_enter Tryz.func37,Tryz.ntmps37;go_wp2_with fail;refine(yK w letters).mono ?_;rintro e w' ⟨rfl,rfl⟩;rw[e1];go_wp2;go_ret;exact⟨zW (by simp[zU];omega),rfl⟩
 have e1:decide (1<=letters/\letters<=6)=true:=by simpa using h1
 by_cases h3:2048<s.size
 ·go_enter Tryz.func37,Tryz.ntmps37
  go_wp2_with fail;refine(yK w letters).mono ?_;rintro e w' ⟨rfl,rfl⟩;rw[e1];go_wp2;go_ret;exact⟨zW (by simp[zU];omega),rfl⟩
 go_enter Tryz.func37,Tryz.ntmps37;go_wp2_with fail;refine(yK w letters).mono ?_;rintro e w' ⟨rfl,rfl⟩;rw[e1];go_wp2
 go_loop [5] (fun i=>∃k:Nat,k<=s.size/\i=.int .i64 k/\(s.data.toList.take k).all (pK letters)=true) (fun i=>s.size-(intOf i).toNat)
 case atStart=>exact⟨0,Nat.zero_le _,rfl,rfl⟩
 obtain⟨k,hk,rfl,h0⟩:=hrel;have HA:=Kh h0;clear h0;by_cases hlt:k<s.size
 ·go_wp2
  ·go_ret
   exact⟨zW (by rw[eq_comm];exact pH s letters k hlt (by omega)),rfl⟩
  ·go_round
   case rel=>exact⟨k+1,by omega,by go_num,qLF s letters k hlt HA.out (by omega)⟩
   simp[intOf];omega
  go_ret;exact⟨zW (by rw[eq_comm];exact pH s letters k hlt (by omega)),rfl⟩
 go_wp2;go_ret;exact⟨zW (by rw[eq_comm];exact jJ s letters k (by omega) (by omega) HA.out),rfl⟩
end Go.Proofs.YtcoimliafiammaaGreat
