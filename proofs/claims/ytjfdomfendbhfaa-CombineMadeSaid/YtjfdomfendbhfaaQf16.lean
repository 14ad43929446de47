/- Part 16 of the proof. -/
import Derived.Test.YtjfdomfendbhfaaQf15
import Derived.BigQuiet
set_option linter.unusedVariables false
set_option linter.unusedSimpArgs false
set_option maxRecDepth 100000
set_option maxHeartbeats 16000000
namespace Go.Proofs.Ytjfdomfendbhfaa
open Go.RowKit Go.Maps
def qIG (w0:World)(B:Nat)(X:Nat->Prop)(o mb np:Nat)(w:World)(cs:List ChoV)(l:List ClaV)(p:Nat)(e:Ending)(w':World):Prop :=
 ∃ cs' r,e=.returned (.int .i64 r)/\BldS w0 B X o mb w cs' w'/\DecOk np cs cs' l p r
theorem iM {w:World}{p e:Nat}{x0 x1:Value}{m:Nat×Nat}(h:w.heap[p]?=some (.cells #[x0,x1] e m)):w.cell? ⟨p,0,none⟩=some x0/\w.cell? ⟨p,1,none⟩=some x1:=by
 have c0:=zJ h 0 (by simp);have c1:=zJ h 1 (by simp);exact⟨by simpa using c0,by simpa using c1⟩
theorem alike_more {l:List ClaV}{np p:Nat}(hc:ClsOk np l)(ha:mF l p)(hk:qI l=false)(hp:p<=np):p<np:=by
 rcases Nat.lt_or_ge p np with h|h
 ·exact h
 ·have:p=np:=by omega
  subst this;have:=const_of_one (ha.one hc);rw[this]at hk;cases hk
theorem const_all {l:List ClaV}(h:qI l=true):∀ c∈l,c.b=(l.headD default).b:=fun c hc=>by
 rw[qI,List.all_eq_true]at h
 simpa using h c hc
theorem BldS.end_ {w0 w w1 w':World}{B o mb:Nat}{X Y:Nat->Prop}{cs c0 cs':List ChoV}(h0:BldS w0 B X o mb w cs w)(hg:w.grownBy w1 none)(h1:BldS w0 B (fun k=>X k\/Y k) o mb w1 c0 w')(h:BldS w0 B (fun k=>X k\/Y k) o mb w1 cs' w'):BldS w0 B X o mb w cs' w':=by
 obtain⟨sa,cap,u,c,hB,hM,h2,h3,hu⟩:=h0;exact h.back (fun q hq=>.inl hq) (hB.mem.keep hg) hg.size hB.base
theorem bdecide_any (w0:World)(B o mb np:Nat)(hnp:np<=300)(N:Nat):∀ (X:Nat->Prop) (w:World) (v:Value) (l:List ClaV) (cs:List ChoV) (p:Nat),l.length<=N->0<l.length->ClsX X w v l->BldS w0 B X o mb w cs w->ClsOk np l->mF l p->p<=np->wE np cs cs.length->cs.Nodup->cs.length+l.length<=4000 ->
  Calls Try.prog 86 #[.pointer (some ⟨o,0,none⟩),v,.int .i64 (p:Int)] w (qIG w0 B X o mb np w cs l p):=by
 induction N with
 | zero=>intro X w v l cs p hN h0;omega
 | succ N IH0 =>
  intro X w v l cs p hN h0 hv hb g0 ha hp g1 f5 i6;have IH:=Kh IH0;clear IH0;obtain⟨va,vc,rfl⟩:=hv.shape;obtain⟨n,hn⟩:∃ n,n=l.length:=⟨_,rfl⟩;have HN:=Kh hn;have HV:=Kh hv;have HB:=Kh hb;have c0:=Kh g0;have HA:=Kh ha;have i0:=Kh g1;have g8:=Kh f5;rw[<- hn]at HV hN h0 i6 ⊢;have H4:Hid (Calls Try.prog 112 #[.slice va n vc] w fun e w'=>e=.returned (.tuple #[.int .i64 (conR l),.bool (qI l)])/\w.grownBy w' none):=Kh (constant_any X w _ l HV.out);obtain⟨cb,d5⟩:∃ cb,cb=qI l:=⟨_,rfl⟩;obtain⟨cr,d4⟩:∃ cr,cr=conR l:=⟨_,rfl⟩;rw[<- d5,<- d4]at H4;have f1:=Kh d5;have k0:=Kh d4;clear hv hb g0 ha g1 f5 hn d5 d4;go_enter Try.func86,Try.ntmps86;go_wp2_with fail;refine H4.out.mono ?_;rintro e w1 ⟨rfl,H9⟩;have h9:=Kh H9;clear H9 H4;cases cb with
  | true =>
   go_wp2;go_ret;refine⟨cs,cr,rfl,HB.out.grow h9.out,?_⟩;have e1:cr=iN (l.headD default).b:=by rw[k0.out,conR,if_pos ⟨f1.out.symm,by rw[<- HN.out];exact h0⟩]
   rw[e1];exact DecOk.const i0.out g8.out (by rw[<- HN.out];exact h0) (const_all f1.out.symm)
  | false =>
   go_wp2
   go_loopg [2,9,10,11,12,13] (np - p) (fun gh v2 v9 v10 v11 v12 v13 wr=>∃ q:Nat,gh+q=np/\p<=q/\v2=.int .i64 q/\mF l q/\w.grownBy wr none)
   case atStart=>exact⟨p,by omega,Nat.le_refl _,rfl,HA.out,h9.out⟩
   case round =>
    clear h9 HA w1;obtain⟨q,f7,c8,rfl,d7,hg⟩:=hrel;have f4:q<np:=alike_more c0.out d7 f1.out.symm (by omega);have g9:=Kh f7;have c3:=Kh d7;have HG:=Kh hg;have H8:l.length=n:=HN.out.symm;have a6:Hid (Calls Try.prog 113 #[.slice va n vc,.int .i64 (q:Int)] wr (qIX wr l q)):=Kh (divide_any X wr _ l q (HV.out.grow hg) (fun c hc=>by rw[c0.out.len c hc];omega) (by omega));have g3:Hid ((yesL l q).length+(noL l q).length=n):=Kh (by rw[qAX,H8]);clear f7 d7 hg H8;go_wp2_with fail;refine a6.out.mono ?_;rintro e w1 ⟨sy,cy,sn,cn,rfl,a8,a9,H9⟩;obtain⟨ly,b4⟩:∃ x,x=yesL l q:=⟨_,rfl⟩;obtain⟨ln,b5⟩:∃ x,x=noL l q:=⟨_,rfl⟩;rw[<- b4,<- b5]at g3;rw[<- b4]at a8 ⊢;rw[<- b5]at a9 ⊢;have H1:=Kh b4;have H2:=Kh b5;have h9:=Kh (zB HG.out H9 (by simp));have i4:=g3.out;obtain⟨my,b2⟩:∃ m,m=ly.length:=⟨_,rfl⟩;obtain⟨mn,b3⟩:∃ m,m=ln.length:=⟨_,rfl⟩;rw[<- b2,<- b3]at i4;rw[<- b2]at a8 ⊢;rw[<- b3]at a9 ⊢;have h8:=Kh b2;have h6:=Kh b3;have d9:=Kh a8;have e2:=Kh a9;have HZ:Hid (w.heap.size<=wr.heap.size):=Kh HG.out.size;clear b4 b5 b2 b3 H9 a8 a9 a6;by_cases hy0:my=0
    ·have d8:=Kh (c3.out.skip (p:=q) (.inl (by rw[<- H1.out,<- h8.out];exact hy0)))
     subst hy0;go_wp2;go_roundg (np - (q+1))
     case measure=>have:=g9.out;omega
     case rel=>exact⟨q+1,by omega,by omega,by go_num,d8.out,h9.out⟩
    by_cases hn0:mn=0
    ·have d8:=Kh (c3.out.skip (p:=q) (.inr (by rw[<- H2.out,<- h6.out];exact hn0)))
     have c4:¬ (my:Int)=0:=by omega
     have i5:((my:Int) == 0)=false:=by rw[beq_eq_false_iff_ne];exact c4
     subst hn0;go_wp2;go_roundg (np - (q+1))
     case measure=>have:=g9.out;omega
     case rel=>exact⟨q+1,by omega,by omega,by go_num,d8.out,h9.out⟩
    have c4:¬ (my:Int)=0:=by omega
    have i8:¬ (mn:Int)=0:=by omega
    have i5:((my:Int) == 0)=false:=by rw[beq_eq_false_iff_ne];exact c4
    have k4:((mn:Int) == 0)=false:=by rw[beq_eq_false_iff_ne];exact i8
    obtain⟨Y,hY⟩:∃ Y:Nat->Prop,Y=fun k=>(Value.slice sy my cy).ownBlock=some k\/(Value.slice sn mn cn).ownBlock=some k:=⟨_,rfl⟩
    have j2:Hid (∀ k,Y k->w.heap.size<=k/\k<w1.heap.size):=Kh (fun k hk=>by
     rw[hY]at hk;have:=HZ.out;rcases hk with hk|hk
     ·have:=d9.out.lt k hk;omega
     ·have:=e2.out.lt k hk;omega)
    have i3:=Kh (HB.out.fresh h9.out j2.out)
    have g6:Hid (ClsX (fun k=>X k\/Y k) w1 (.slice sy my cy) ly):=Kh (by
     have:=d9.out;rw[h8.out]at this ⊢
     exact kJ this (fun k hk=>.inr (by rw[hY,h8.out];exact .inl hk)))
    have g7:Hid (ClsX (fun k=>X k\/Y k) w1 (.slice sn mn cn) ln):=Kh (by
     have:=e2.out;rw[h6.out]at this ⊢
     exact kJ this (fun k hk=>.inr (by rw[hY,h6.out];exact .inr hk)))
    have e9:Hid (Calls Try.prog 86 #[.pointer (some ⟨o,0,none⟩),.slice sn mn cn,.int .i64 ((q+1:Nat):Int)] w1 (qIG w0 B (fun k=>X k\/Y k) o mb np w1 cs ln (q+1))):=Kh (IH.out (fun k=>X k\/Y k) w1 _ ln cs (q+1) (by rw[<- h6.out];omega) (by rw[<- h6.out];omega) g7.out i3.out (by rw[H2.out];exact c0.out.sub List.filter_sublist) (by rw[H2.out];exact c3.out.no) (by omega) i0.out g8.out (by rw[<- h6.out];omega));have e5:((q+1:Nat):Int)=(q:Int)+1:=by omega
    rw[e5]at e9;have e6:IntKind.i64.wrap ((q:Int)+1)=(q:Int)+1:=wG (by omega);have e7:(q:Int)+1 - 1=(q:Int):=by omega
    have e8:IntKind.i64.wrap ((q:Int)+1 - 1)=(q:Int):=by rw[e7];exact wG (by omega)
    clear hY d9 e2 e5;go_wp2_with fail;refine e9.out.mono ?_;rintro e w2 ⟨c1,rn,rfl,a3,a1⟩;have i2:=Kh a3;have a7:=Kh a1;have f8:=a1.few;have a4:=Kh (g6.out.kept a3.facts.2.1 a3.facts.2.2.1);have e4:Hid (Calls Try.prog 86 #[.pointer (some ⟨o,0,none⟩),.slice sy my cy,.int .i64 ((q+1:Nat):Int)] w2 (qIG w0 B (fun k=>X k\/Y k) o mb np w2 c1 ly (q+1))):=Kh (IH.out (fun k=>X k\/Y k) w2 _ ly c1 (q+1) (by rw[<- h8.out];omega) (by rw[<- h8.out];omega) a4.out a3.rebase (by rw[H1.out];exact c0.out.sub List.filter_sublist) (by rw[H1.out];exact c3.out.yes) (by omega) a1.ok a1.nd (by rw[<- h8.out];rw[<- h6.out]at f8;omega));rw[show ((q+1:Nat):Int)=(q:Int)+1 by omega]at e4;rw[<- h6.out]at f8;clear a3 a1 e9 g6 g7;go_wp2_with fail;refine e4.out.mono ?_;rintro e w3 ⟨c2,ry,rfl,g2,H5⟩;have a0:=H5.few;rw[<- h8.out]at a0;have j0:=a7.out.lo;have i9:=H5.lo;have d1:=H5.hi;have d2:rn<=1+(c2.length:Int):=by have:=a7.out.hi;have:=H5.pre.length_le;omega
    have f3:Hid (BldS w0 B X o mb w c2 w3):=Kh (by
     have h1:=i2.out.facts;have h2:BldS w0 B (fun k=>X k\/Y k) o mb w1 c2 w3:=g2.back (fun _ h=>h) h1.2.1 h1.2.2.1 h1.2.2.2.2.1
     exact HB.out.end_ h9.out h2 h2)
    have f0:=Kh H5;obtain⟨a,rfl⟩:∃ a:Nat,ry=(a:Int):=⟨ry.toNat,by omega⟩;obtain⟨b,rfl⟩:∃ b:Nat,rn=(b:Int):=⟨rn.toNat,by omega⟩;clear g2 H5 e4 i2 a4 i3;have a2:=heap_alloc_new w3 (.cells #[.int .i64 (q:Int),.int .i64 (a:Int),.int .i64 (b:Int)] 45);have d3:=Ga w3 (.cells #[.int .i64 (q:Int),.int .i64 (a:Int),.int .i64 (b:Int)] 45) none;obtain⟨w4,c6⟩:∃ w4,w4=w3.alloc (.cells #[.int .i64 (q:Int),.int .i64 (a:Int),.int .i64 (b:Int)] 45):=⟨_,rfl⟩;obtain⟨R,hR⟩:∃ R,R=w3.heap.size:=⟨_,rfl⟩;rw[<- c6]at a2 d3;rw[<- hR]at a2;have j3:=Kh c6;have j4:=Kh hR;have i1:=Kh a2;have h7:=Kh (f3.out.grow d3);have k3:R≠o:=(by have:=f3.out.facts.2.2.2.2.2.2;omega);have i7:R≠mb:=(by have:=f3.out.facts.2.2.2.2.2.1;omega);obtain⟨r0,r1,r2⟩:=zH a2;clear c6 hR a2 d3;go_upto_region 8 with fail;rw[<- j3.out,<- j4.out];by_cases hab:a=b
    ·have j7:=Kh (DecOk.same (by rw[<- H2.out];exact a7.out) (by rw[<- H1.out];exact f0.out) (by rw[hab]))
     subst hab;go_wp2;go_ret;exact⟨c2,_,rfl,h7.out,iG j7.out c8⟩
    have j1:¬ (a:Int)=(b:Int):=by omega
    obtain⟨x,hx⟩:∃ x:ChoV,x=⟨(q:Int),(a:Int),(b:Int)⟩:=⟨_,rfl⟩;have HX:=Kh hx;have g5:Hid (qAU x):=Kh (by rw[hx];exact⟨⟨by show (0:Int)<=q;omega,by show (q:Int)<_;omega⟩,⟨by show (0:Int)<=a;omega,by show (a:Int)<_;omega⟩,⟨by show (0:Int)<=b;omega,by show (b:Int)<_;omega⟩⟩);have g4:Hid (choW x=.agg #[.int .i64 (q:Int),.int .i64 (a:Int),.int .i64 (b:Int)]):=Kh (by rw[hx];rfl);obtain⟨sa,cap,u,c,d6,c9,H6,hu⟩:=h7.out.cells;obtain⟨b0,b1⟩:=iM d6;have f2:=Kh d6;have a5:=Kh H6;have HU:=Kh hu
    have h4:∀ q':Nat,Sem.run Try.prog (Instr.lookup 135 (.map (some mb)) (.agg #[.int .i64 (q:Int),.int .i64 (a:Int),.int .i64 (b:Int)]) true) (w4.drewN q')=.ok (.tuple #[.int .i64 (((numH c2 x).getD 0:Nat):Int),.bool (numH c2 x).isSome]) (w4.drewN q'):=fun q'=>by
     have:=(a5.out.kept (zN w4 q' none) (by simp)).lookup qHG g5.out;rw[g4.out]at this;exact this
    clear hx d6 c9 H6 hu;obtain⟨m2,d0⟩:∃ m,m=c2.length:=⟨_,rfl⟩;rw[<- d0]at b0 d2 d1 a0;have h5:=Kh d0;clear d0;by_cases hmem:x∈c2
    ·obtain⟨i,hi⟩:∃ i,i=c2.idxOf x:=⟨_,rfl⟩
     have b6:i<c2.length:=(by rw[hi];exact List.idxOf_lt_length_of_mem hmem);have f6:c2.getD i default=⟨(q:Int),(a:Int),(b:Int)⟩:=by rw[zG b6,<- HX.out];subst hi;exact List.getElem_idxOf b6
     have j8:=Kh (DecOk.old f4 (by rw[<- H2.out];exact a7.out) (by rw[<- H1.out];exact f0.out) b6 f6);rw[numH_of_mem hmem,<- hi]at h4;have H7:∀ q':Nat,Sem.run Try.prog (Instr.lookup 135 (.map (some mb)) (.agg #[.int .i64 (q:Int),.int .i64 (a:Int),.int .i64 (b:Int)]) true) (w4.drewN q')=.ok (.tuple #[.int .i64 (i:Int),.bool true]) (w4.drewN q'):=h4;have k5:i<4100:=(by have:=h5.out;omega);clear h4 b6 f6 hi;go_wp2
     go_quiet (fail)
     go_wp2;go_ret;exact⟨c2,_,yC (by go_num),h7.out.grow (zN _ _ _),iG j8.out c8⟩
    ·have j9:=Kh (DecOk.new f4 (by rw[<- H2.out];exact a7.out) (by rw[<- H1.out];exact f0.out) (by rw[<- HX.out];exact hmem) (by rw[<- H1.out,<- h8.out];omega) (by rw[<- H2.out,<- h6.out];omega))
     rw[qES hmem]at h4;have H7:∀ q':Nat,Sem.run Try.prog (Instr.lookup 135 (.map (some mb)) (.agg #[.int .i64 (q:Int),.int .i64 (a:Int),.int .i64 (b:Int)]) true) (w4.drewN q')=.ok (.tuple #[.int .i64 0,.bool false]) (w4.drewN q'):=h4;have H0:=Kh hmem;clear h4 hmem;go_upto_region 10 with fail
     go_quiet (fail)
     obtain⟨w5,c5⟩:∃ w5,w5=w4.drewN nq:=⟨_,rfl⟩;have b8:w4.grownBy w5 none:=(by rw[c5];exact zN _ _ _);have b0:=xG b0 b8;have b1:=xG b1 b8;rw[<- c5];have H3:=Kh b8;clear b8 c5 H7 r0 r1 r2;go_upto_region 13 with fail
     have C5:Hid (w5.cell? ⟨o,1,none⟩=some (.map (some mb))/\w5.cell? ⟨R,0,none⟩=some (.int .i64 (q:Int))/\w5.cell? ⟨R,1,none⟩=some (.int .i64 (a:Int))/\w5.cell? ⟨R,2,none⟩=some (.int .i64 (b:Int))):=Kh (by
      obtain⟨r0,r1,r2⟩:=zH (zA i1.out H3.out (by simp));obtain⟨_,b1⟩:=iM (zA f2.out H3.out (by simp))
      exact⟨b1,r0,r1,r2⟩)
     clear b0 b1;refine bd_put C5.out (a5.out.kept H3.out (by simp)) (by have:=HU.out;have:=h5.out;unfold maxLen;omega) g5.out g4.out (by omega) ?_;intro z71 z72 z73 z74 z75 z76 w7 b9 b7;rw[qES H0.out]at b9;have f9:(fun q=>if q=x then some m2 else numH c2 q)=numH (c2++[x]):=by rw[h5.out];exact numH_snoc H0.out
     rw[f9]at b9;have c7:=(h7.out.grow H3.out).put H0.out (zA f2.out H3.out (by simp)) b7 b9 (by have:=HU.out;omega);obtain⟨e0,eo,ez,ep⟩:=c7;have j6:=Kh eo;have j5:=Kh ep;have k2:=Kh (zA (zA i1.out H3.out (by simp)) b7 (fun e=>i7 (Oj e).symm));have e3:Hid (o<w7.heap.size):=Kh (Nat.lt_of_lt_of_le (zI (zA f2.out H3.out (by simp))) b7.size);rw[<- h5.out]at e0
     have C7:Hid (w7.cell? ⟨o,0,none⟩=some (.slice sa m2 cap)/\w7.cell? ⟨R,0,none⟩=some (.int .i64 (q:Int))/\w7.cell? ⟨R,1,none⟩=some (.int .i64 (a:Int))/\w7.cell? ⟨R,2,none⟩=some (.int .i64 (b:Int))):=Kh (by
      obtain⟨r0,r1,r2⟩:=zH k2.out
      exact⟨e0,r0,r1,r2⟩)
     clear b9 f9 eo ep b7 e0 C5;go_upto_region 14 with fail
     refine bd_app (P:=fun wZ=>BldS w0 B X o mb w (c2++[x]) wZ) C7.out (by have:=j6.out;rwa [<- h5.out]at this) ez (by omega) e3.out (fun wg hwg w2' s' c' h1 h2 h3=>by
      have:=j5.out wg hwg w2' s' c' (by rw[<- h5.out,show qIC x=[.int .i64 (q:Int),.int .i64 (a:Int),.int .i64 (b:Int)] by rw[HX.out];rfl];exact h1) (by rw[<- h5.out];exact h2) (by rw[<- h5.out];exact h3);rw[<- h5.out]at this
      exact this) ?_
     intro z77 z78 z79 z80 z81 z82 z83 z84 z85 z86 wZ hZ;have k1:=Kh hZ;clear hZ ez;go_wp2;go_ret;refine⟨c2++[x],_,yC (by go_num),k1.out,?_⟩;have:=iG j9.out c8;rw[<- HX.out,<- h5.out]at this;exact this
end Go.Proofs.Ytjfdomfendbhfaa
namespace Go.Proofs.Ytjfdomfendbhfaa
open Go.RowKit Go.Maps
def qIY (w:World)(ps:List (List ByteArray))(l:List ClaV)(e:Ending)(w':World):Prop :=
 ∃ v g,e=.returned v/\(∀ w2 row,w'.grownBy w2 row->(∀ j,row=some j->j<w.heap.size)->qM w2.heap.size w2 v g)/\g.pats=ps/\wE ps.length g.chos g.chos.length/\0<=g.root/\g.root<=1+(g.chos.length:Int)/\(∀ c∈l,decG g.chos (fun i=>c.m.getD i false) g.root=c.b)/\g.chos.length+1<=l.length/\w.grownBy w' none
theorem eB {w w':World}{base e sz n:Nat}{v:Value}{xs:List Value}{row:Option Nat}(h:w.ownsRow base e sz v n xs)(hg:w.grownBy w' row)(hr:∀ j,row=some j->j<base):w'.ownsRow base e sz v n xs:=by
 rcases hv:v.ownBlock with _|k
 ·exact h.kept hg (.inl hv)
 ·exact h.kept hg (.inr (fun e=>by have h1:=(h.lt k hv).1;have:=hr k (by rw[<- e,hv]);omega))
theorem elem_pat1:ElemN Try.prog 22 28 1 (.agg #[.slice none 0 0]) 24:=⟨by kernel_rfl,by kernel_rfl,by rfl,by decide⟩
theorem sclone_any (B:Nat)(w:World)(v:Value)(p:List ByteArray)(h:Row B w v (txtV p))(hl:p.length<=100000):
  Calls Try.prog 87 #[v] w fun e w'=>∃ sa sc,e=.returned (.slice sa p.length sc)/\w'.ownsRow w.heap.size 9 1 (.slice sa p.length sc) p.length (txtV p)/\w.grownBy w' none:=by
 rcases h with ⟨a,c,rfl,hx⟩|⟨b,off,cap,rfl,_,hc1,hc2,hra⟩
 ·have hp:p=[]:=by simpa [txtV] using hx
  subst hp;rcases a with _|a
  ·exact(Try.slices_Clone_string_nil 0 c w).mono fun e w' ⟨h1,h2⟩=>⟨none,0,h1,by rw[h2];exact World.ownsRow_nil _ _ _ _,by rw[h2];exact zM _ _⟩
  ·exact(Try.slices_Clone_string_zero a c w).mono fun e w' ⟨v',h1,h2,_,h3⟩=>by
    obtain⟨sa,sc,rfl⟩:=qV h2;exact⟨sa,sc,h1,h2,lM h3⟩
 ·rw[yB]
  refine(Try.slices_Clone_string b off p.length cap p w (Nat.le_refl _) (by omega) (fun j hj=>?_)).mono ?_
  ·exact vD hra j hj
  ·rintro e w' ⟨v',rfl,h0,_,h4⟩
   rw[List.take_of_length_le (Nat.le_refl _)]at h0;obtain⟨sa,sc,rfl⟩:=qV h0;exact⟨sa,sc,rfl,h0,lM h4⟩
theorem clsok_of {M:Nat->List Bool}{A:Nat->Bool}{s np:Nat}{l:List ClaV}(h:ClsI M A s s l)(hM:∀ i,(M i).length=np):ClsOk np l:=⟨fun c hc=>by obtain⟨i,_,e⟩:=h.met c hc;rw[<- e];exact hM i,h.nd⟩
theorem diagram_any (Bd:Nat)(w:World)(pv lv:Value)(ps:List (List ByteArray))(l:List ClaV)(hBd:Bd<=w.heap.size)(hp:uJ Bd w pv ps)(hl:ClsX (fun k=>k<w.heap.size) w lv l)(h0:0<l.length)(h4:l.length<=4000)(hcl:ClsOk ps.length l)(h3:ps.length<=300)(h8:∀ p∈ps,p.length<=100000):
  Calls Try.prog 61 #[pv,lv] w (qIY w ps l):=by
 obtain⟨pa,pc,rfl⟩:=hp.shape;obtain⟨la,lc,rfl⟩:=hl.shape;obtain⟨np,e7⟩:∃ n,n=ps.length:=⟨_,rfl⟩;have H6:=Kh e7;have HP:=Kh hp;rw[<- e7]at hcl h3 HP ⊢;obtain⟨n,hn⟩:∃ n,n=l.length:=⟨_,rfl⟩;have HN:=Kh hn;have HL:=Kh hl;have H0:=Kh h0;have H4:=Kh h4;have m7:=Kh hcl;have H8:=Kh h8;rw[<- hn]at HL ⊢;have k9:=@run_makeMap Try.prog;clear hp hl e7 hn h0 h4 hcl h8;go_enter Try.func61,Try.ntmps61;go_upto_region 1 with fail;obtain⟨wA,e2⟩:∃ wA,wA=w.alloc (.cells #[.slice none 0 0,.slice none 0 0,.int .i64 0] 25):=⟨_,rfl⟩;have a8:=Ga w (.cells #[.slice none 0 0,.slice none 0 0,.int .i64 0] 25) none;have b3:=heap_alloc_new w (.cells #[.slice none 0 0,.slice none 0 0,.int .i64 0] 25);have j8:wA.heap.size=w.heap.size+1:=by rw[e2,zO]
 obtain⟨P,hP⟩:∃ P,P=w.heap.size:=⟨_,rfl⟩;rw[<- e2]at a8 b3 ⊢;rw[<- hP]at b3 ⊢;have m4:=Kh hP;obtain⟨mb,c9⟩:∃ b,b=wA.heap.size:=⟨_,rfl⟩;obtain⟨w1,c5⟩:∃ w1,w1=wA.alloc (.map #[] 0):=⟨_,rfl⟩;have h7:=MapK.made 45 qAU choW wA;have d2:=Ga wA (.map #[] 0) none;have g5:w1.heap.size=mb+1:=by rw[c5,zO,c9]
 rw[<- c5]at h7 d2;rw[<- c9]at h7;have d6:=heap_alloc_new w1 (.cells #[.slice none 0 0,.map (some mb)] 137);have H2:=Ga w1 (.cells #[.slice none 0 0,.map (some mb)] 137) none;obtain⟨w2,c4⟩:∃ w2,w2=w1.alloc (.cells #[.slice none 0 0,.map (some mb)] 137):=⟨_,rfl⟩;have k3:w2.heap.size=mb+2:=by rw[c4,zO,g5]
 obtain⟨o,ho⟩:∃ o,o=w1.heap.size:=⟨_,rfl⟩;rw[<- c4]at d6 H2;rw[<- ho]at d6;have m9:=Kh (zA (zA b3 d2 (by simp)) H2 (by simp));have a1:wA.grownBy w2 none:=zB d2 H2 (by simp);have f4:Hid (w.heap.size<=w2.heap.size):=Kh (by omega);have a3:w.grownBy w2 none:=zB a8 a1 (by simp);have e4:(45:Nat)≠137:=by decide
 have e3:(45:Nat)≠25:=by decide
 have a5:(28:Nat)≠25:=by decide
 have j6:Hid (BldS wA w2.heap.size (fun k=>k<w.heap.size) o mb w2 [] w2):=Kh ⟨none,0,0,0,⟨⟨fun r hr=>by simp at hr;subst hr;exact World.ownsRow_nil _ _ _ _,List.pairwise_singleton _ _,fun r hr k hk=>by simp at hr;subst hr;simp[Value.ownBlock]at hk,fun k hk=>Nat.lt_of_lt_of_le hk a3.size⟩,fun r hr=>by simp at hr;subst hr;exact⟨rfl,e4⟩,d6,fun e=>by have e:o<w.heap.size:=e;omega,by omega,by omega,Nat.le_refl _,a1,vR.refl _ _,Nat.le_refl _⟩,h7.kept H2 (by simp),fun e=>by have e:mb<w.heap.size:=e;omega,by omega,Nat.le_refl _⟩;have H7:Hid (Calls Try.prog 86 #[.pointer (some ⟨o,0,none⟩),.slice la n lc,.int .i64 0] w2 (qIG wA w2.heap.size (fun k=>k<w.heap.size) o mb np w2 [] l 0)):=Kh (bdecide_any wA w2.heap.size o mb np (by omega) l.length (fun k=>k<w.heap.size) w2 _ l [] 0 (Nat.le_refl _) H0.out (HL.out.grow a3) j6.out m7.out (fun c _ c' _ q hq=>by omega) (Nat.zero_le _) (fun i hi=>by simp at hi) List.nodup_nil (by have:=H4.out;simp;omega));have m1:=Kh c5;have m0:=Kh c4;have m6:=Kh c9;have m5:Hid (o=mb+1):=Kh (by omega);have j5:=Kh b3;have j4:=Kh a8;have n0:=a8.size;clear b3 a8 j8 hP c9 c5 h7 d2 g5 d6 H2 c4 k3 ho a3 a1 e2 j6;go_upto_region 2 with fail;rw[<- m6.out,<- m1.out,<- m5.out,<- m0.out];clear k9;go_wp2_with fail;refine H7.out.mono ?_;rintro e w3 ⟨cs,r,rfl,d5,f1⟩;have d9:=Kh f1;have d8:=Kh (zB j4.out d5.facts.1 (by simp));have b8:=Kh (zA j5.out d5.facts.1 (by simp));obtain⟨sa,cap,u,c,b2,h9,_,_⟩:=d5.cells;obtain⟨b0,b1⟩:=iM b2;have j2:=Kh h9;have n3:=f1.lo;obtain⟨q,rfl⟩:∃ q:Nat,r=(q:Int):=⟨r.toNat,by omega⟩;obtain⟨m,hm⟩:∃ m,m=cs.length:=⟨_,rfl⟩;rw[<- hm]at b0 j2;have HM:=Kh hm;have d4:=heap_alloc_new w3 (.cells #[.slice none 0 0,.slice sa m cap,.int .i64 (q:Int)] 25);have a9:=Ga w3 (.cells #[.slice none 0 0,.slice sa m cap,.int .i64 (q:Int)] 25) none;obtain⟨w4,c3⟩:∃ w4,w4=w3.alloc (.cells #[.slice none 0 0,.slice sa m cap,.int .i64 (q:Int)] 25):=⟨_,rfl⟩;have j9:w4.heap.size=w3.heap.size+1:=by rw[c3,zO]
 obtain⟨od,e6⟩:∃ o,o=w3.heap.size:=⟨_,rfl⟩;rw[<- c3]at d4 a9;rw[<- e6]at d4;have l9:=Kh c3;have j1:=Kh e6;have i8:Hid (BoxS w4.heap.size (fun _=>False) od 25 w3 w4 (⟨w4.heap.size,28,.slice none 0 0,0,[],1⟩::[]) #[.slice none 0 0,.slice sa m cap,.int .i64 (q:Int)] w4):=Kh ⟨⟨fun r hr=>by simp at hr;subst hr;exact World.ownsRow_nil _ _ _ _,List.pairwise_singleton _ _,fun r hr k hk=>by simp at hr;subst hr;simp[Value.ownBlock]at hk,fun k hk=>hk.elim⟩,fun r hr=>by simp at hr;subst hr;exact⟨rfl,a5⟩,d4,fun e=>e,by omega,by omega,Nat.le_refl _,a9,vR.refl _ _,Nat.le_refl _⟩;have b4:Hid (w3.heap.size<=w4.heap.size):=Kh a9.size;have l6:Hid (w.heap.size<=w2.heap.size/\w.heap.size<=w4.heap.size):=Kh ⟨f4.out,Nat.le_trans d8.out.size a9.size⟩;have j0:Hid (P<w3.heap.size):=Kh (zI b8.out);have n5:Hid (Bd<=w3.heap.size):=Kh (Nat.le_trans hBd d8.out.size);clear d5 f1 b2 h9 hm c3 e6 a9 j9 d4 H7 j5 j4 b1;go_upto_region 4 with fail;rw[<- j1.out,<- l9.out];clear b0;go_wp2
 go_loopg [24] np (fun gh v24 wr=>∃ (k:Nat) (sp:Option Addr) (cp:Nat) (svs:List Value) (X:Nat->Prop),gh+k=np/\v24=.int .i64 k/\BoxS w4.heap.size X od 25 w3 wr (⟨w4.heap.size,28,.slice sp k cp,k,svs,1⟩::[]) #[.slice sp k cp,.slice sa m cap,.int .i64 (q:Int)] wr/\uF X 9 txtV wr svs (ps.take k)/\(∀ j,X j->w4.heap.size<=j))
 case atStart=>exact⟨0,none,0,[],fun _=>False,rfl,rfl,i8.out,uF.nil,fun _ h=>h.elim⟩
 case round =>
  clear i8;obtain⟨k,sp,cp,svs,X,i2,rfl,f3,g8,g6⟩:=hrel;have f6:=Kh g6;have g2:=Kh i2;have H9:=Kh f3;have f9:=Kh g8;have a7:=f3.grown;clear i2 f3 g8 g6;by_cases hk:k<np
  ·have l0:(k:Int)<np:=by omega
   obtain⟨b,off,pcap,e,l3,f2,a4,H1⟩:=((HP.out.kept d8.out (by simp)).kept a7 (by simp)).at_ (by rw[<- H6.out];omega);rw[<- H6.out]at e f2 H1;simp only[Value.slice.injEq,true_and]at e;obtain⟨rfl,rfl⟩:=e;have n2:pc<=9223372036854775807:=by unfold maxLen at a4;omega
   obtain⟨ea,ec,c1,h5,c6⟩:=H1 k hk;obtain⟨p,hp⟩:∃ p,p=ps.getD k []:=⟨_,rfl⟩;have k6:p.length<=100000:=H8.out p (by rw[hp,zG (by rw[<- H6.out];exact hk)];exact List.getElem_mem _);rw[<- hp]at c1 h5;have m3:=Kh hp;have f7:Hid (∀ W:World,wr.grownBy W none->Calls Try.prog 87 #[.slice ea p.length ec] W fun e w'=>∃ sa sc,e=.returned (.slice sa p.length sc)/\w'.ownsRow W.heap.size 9 1 (.slice sa p.length sc) p.length (txtV p)/\W.grownBy w' none):=Kh (fun W hW=>sclone_any Bd W _ p (h5.kept hW (by simp)) k6);obtain⟨pl,g9⟩:∃ n,n=p.length:=⟨_,rfl⟩;rw[<- g9]at c1 f7;have d3:=heap_alloc_new wr (.cells #[.slice ea pl ec] 28);have e8:=Ga wr (.cells #[.slice ea pl ec] 28) none;obtain⟨wR,e1⟩:∃ wR,wR=wr.alloc (.cells #[.slice ea pl ec] 28):=⟨_,rfl⟩;obtain⟨R,hR⟩:∃ R,R=wr.heap.size:=⟨_,rfl⟩;rw[<- e1]at d3 e8;rw[<- hR]at d3;have l7:=Kh e1;have m2:=Kh hR;have g0:=Kh e8;have m8:=Kh d3;clear H1 h5 c6 hp g9 e1 hR e8 d3 f2 a4 a7;go_upto_region 7 with fail;rw[<- l7.out,<- m2.out];clear c1;obtain⟨w5,c2⟩:∃ w5,w5=wR.drew:=⟨_,rfl⟩;have f0:wr.grownBy w5 none:=(by rw[c2];exact zD g0.out (zP wR none));have l8:=Kh c2;have d7:=Kh f0
   have C5:Hid (w5.cell? ⟨od,0,none⟩=some (.slice sp k cp)/\w5.cell? ⟨R,0,none⟩=some (.slice ea pl ec)):=Kh (by
    have h1:=zJ (H9.out.grow f0).box 0 (by simp);simp only[List.getElem_toArray,List.getElem_cons_zero]at h1;refine⟨h1,?_⟩;have h2:=zJ (zA m8.out (show wR.grownBy w5 none by rw[c2];exact zP wR none) (by simp)) 0 (by simp)
    simpa using h2)
   clear f0 c2;refine wp_region_noPanic ?_;refine xZ (G:=tG 7 (fun _=>True) (fun W=>W.cell? ⟨od,0,none⟩=some (.slice sp k cp)/\W.cell? ⟨R,0,none⟩=some (.slice ea pl ec))) (by kernel_rfl) ?_;rw[<- l8.out];refine yK 0 ⟨trivial,fun _=>C5.out⟩ ?_;refine vX 1 ⟨trivial,fun _=>C5.out⟩ ?_;refine yK 2 ⟨trivial,fun _=>C5.out⟩ ?_;obtain⟨k1,k2⟩:=C5.out;refine oneG (i:=3) (by kernel_rfl) rfl (fun K hK=>?_);go_simp;refine hK.out _ _ ⟨trivial,fun _=>C5.out⟩ ?_;clear hK K k1 k2
   try simp only[Act.put,sPa,sPb,sPc]
   refine oneG (i:=4) (by kernel_rfl) rfl (fun K hK=>?_);go_simp
   go_at_call 87
   refine(f7.out w5 d7.out).mono ?_;rintro e w8 ⟨s8,c8,rfl,h6,d1⟩;have H3:=zD d7.out d1;have g3:Hid (BoxS w4.heap.size (fun j=>X j\/(Value.slice s8 pl c8).ownBlock=some j) od 25 w3 w8 (⟨w4.heap.size,28,.slice sp k cp,k,svs,1⟩::[]) #[.slice sp k cp,.slice sa m cap,.int .i64 (q:Int)] w8):=Kh (H9.out.fresh H3 (fun j hj=>⟨Nat.le_trans d7.out.size (h6.lt j hj).1,(h6.lt j hj).2⟩))
   have b6:Hid (uF (fun j=>X j\/(Value.slice s8 pl c8).ownBlock=some j) 9 txtV w8 (svs++[.slice s8 pl c8]) (ps.take (k+1))):=Kh (by
    rw[zR (d:=[]) (by rw[<- H6.out];exact hk),<- m3.out]
    exact((f9.out.kept (H9.out.mem.keep H3) H3.size).mono (fun j hj=>.inl hj)).snoc (RowX.of_owns h6 (fun j hj=>.inr hj)))
   have C8:Hid (w8.cell? ⟨od,0,none⟩=some (.slice sp k cp)/\w8.cell? ⟨R,0,none⟩=some (.slice ea pl ec)):=Kh ⟨xG C5.out.1 d1,xG C5.out.2 d1⟩
   have f5:Hid (∀ j,(X j\/(Value.slice s8 pl c8).ownBlock=some j)->w4.heap.size<=j):=Kh (fun j hj=>by
    rcases hj with hj|hj
    ·exact f6.out j hj
    ·exact Nat.le_trans (Nat.le_trans H9.out.base d7.out.size) (h6.lt j hj).1)
   refine hK.out _ _ ⟨trivial,fun _=>C8.out⟩ ?_;clear hK K C5 h6 d1 H3 f7
   try simp only[Act.put,sPa,sPb,sPc]
   refine oneG (i:=5) (by kernel_rfl) rfl (fun K hK=>?_);go_simp;refine hK.out _ _ ⟨trivial,fun _=>C8.out⟩ ?_;clear hK K
   try simp only[Act.put,sPa,sPb,sPc]
   refine oneG (i:=6) (by kernel_rfl) rfl (fun K hK=>?_);go_simp;have d0:=heap_alloc_new w8 (.cells #[Value.slice s8 pl c8] 28);have a2:=Ga w8 (.cells #[Value.slice s8 pl c8] 28) none;obtain⟨R9,i5⟩:∃ R9,R9=w8.heap.size:=⟨_,rfl⟩;obtain⟨w9,c0⟩:∃ w9,w9=w8.alloc (.cells #[Value.slice s8 pl c8] 28):=⟨_,rfl⟩;rw[<- c0]at d0 a2 ⊢;rw[<- i5]at d0 ⊢;have b7:=Kh (g3.out.grow a2).rebase;have b5:=Kh (b6.out.kept (g3.out.mem.keep a2) a2.size);have C9:Hid (w9.cell? ⟨od,0,none⟩=some (.slice sp k cp)/\w9.cell? ⟨R,0,none⟩=some (.slice ea pl ec)):=Kh ⟨xG C8.out.1 a2,xG C8.out.2 a2⟩;refine hK.out _ _ ⟨trivial,fun _=>C9.out⟩ ?_;clear hK K C8 a2 c0 i5
   try simp only[Act.put,sPa,sPb,sPc]
   have c7:=b7.out.own (r:=⟨w4.heap.size,28,.slice sp k cp,k,svs,1⟩) (by simp);have g4:=Nat.le_trans b7.out.base b7.out.wk;refine oneG (i:=7) (by kernel_rfl) rfl (fun K hK=>?_);refine tQ rfl (.tmp 29) (.tmp 34) 22 rfl elem_pat1 w4.heap.size (.slice sp k cp) k svs rfl c7 [.slice s8 pl c8] R9 rfl (0,0) rfl d0 ?z1 ?z2 ?z3 g4 ?_
   case z1=>intro v hv;simp only[List.mem_cons,List.not_mem_nil,or_false]at hv;subst hv;rfl
   case z2=>unfold maxLen;omega
   case z3=>show (k+1) * 24<=140737488355328;omega
   intro sN cN wM h9 i3 i0;have b9:=Kh (b7.out.appAt (j:=0) rfl h9 i3 i0);have i4:=zJ b9.out.box 0 (by simp);simp only[List.getElem_toArray,List.getElem_cons_zero]at i4;have l1:=zE b9.out.box 0;have k7:=zI b9.out.box;refine hK.out _ _ ⟨trivial,fun h=>by simp at h⟩ ?_;clear hK K C9 h9 i3 i0 d0 c7 g4
   try simp only[Act.put,sPa,sPb,sPc]
   refine oneG (i:=8) (by kernel_rfl) rfl (fun K hK=>?_);go_simp;refine hK.out _ _ ⟨trivial,fun h=>by simp at h⟩ ?_;clear hK K
   try simp only[Act.put,sPa,sPb,sPc]
   refine oneG (i:=9) (by kernel_rfl) rfl (fun K hK=>?_);go_simp;have H5:=Kh (b9.out.set 0 (.slice sN (k+1) cN));obtain⟨wZ,g7⟩:∃ wZ,wZ=wM.setCell ⟨od,0,none⟩ (.slice sN (k+1) cN):=⟨_,rfl⟩;rw[<- g7]at H5 ⊢;have f8:=Kh (b5.out.kept H5.out.kept H5.out.wk);refine hK.out _ _ ⟨trivial,fun h=>by simp at h⟩ ?_;clear hK K g7
   try simp only[Act.put,sPa,sPb,sPc]
   refine nE (by kernel_rfl) ?_ _;refine NoPanic.normal ?_;clear i4 l1 k7 b9 b7 b5 b6 g3;go_wp2;go_roundg (np - (k+1))
   case measure=>have:=g2.out;omega
   case rel=>exact⟨k+1,sN,cN,_,_,by have:=g2.out;omega,by go_num,H5.out.rebase,f8.out,f5.out⟩
  ·have i1:k=np:=by have:=g2.out;omega
   have l0:¬ (k:Int)<np:=(by omega);have i7:Hid (ps.take k=ps):=Kh (List.take_of_length_le (by rw[<- H6.out];omega));have j3:=Kh i1;have b2:=H9.out.box;obtain⟨x0,x1,x2⟩:=zH b2;have a0:=zA b8.out a7 (by simp);have f40:=zE a0 0;have f41:=zE a0 1;have f42:=zE a0 2;have n4:=zI a0;obtain⟨v0,v1,v2⟩:=zH a0;have i9:=Kh a0;have n1:P≠od:=(by have:=j0.out;have:=j1.out;omega);clear i1 b2;go_wp2;have g1:=zD (zD (zC wr ⟨P,0,none⟩ (.slice sp k cp)) (zC _ ⟨P,1,none⟩ (.slice sa m cap))) (zC _ ⟨P,2,none⟩ (.int .i64 (q:Int)));have z1:=heap_setCell_same _ P 2 _ _ (.int .i64 (q:Int)) (heap_setCell_same _ P 1 _ _ (.slice sa m cap) (heap_setCell_same wr P 0 _ _ (.slice sp k cp) a0));obtain⟨w9,c0⟩:∃ w9,w9=((wr.setCell ⟨P,0,none⟩ (.slice sp k cp)).setCell ⟨P,1,none⟩ (.slice sa m cap)).setCell ⟨P,2,none⟩ (.int .i64 (q:Int)):=⟨_,rfl⟩;rw[<- c0]at g1 z1 ⊢;simp only[Array.setIfInBounds,List.size_toArray,List.length_cons,List.length_nil]at z1;obtain⟨q0,q1,q2⟩:=zH z1;refine bodyPost_ret (v:=.agg #[.slice sp k cp,.slice sa m cap,.int .i64 (q:Int)]) (by simp[results,Try.results61,go_sem,q0,q1,q2,Result.andThen]) rfl ?_;have l5:vR X wr w9:=vR.of_grown H9.out.mem.lt g1 (fun j e hx=>by have e:P=j:=Oj e;have:=f6.out j hx;have:=j0.out;have:=b4.out;omega);have a6:=f9.out.kept l5 g1.size;rw[i7.out]at a6;have e0:∀ j,X j->j<w9.heap.size:=fun j hj=>Nat.lt_of_lt_of_le (H9.out.mem.lt j hj) g1.size;have ho:=H9.out.own (r:=⟨w4.heap.size,28,.slice sp k cp,k,svs,1⟩) (by simp);have c7:=ho.kept g1 (.inr (zS ho i9.out a5));have hc:=zQ j2.out a7;have l2:=hc.kept g1 (.inr (zS hc i9.out e3));have k4:svs.length=k:=by have:=f9.out.1;rw[i7.out,<- H6.out]at this;have:=j3.out;omega
   have j7:=l6.out;have k0:=b4.out;refine⟨_,⟨ps,cs,(q:Int)⟩,rfl,fun w2' row H2 h5=>?_,rfl,?_,by show (0:Int)<=q;omega,d9.out.hi,d9.out.dec,by have:=d9.out.few;simp at this;omega,?_⟩
   ·have l4:vR X w9 w2':=vR.of_grown e0 H2 (fun j e hx=>by have:=h5 j e;have:=f6.out j hx;omega)
    have k5:=(a6.kept l4 H2.size).rowsT;have k8:=eB (base:=w4.heap.size) c7 H2 (fun j e=>by have:=h5 j e;omega);have a4:=eB (base:=w2.heap.size) l2 H2 (fun j e=>by have:=h5 j e;omega);refine⟨_,_,rfl,⟨svs,(RowT.of_owns k8).row,?_,?_⟩,?_⟩
    ·show svs.length=ps.length
     rw[k4,j3.out,H6.out]
    ·intro i h1 h2
     refine⟨(k5.2 i h1 h2).row,fun j hj=>?_⟩;have i6:i<ps.length:=h2;obtain⟨pb,po,pcap,e,l3,f2,a4,H1⟩:=HP.out.at_ (by omega);obtain⟨ea,ec,c1,h5,c6⟩:=H1 i i6;have e5:ps.getD i []=ps[i]:=zG i6;rw[e5]at c6;exact c6 j hj
    ·rw[HM.out]at a4
     have e9:=pE a4 (Nat.le_refl w2'.heap.size);rw[<- HM.out]at e9;exact e9
   ·show wE ps.length cs cs.length
    rw[<- H6.out];exact d9.out.ok
   ·exact zB (zB d8.out a7 (by simp)) g1 (fun j e=>by have e:P=j:=Oj e;have:=m4.out;omega)
end Go.Proofs.Ytjfdomfendbhfaa
namespace Go.Proofs.Ytjfdomfendbhfaa
open Go.RowKit
def Fit:List (List UInt8)->List UInt8->List UInt8->Prop
 | [],v,r=>∃ q,r=q++v
 | u::us,v,r=>∃ p r',r=p++u++r'/\Fit us v r'
theorem Fit.more:∀ {us:List (List UInt8)} {v r:List UInt8} (p:List UInt8),Fit us v r->Fit us v (p++r)
 | [],v,r,p,⟨q,h⟩=>⟨p++q,by rw[h,List.append_assoc]⟩
 | u::us,v,r,p,⟨q,r',h,hf⟩=>⟨p++q,r',by rw[h];simp only[List.append_assoc],hf⟩
theorem gP {r u p q:List UInt8}(h:r=p++u++q):Lib.occAt r u p.length=true:=by
 subst h;unfold Lib.occAt;rw[List.append_assoc,List.drop_left,List.isPrefixOf_iff_prefix];exact List.prefix_append _ _
theorem qER {r u:List UInt8}{i:Nat}(h:Lib.occAt r u i=true)(hi:i<=r.length):r=r.take i++u++r.drop (i+u.length):=by
 unfold Lib.occAt at h;rw[List.isPrefixOf_iff_prefix]at h;obtain⟨t,ht⟩:=h;have h1:r=r.take i++(u++t):=by rw[ht,List.take_append_drop]
 have h2:r.drop (i+u.length)=t:=by rw[<- List.drop_drop,<- ht,List.drop_left]
 rw[h2,List.append_assoc];exact h1
theorem fit_cut (us:List (List UInt8))(u v r:List UInt8):Fit (u::us) v r ↔ (Lib.cut r u).2.2=true/\Fit us v (Lib.cut r u).2.1:=by
 unfold Lib.cut;rcases Lib.index_spec r u with ⟨h,hno⟩|⟨i,h,hi,hocc,hno⟩
 ·rw[if_neg (by omega)]
  constructor
  ·rintro ⟨p,r',hr,_⟩
   have:=hno p.length (by rw[hr];simp);rw[gP hr]at this;cases this
  ·rintro ⟨h,_⟩;cases h
 ·rw[if_pos (by omega),h]
  simp only[Int.toNat_natCast,true_and];constructor
  ·rintro ⟨p,r',hr,hf⟩
   have h0:i<=p.length:=by
    rcases Nat.lt_or_ge p.length i with hlt|hge
    ·have:=hno p.length hlt
     rw[gP hr]at this;cases this
    ·exact hge
   have hd:r.drop (p.length+u.length)=r':=by
    rw[hr,<- List.length_append,List.drop_left]
   have he:r.drop (i+u.length)=(r.drop (i+u.length)).take (p.length - i)++r':=by
    have e:r'=(r.drop (i+u.length)).drop (p.length - i):=by rw[List.drop_drop,<- hd];congr 1;omega
    rw[e,List.take_append_drop]
   rw[he];exact hf.more _
  ·intro hf
   exact⟨_,_,qER hocc hi,hf⟩
theorem iY:∀ (us:List (List UInt8)) (r v:List UInt8),mV us r v=true ↔ Fit us v r
 | [],r,v=>by
  show Lib.hasSuffix r v=true ↔ _
  unfold Lib.hasSuffix
  rw[List.isSuffixOf_iff_suffix]
  exact⟨fun⟨q,h⟩=>⟨q,h.symm⟩,fun⟨q,h⟩=>⟨q,h.symm⟩⟩
 | u::us,r,v=>by
  rw[fit_cut]
  unfold mV rL
  by_cases h:(Lib.cut r u).2.2=true
  ·rw[if_pos h]
   have:=iY us (Lib.cut r u).2.1 v
   unfold mV at this
   rw[this]
   exact⟨fun h'=>⟨h,h'⟩,fun h'=>h'.2⟩
  ·rw[if_neg h]
   exact⟨fun h'=>(by cases h'),fun h'=>absurd h'.1 h⟩
def qL:List (List UInt8)->List UInt8->Prop
 | [],_=>False
 | [b],s=>s=b
 | b::c::rest,s=>∃ r,s=b++r/\Fit (c::rest).dropLast ((c::rest).getLastD []) r
theorem lK:∀ (bs:List (List UInt8)) (s:List UInt8),wK bs s=true ↔ qL bs s
 | [],s=>by simp[wK,qL]
 | [b],s=>by simp[wK,qL]
 | b::c::rest,s=>by
  simp only[wK,qL,Bool.and_eq_true,iY]
  unfold Lib.hasPrefix
  rw[List.isPrefixOf_iff_prefix]
  constructor
  ·rintro ⟨⟨t,ht⟩,hf⟩
   refine⟨t,ht.symm,?_⟩
   rwa [<- ht,List.drop_left]at hf
  ·rintro ⟨r,rfl,hf⟩
   exact⟨List.prefix_append _ _,by rwa [List.drop_left]⟩
theorem bO {n:Nat}{letters:Int}:∀ (bs:List ByteArray) (i:Nat),(∀ j (h:j<bs.length),uU n letters (i+j) bs[j]=true)->vH n letters i bs=true
 | [],_,_=>rfl
 | b::bs,i,h=>by
  have h1:=h 0 (by simp)
  have h2:=bO bs (i+1) fun j hj=>by
   have:=h (j+1) (by simpa using hj)
   rwa [show i+1+j=i+(j+1) by omega]
  simp only[vH]
  rw[h2,Bool.and_true]
  simpa using h1
def letU (c:UInt8):Nat:=c.toNat - 97
theorem letU_inj {x y:UInt8}(hx:97<=x.toNat)(hy:97<=y.toNat)(h:letU x=letU y):x=y:=by
 unfold letU at h;exact UInt8.toNat_inj.1 (by omega)
def okU (l:List UInt8):Prop:=∀ x∈l,97<=x.toNat
theorem mX:∀ {l m:List UInt8},okU l->okU m->l.map letU=m.map letU->l=m
 | [],[],_,_,_=>rfl
 | [],y::m,_,_,h=>by simp at h
 | x::l,[],_,_,h=>by simp at h
 | x::l,y::m,hl,hm,h=>by
  simp only[List.map_cons,List.cons.injEq]at h
  rw[letU_inj (hl x (by simp)) (hm y (by simp)) h.1,mX (fun z hz=>hl z (List.mem_cons_of_mem _ hz)) (fun z hz=>hm z (List.mem_cons_of_mem _ hz)) h.2]
def TlU:List (List UInt8)->List UInt8->Prop
 | [],r=>r=[]
 | u::us,r=>∃ p r',r=p++u++r'/\TlU us r'
theorem qFF:∀ (us:List (List UInt8)) (v r:List UInt8),Fit us v r ↔ TlU (us++[v]) r
 | [],v,r=>⟨fun⟨q,h⟩=>⟨q,[],by simp[h],rfl⟩,fun⟨p,r',h,h'⟩=>⟨p,by rw[h,show r'=[] from h'];simp⟩⟩
 | u::us,v,r=>by
  constructor
  ·rintro ⟨p,r',h,hf⟩;exact⟨p,r',h,(qFF us v r').1 hf⟩
  ·rintro ⟨p,r',h,hf⟩;exact⟨p,r',h,(qFF us v r').2 hf⟩
theorem qEE:∀ {us:List (List UInt8)} {r:List UInt8},(∀ u∈us,okU u)->okU r->(TlU us r ↔ TlN (us.map (List.map letU)) (r.map letU))
 | [],r,_,_=>by
  show r=[] ↔ r.map letU=[]
  rw[List.map_eq_nil_iff]
 | u::us,r,hu,hr=>by
  constructor
  ·rintro ⟨p,r',rfl,h⟩
   refine⟨p.map letU,r'.map letU,by simp,(qEE (fun x hx=>hu x (List.mem_cons_of_mem _ hx)) (fun x hx=>hr x (List.mem_append_right _ hx))).1 h⟩
  ·rintro ⟨p,r',h,ht⟩
   obtain⟨a,c,rfl,h1,rfl⟩:=List.map_eq_append_iff.1 h
   obtain⟨a1,b1,rfl,rfl,h2⟩:=List.map_eq_append_iff.1 h1
   have hb:b1=u:=mX (fun x hx=>hr x (by simp[hx])) (hu u (by simp)) h2
   subst hb
   exact⟨a1,c,rfl,(qEE (fun x hx=>hu x (List.mem_cons_of_mem _ hx)) (fun x hx=>hr x (List.mem_append_right _ hx))).2 ht⟩
theorem pat_mapU:∀ {bs:List (List UInt8)} {s:List UInt8},(∀ u∈bs,okU u)->okU s->(qL bs s ↔ PatN (bs.map (List.map letU)) (s.map letU))
 | [],s,_,_=>Iff.rfl
 | [b],s,hb,hs=>by
  show s=b ↔ ∃ r,s.map letU=b.map letU++r/\r=[]
  constructor
  ·rintro rfl;exact⟨[],by simp,rfl⟩
  ·rintro ⟨r,h,rfl⟩
   exact mX hs (hb b (by simp)) (by simpa using h)
 | b::c::rest,s,hb,hs=>by
  have hl:(c::rest)=(c::rest).dropLast++[(c::rest).getLastD []]:=by
   rw[List.getLastD_eq_getLast?,List.getLast?_eq_some_getLast (List.cons_ne_nil c rest)];exact(List.dropLast_concat_getLast (List.cons_ne_nil c rest)).symm
  have h0:∀ u∈c::rest,okU u:=fun x hx=>hb x (List.mem_cons_of_mem _ hx);constructor
  ·rintro ⟨r,rfl,hf⟩
   refine⟨r.map letU,by simp,?_⟩;have:=(qFF _ _ _).1 hf;rw[<- hl]at this;exact(qEE h0 (fun x hx=>hs x (List.mem_append_right _ hx))).1 this
  ·rintro ⟨r,h,ht⟩
   obtain⟨a,r',rfl,h1,rfl⟩:=List.map_eq_append_iff.1 h;have ha:a=b:=mX (fun x hx=>hs x (List.mem_append_left _ hx)) (hb b (by simp)) h1;subst ha;refine⟨r',rfl,(qFF _ _ _).2 ?_⟩;rw[<- hl];exact(qEE h0 (fun x hx=>hs x (List.mem_append_right _ hx))).2 ht
theorem kO {s:ByteArray}{k:Int}(h:zW s k=true):okU s.data.toList:=fun x hx=>by
 simp only[zW,Bool.and_eq_true,List.all_eq_true]at h
 have:=h.2 x hx
 unfold pR at this
 rw[decide_eq_true_eq]at this
 omega
theorem pF {s:ByteArray}{k l:Int}(h:zW s k=true)(hkl:k<=l)(hl:l<=6):zW s l=true:=by
 simp only[zW,Bool.and_eq_true,decide_eq_true_eq,List.all_eq_true]at h ⊢;refine⟨⟨by omega,hl,h.1.2.2⟩,fun c hc=>?_⟩;have:=h.2 c hc;unfold pR at this ⊢;rw[decide_eq_true_eq]at this ⊢;omega
theorem oY {bs:List ByteArray}{k l:Int}(h:yN bs k=0)(hkl:k<=l)(hl:l<=6):yN bs l=0:=by
 obtain⟨h1,h2,h3,h4,h5,h6⟩:=wY h;rw[lL (by omega) (by omega) (by omega) (by omega) (by omega),if_pos];refine bO _ _ fun j hj=>?_;have:=mP h6 j hj;unfold uU at this ⊢;rw[Bool.and_eq_true]at this ⊢;exact⟨pF this.1 hkl hl,this.2⟩
theorem match_pat {bs:List ByteArray}{s:ByteArray}{k:Nat}(h:yN bs (k:Int)=0)(hs:zW s (k:Int)=true):yG bs s=true ↔ PatN (bs.map zL) (zL s):=by
 obtain⟨h1,h6,h0,h8,ht,hw,_⟩:=qBO h;rw[yG,oY h h6 (Int.le_refl 6),pF hs h6 (Int.le_refl 6)];simp only[decide_true,Bool.true_and]
 rw[lK,pat_mapU (fun u hu=>by
  obtain⟨b,hb,rfl⟩:=List.mem_map.1 hu;obtain⟨i,hi,rfl⟩:=List.getElem_of_mem hb
  exact kO (hw i hi)) (kO hs),List.map_map]
 rfl
theorem iT {bs:List ByteArray}{k:Int}(h:yN bs k=0):∃ b us,bs.map zL=b::us/\∀ u∈us.dropLast,u≠[]:=by
 obtain⟨h1,h6,h0,h8,ht,hw,h2⟩:=qBO h
 match bs,h0 with
 | b::rest,_ =>
  refine⟨zL b,rest.map zL,rfl,fun u hu=>?_⟩;obtain⟨i,hi,rfl⟩:=List.getElem_of_mem hu
  have h3:i+1<rest.length:=by
   rw[List.length_dropLast,List.length_map]at hi;omega
  have:=h2 (i+1) (by simp;omega) (by omega) (by simp;omega);simp only[List.getElem_cons_succ]at this;intro e;rw[List.getElem_dropLast,List.getElem_map]at e;have e2:=congrArg List.length e;rw[yT,List.length_nil]at e2;omega
theorem patDfa_acc {bs:List ByteArray}{s:ByteArray}{k:Nat}(h:yN bs (k:Int)=0)(hs:zW s (k:Int)=true):acc (xM bs (k:Int)) (st0 (xM bs (k:Int))) (zL s)=yG bs s:=by
 obtain⟨h1,h6,h0,h8,ht,hw,_⟩:=qBO h;have h7:1<=k:=by omega
 have h5:k<=6:=by omega
 obtain⟨b,us,hb,h4⟩:=iT h;have h2:=(sX hs).1;have h3:=lZ h7 h5 h0 ht;rw[xM,if_pos (vG.2 h),Int.toNat_natCast];show acc (minD (patD k (bs.map zL)) k) 0 (zL s)=_;rw[qGW h3 h2];rw[Bool.eq_iff_iff,match_pat h hs,hb];exact qGP h4 h2
theorem qBP {bs:List ByteArray}{k:Nat}(h:yN bs (k:Int)=0):∃ n,n<=66/\VD (xM bs (k:Int)) n k:=by
 obtain⟨h1,h6,h0,h8,ht,hw,_⟩:=qBO h;have h2:=lZ (k:=k) (by omega) (by omega) h0 ht;have hl:=nO (k:=k) h0 ht;rw[xM,if_pos (vG.2 h),Int.toNat_natCast];exact⟨_,Nat.le_trans (qGX h2) hl.2,pS h2⟩
def ofE (d:DfaV)(ps:List (List ByteArray)):Int:=if vS d=0 then (if 300<ps.length then 3 else vM d.letters ps) else vS d
def ofT (d:DfaV)(ps:List (List ByteArray)):List DfaV:=autD ps d.letters++[minD d d.letters.toNat]
theorem xS (ps:List (List ByteArray))(k:Int):(autD ps k).length=ps.length:=by simp[autD]
theorem uM (d:DfaV)(ps:List (List ByteArray)):(ofT d ps).length=ps.length+1:=by rw[ofT,List.length_append,xS];rfl
theorem mQ {d:DfaV}{ps:List (List ByteArray)}(h:ofE d ps=0):vS d=0/\ps.length<=300/\vM d.letters ps=0:=by
 unfold ofE at h
 split at h
 ·rename_i h1
  split at h
  ·omega
  ·exact⟨h1,by omega,h⟩
 ·omega
theorem ofE_bad {d:DfaV}{ps:List (List ByteArray)}(h:vS d≠0):ofE d ps=vS d:=if_neg h
theorem ofE_many {d:DfaV}{ps:List (List ByteArray)}(h:vS d=0)(h3:300<ps.length):ofE d ps=3:=by rw[ofE,if_pos h,if_pos h3]
theorem ofE_pats {d:DfaV}{ps:List (List ByteArray)}(h:vS d=0)(h3:¬ 300<ps.length):ofE d ps=vM d.letters ps:=by rw[ofE,if_pos h,if_neg h3]
theorem qGB {d:DfaV}(h:vS d=0):d.final.length<=512:=by
 unfold vS at h
 split at h
 ·omega
 split at h
 ·omega
 omega
theorem qDO {d:DfaV}{ps:List (List ByteArray)}{i:Nat}(hi:i<ps.length):(ofT d ps).getD i dN=xM (ps.getD i []) d.letters:=by
 rw[ofT,pB (List.prefix_append _ _) (by rw[xS];exact hi),zG (by rw[xS];exact hi),zG hi];simp[autD]
theorem aW (d:DfaV)(ps:List (List ByteArray)):(ofT d ps).getD ps.length dN=minD d d.letters.toNat:=by
 rw[ofT,List.getD_eq_getElem?_getD,List.getElem?_append_right (by rw[xS];exact Nat.le_refl _),xS,Nat.sub_self];rfl
theorem qDW {ps:List (List ByteArray)}{k:Nat}(h:vM (k:Int) ps=0):OkT (autD ps (k:Int)) k:=fun i hi=>by
 rw[xS]at hi
 have e:(autD ps (k:Int)).getD i dN=xM (ps.getD i []) (k:Int):=by
  rw[zG (by rw[xS];exact hi),zG hi];simp[autD]
 have hp:patW (ps.getD i []) (k:Int)=0:=by rw[zG hi];exact uL.1 h _ (List.getElem_mem hi)
 obtain⟨n,hn,hv⟩:=qBP (vG.1 hp);exact⟨n,by rw[e];exact hv,by omega⟩
theorem OkT.snoc {ds:List DfaV}{k n:Nat}{d:DfaV}(h:OkT ds k)(hd:VD d n k)(hn:n<=512):OkT (ds++[d]) k:=fun i hi=>by
 rw[List.length_append,List.length_singleton]at hi
 rcases Nat.lt_succ_iff_lt_or_eq.1 hi with hi|rfl
 ·obtain⟨m,h1,h2⟩:=h i hi
  exact⟨m,by rw[pB (List.prefix_append _ _) hi];exact h1,h2⟩
 ·refine⟨n,?_,hn⟩
  rw[List.getD_eq_getElem?_getD,List.getElem?_append_right (Nat.le_refl _),Nat.sub_self];exact hd
theorem qGR {d:DfaV}{ps:List (List ByteArray)}(h:ofE d ps=0):OkT (ofT d ps) d.letters.toNat:=by
 obtain⟨h1,h2,h3⟩:=mQ h;have hv:=qDK h1;have h5:=qGB h1;have hk:=hv.hk;have e:((d.letters.toNat:Nat):Int)=d.letters:=hk.symm;have ha:=qDW (ps:=ps) (k:=d.letters.toNat) (by rw[e];exact h3);rw[e]at ha;exact ha.snoc (pS hv) (by have:=qGX hv;omega)
theorem qDT {np:Nat}{cs:List ChoV}{m m':Nat->Bool}(hc:wE np cs cs.length)(h:∀ i,i<np->m i=m' i):∀ (f:Nat) (r:Int),r<=1+(cs.length:Int)->decF cs m f r=decF cs m' f r
 | 0,r,_=>rfl
 | f+1,r,hr=>by
  rw[decF,decF]
  split
  ·rfl
  ·rename_i h2
   have hi:r.toNat - 2<cs.length:=by omega
   have hf:=qJ (hc _ hi)
   rw[h _ (show (cs.getD (r.toNat - 2) default).p.toNat<np by omega)]
   split
   ·exact qDT hc h f _ (by omega)
   ·exact qDT hc h f _ (by omega)
theorem qDS {np:Nat}{cs:List ChoV}{m m':Nat->Bool}(hc:wE np cs cs.length)(h:∀ i,i<np->m i=m' i){r:Int}(hr:r<=1+(cs.length:Int)):decG cs m r=decG cs m' r:=qDT hc h _ r hr
theorem aY {ds:List DfaV}{np:Nat}(hn:np<=ds.length)(u:List Nat){i:Nat}(hi:i<np):(mtsT ds np (sE (nxtT ds) (st0T ds) u)).getD i false=acc (ds.getD i dN) (st0 (ds.getD i dN)) u:=by
 rw[jE hi,uC (by omega)]
abbrev MT (ds:List DfaV)(np:Nat)(L:List (List Nat)):Nat->List Bool:=fun s=>mtsT ds np (L.getD s [])
abbrev AT (ds:List DfaV)(np:Nat)(L:List (List Nat)):Nat->Bool:=fun s=>accT ds (L.getD s []) np
theorem dia_dec {ds:List DfaV}{np k:Nat}{L:List (List Nat)}{l:List ClaV}{cs:List ChoV}{r:Int}(hn:np<ds.length)(hL:BfsD (nxtT ds) k (st0T ds) L)(hc:ClsI (MT ds np L) (AT ds np L) L.length L.length l)(hb:∀ c∈l,kL c=false)(hch:wE np cs cs.length)(hr:r<=1+(cs.length:Int))(hd:∀ c∈l,decG cs (fun i=>c.m.getD i false) r=c.b):
  ∀ u,yI k u->decG cs (fun i=>acc (ds.getD i dN) (st0 (ds.getD i dN)) u) r=acc (ds.getD np dN) (st0 (ds.getD np dN)) u:=fun u hu=>by
 obtain⟨i,hi,e⟩:=List.getElem_of_mem (hL.all u hL.mem0 hu)
 obtain⟨c,hcl,h1,h2⟩:=hc.dec hb hi
 have e2:L.getD i []=sE (nxtT ds) (st0T ds) u:=by rw[zG hi,e]
 rw[<- uC hn,<- e2]
 show _=AT ds np L i
 rw[<- h2,<- hd c hcl]
 refine qDS hch (fun j hj=>?_) hr
 show acc _ _ _=c.m.getD j false
 rw[h1]
 show _=(mtsT ds np (L.getD i [])).getD j false
 rw[e2,aY (by omega) u hj]
theorem cls_conf {ds:List DfaV}{np k:Nat}{L:List (List Nat)}{l:List ClaV}(hn:np<ds.length)(hL:BfsD (nxtT ds) k (st0T ds) L)(hc:ClsI (MT ds np L) (AT ds np L) L.length L.length l){c:ClaV}(hcl:c∈l)(hb:kL c=true):Conf ds np k:=by
 obtain⟨y,n,_,_,hy,h0,h1,h2,h3⟩:=hc.both hcl hb;exact(gX hn hL).2 ⟨_,_,by rw[zG hy];exact List.getElem_mem hy,by rw[zG h0];exact List.getElem_mem h0,h1,h2,h3⟩
theorem cls_noconf {ds:List DfaV}{np k:Nat}{L:List (List Nat)}{l:List ClaV}(hn:np<ds.length)(hL:BfsD (nxtT ds) k (st0T ds) L)(hc:ClsI (MT ds np L) (AT ds np L) L.length L.length l)(hb:∀ c∈l,kL c=false):¬ Conf ds np k:=fun h=>by
 obtain⟨x,y,hx,hy,h1,h2,h3⟩:=(gX hn hL).1 h
 obtain⟨i,hi,rfl⟩:=List.getElem_of_mem hx
 obtain⟨j,hj,rfl⟩:=List.getElem_of_mem hy
 rw[<- zG (d:=[]) hi]at h1 h2
 rw[<- zG (d:=[]) hj]at h1 h3
 exact hc.clash hb hi hj h1 h2 h3
inductive OfOut (w':World)(d:DfaV)(ps:List (List ByteArray)):Value->ByteArray->ByteArray->Int->Prop
 | bad (h:ofE d ps≠0):OfOut w' d ps (.agg #[.slice none 0 0,.slice none 0 0,.int .i64 0]) ⟨#[]⟩ ⟨#[]⟩ (ofE d ps)
 | over (h:ofE d ps=0) (ho:Over (ofT d ps) d.letters.toNat):OfOut w' d ps (.agg #[.slice none 0 0,.slice none 0 0,.int .i64 0]) ⟨#[]⟩ ⟨#[]⟩ 3
 | conf (h:ofE d ps=0) (hu:qID (ofT d ps) d.letters.toNat) (hc:Conf (ofT d ps) ps.length d.letters.toNat) (u v:List Nat) (h1:yI d.letters.toNat u) (h2:yI d.letters.toNat v) (h3:u.length<=4000) (h4:v.length<=4000)
   (h5:∀ i,i<ps.length->acc (xM (ps.getD i []) d.letters) (st0 (xM (ps.getD i []) d.letters)) u=acc (xM (ps.getD i []) d.letters) (st0 (xM (ps.getD i []) d.letters)) v) (h6:acc d (st0 d) u=true) (h7:acc d (st0 d) v=false) :
   OfOut w' d ps (.agg #[.slice none 0 0,.slice none 0 0,.int .i64 0]) (strOfNums (lets u)) (strOfNums (lets v)) 20
 | ok (v:Value) (g:DiaV) (l:List ClaV) (L:List (List Nat)) (h:ofE d ps=0) (hL:BfsD (nxtT (ofT d ps)) d.letters.toNat (st0T (ofT d ps)) L) (hl4:L.length<=4000) (hn:¬ Conf (ofT d ps) ps.length d.letters.toNat) (hg:qM w'.heap.size w' v g) (h1:g.pats=ps) (h2:wE ps.length g.chos g.chos.length) (h3:0<=g.root) (h4:g.root<=1+(g.chos.length:Int))
   (h5:∀ u,yI d.letters.toNat u->decG g.chos (fun i=>acc (xM (ps.getD i []) d.letters) (st0 (xM (ps.getD i []) d.letters)) u) g.root=acc d (st0 d) u) (hc:ClsI (MT (ofT d ps) ps.length L) (AT (ofT d ps) ps.length L) L.length L.length l) (h6:g.chos.length+1<=l.length) :
   OfOut w' d ps v ⟨#[]⟩ ⟨#[]⟩ 0
theorem st0_min (d:DfaV)(k:Nat):st0 (minD d k)=0:=rfl
theorem qAB {d:DfaV}{n k:Nat}(hd:VD d n k){u:List Nat}(hu:yI k u):acc (minD d k) (st0 (minD d k)) u=acc d (st0 d) u:=by rw[st0_min];exact qGW hd hu
theorem of_conf {d:DfaV}{ps:List (List ByteArray)}{L:List (List Nat)}{y n:Nat}{u v:List Nat}(h:ofE d ps=0)(hL:BfsD (nxtT (ofT d ps)) d.letters.toNat (st0T (ofT d ps)) L)(hu:yI d.letters.toNat u)(hv:yI d.letters.toNat v)(h1:sE (nxtT (ofT d ps)) (L.getD 0 []) u=L.getD y [])(h2:sE (nxtT (ofT d ps)) (L.getD 0 []) v=L.getD n [])(hm:MT (ofT d ps) ps.length L y=MT (ofT d ps) ps.length L n)(ha:AT (ofT d ps) ps.length L y=true)(hb:AT (ofT d ps) ps.length L n=false):
  (∀ i,i<ps.length->acc (xM (ps.getD i []) d.letters) (st0 (xM (ps.getD i []) d.letters)) u=acc (xM (ps.getD i []) d.letters) (st0 (xM (ps.getD i []) d.letters)) v)/\acc d (st0 d) u=true/\acc d (st0 d) v=false:=by
 have e0:L.getD 0 []=st0T (ofT d ps):=by rw[List.getD_eq_getElem?_getD,hL.hd];rfl
 rw[e0]at h1 h2;have hn:ps.length<(ofT d ps).length:=by rw[uM];omega
 have h0:=qDK (mQ h).1;refine⟨fun i hi=>?_,?_,?_⟩
 ·have e1:=aY (ds:=ofT d ps) (np:=ps.length) (by omega) u hi
  have e2:=aY (ds:=ofT d ps) (np:=ps.length) (by omega) v hi;rw[qDO hi,h1]at e1;rw[qDO hi,h2]at e2;rw[<- e1,<- e2];exact congrArg (fun l=>l.getD i false) hm
 ·have e1:=uC hn u
  rw[h1,aW,qAB h0 hu]at e1;rw[<- e1];exact ha
 ·have e1:=uC hn v
  rw[h2,aW,qAB h0 hv]at e1;rw[<- e1];exact hb
theorem of_dec {d:DfaV}{ps:List (List ByteArray)}{L:List (List Nat)}{l:List ClaV}{cs:List ChoV}{r:Int}(h:ofE d ps=0)(hL:BfsD (nxtT (ofT d ps)) d.letters.toNat (st0T (ofT d ps)) L)(hc:ClsI (MT (ofT d ps) ps.length L) (AT (ofT d ps) ps.length L) L.length L.length l)(hb:∀ c∈l,kL c=false)(hch:wE ps.length cs cs.length)(hr:r<=1+(cs.length:Int))(hd:∀ c∈l,decG cs (fun i=>c.m.getD i false) r=c.b):
  ∀ u,yI d.letters.toNat u->decG cs (fun i=>acc (xM (ps.getD i []) d.letters) (st0 (xM (ps.getD i []) d.letters)) u) r=acc d (st0 d) u:=fun u hu=>by
 have hn:ps.length<(ofT d ps).length:=by rw[uM];omega
 have h1:=dia_dec hn hL hc hb hch hr hd u hu
 rw[aW,qAB (qDK (mQ h).1) hu]at h1
 rw[<- h1]
 exact qDS hch (fun i hi=>by rw[qDO hi]) hr
theorem of_short {d:DfaV}{ps:List (List ByteArray)}(h:ofE d ps=0):∀ p∈ps,p.length<=100000:=fun p hp=>by
 have h1:=uL.1 (mQ h).2.2 p hp
 have:=wY (vG.1 h1)
 omega
end Go.Proofs.Ytjfdomfendbhfaa
namespace Go.Proofs.Ytjfdomfendbhfaa
open Go.RowKit Go.Maps
theorem iU (Bd:Nat)(w:World)(o k:Nat)(pv:Value)(ds:List DfaV)(L:List (List Nat))(nxl fr bl:List Nat)(sb sc nb nc fb fc bb bc s i:Nat)(h:ProdV w o k pv L nxl fr bl sb sc nb nc fb fc bb bc)(hd:DsIn Bd w pv ds)(hok:OkT ds k)(hs:s<L.length)(hi:i<ds.length)(hin:InT ds (L.getD s []))(hl:ds.length<=400)(hL:L.length<=4000):
  Calls Try.prog 69 #[.pointer (some ⟨o,0,none⟩),.int .i64 (s:Int),.int .i64 (i:Int)] w fun e w'=>e=.returned (.bool (accT ds (L.getD s []) i))/\w.grownBy w' none:=by
 obtain⟨b,off,cap,rfl,h9,h7,hd⟩:=hd.head (by omega);obtain⟨n,gb,go,gc,nb2,no2,nc2,RB,RO,RC,hv,h5,c1,c2,c3,c4,h2⟩:=hd.dfa hok hi;obtain⟨x0,x1,x2,x3,x4,x5⟩:=h.cells;have h4:L.getD s []≠[]:=fun e=>by have:=hin.1;rw[e]at this;simp at this;omega
 obtain⟨g,ro,rc,r1,r2,r3,r4⟩:=h.row s hs h4;have h1:=h.caps;rw[hin.1]at r1 r2 r4;have r5:=r4 i hi;have hq:=hin.2 i hi;rw[hv.hn]at hq;obtain⟨q,h0⟩:∃ q,q=(L.getD s []).getD i 0:=⟨_,rfl⟩;have c5:=h2.fin (q:=q) (by rw[h0];exact hq);have h6:=h2.fcap;have hA:accT ds (L.getD s []) i=(ds.getD i dN).final.getD q false:=by rw[accT,h0]
 rw[hA];rw[<- h0]at r5 hq;obtain⟨np,h3⟩:∃ n,n=ds.length:=⟨_,rfl⟩;obtain⟨m,hm⟩:∃ m,m=L.length:=⟨_,rfl⟩;obtain⟨bo,h8⟩:∃ x,x=(ds.getD i dN).final.getD q false:=⟨_,rfl⟩;rw[<- h3]at x1 r1 r2 hi h9 hl;rw[<- hm]at x2 x4 x5 hs hL h1;rw[<- h8]at c5 ⊢;have k1:cap<=9223372036854775807:=by unfold maxLen at h7;omega
 have k2:sc<=9223372036854775807:=by have:=h1.2.1;unfold maxLen at this;omega
 have k3:rc<=9223372036854775807:=by unfold maxLen at r3;omega
 have k4:gc<=9223372036854775807:=by have:=h6.2;unfold maxLen at this;omega
 have H0:(s:Int)<m:=by omega
 have H2:(i:Int)<np:=by omega
 have H1:(q:Int)<n:=by omega
 clear h hd hv h2 hA h0 h3 hm h8 r4 hin h4 x0 x3 x4 x5 c1 c2 c4 h1 h6 h7 r3 hok;go_enter Try.func69,Try.ntmps69;go_upto_region 1 with fail
 go_quiet (fail)
 go_wp2;go_ret
 first|exact⟨rfl,zN _ _ _⟩|exact⟨rfl,zP _ _⟩
end Go.Proofs.Ytjfdomfendbhfaa
