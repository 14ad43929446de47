/- Part 35 of the proof: CDcd. -/
import Derived.Test.YtjfdomfendbhfaaQe33
import Derived.Test.YtjfdomfendbhfaaQe34
import Derived.BigQuiet
set_option linter.unusedVariables false
set_option linter.unusedSimpArgs false
namespace Go.Proofs.Ytjfdomfendbhfaa
open Go.RowKit Go.Maps
def qCI (w0:World) (B:Nat) (X:Nat->Prop) (o mb np:Nat) (w:World) (cs:List ChoV) (l:List ClaV) (p:Nat) (e:Ending) (w':World):Prop :=
 ∃ cs' r,e=.returned (.int .i64 r)/\BldS w0 B X o mb w cs' w'/\DecOk np cs cs' l p r
theorem mV {w:World} {p e:Nat} {x0 x1:Value} {m:Nat × Nat} (h:w.heap[p]?=some (.cells #[x0,x1] e m)):w.cell? ⟨p,0,none⟩=some x0/\w.cell? ⟨p,1,none⟩=some x1:=by
 have c0:=zK h 0 (by simp)
 have c1:=zK h 1 (by simp)
 exact⟨by simpa using c0,by simpa using c1⟩
theorem alike_more {l:List ClaV} {np p:Nat} (hc:ClsOk np l) (ha:pF l p) (hk:sA l=false) (hp:p<=np):p < np:=by
 rcases Nat.lt_or_ge p np with h|h
 ·exact h
 ·have:p=np:=by omega
  subst this
  have:=const_of_one (ha.one hc)
  rw[this]at hk;cases hk
theorem const_all {l:List ClaV} (h:sA l=true):∀ c∈l,c.b=(l.headD default).b:=fun c hc=>by
 rw[sA,List.all_eq_true]at h
 simpa using h c hc
theorem BldS.end_ {w0 w w1 w':World} {B o mb:Nat} {X Y:Nat->Prop} {cs c0 cs':List ChoV} (h0:BldS w0 B X o mb w cs w) (hg:w.grownBy w1 none) (h1:BldS w0 B (fun k=>X k\/Y k) o mb w1 c0 w') (h:BldS w0 B (fun k=>X k\/Y k) o mb w1 cs' w'):BldS w0 B X o mb w cs' w':=by
 obtain⟨sa,cap,u,c,hB,hM,h2,h3,hu⟩:=h0
 exact h.back (fun q hq=>.inl hq) (hB.mem.keep hg) hg.size hB.base
set_option maxRecDepth 100000 in
set_option maxHeartbeats 3200000 in
theorem bdecide_any (w0:World) (B o mb np:Nat) (hnp:np<=300) (N:Nat):∀ (X:Nat->Prop) (w:World) (v:Value) (l:List ClaV) (cs:List ChoV) (p:Nat),l.length<=N->0 < l.length->ClsX X w v l->BldS w0 B X o mb w cs w->ClsOk np l->pF l p->p<=np->xD np cs cs.length->cs.Nodup->cs.length+l.length<=4000 ->
  Calls Try.prog 86 #[.pointer (some ⟨o,0,none⟩),v,.int .i64 (p:Int)] w (qCI w0 B X o mb np w cs l p):=by
 induction N with
 | zero=>intro X w v l cs p hN h0;omega
 | succ N IH0 =>
  intro X w v l cs p hN h0 hv hb g0 ha hp g1 f5 i6
  have IH:=Kh IH0
  clear IH0
  obtain⟨va,vc,rfl⟩:=hv.shape
  obtain⟨n,hn⟩:∃ n,n=l.length:=⟨_,rfl⟩
  have HN:=Kh hn
  have HV:=Kh hv;have HB:=Kh hb;have c0:=Kh g0;have HA:=Kh ha;have i0:=Kh g1;have g8:=Kh f5
  rw[<- hn]at HV hN h0 i6 ⊢
  have H4:Hid (Calls Try.prog 112 #[.slice va n vc] w fun e w'=>e=.returned (.tuple #[.int .i64 (conR l),.bool (sA l)])/\w.grownBy w' none):=Kh (constant_any X w _ l HV.out)
  obtain⟨cb,d5⟩:∃ cb,cb=sA l:=⟨_,rfl⟩
  obtain⟨cr,d4⟩:∃ cr,cr=conR l:=⟨_,rfl⟩
  rw[<- d5,<- d4]at H4
  have f1:=Kh d5;have k0:=Kh d4
  clear hv hb g0 ha g1 f5 hn d5 d4
  go_enter Try.func86,Try.ntmps86
  go_wp2_with fail
  refine H4.out.mono ?_
  rintro e w1 ⟨rfl,H9⟩
  have h9:=Kh H9
  clear H9 H4
  cases cb with
  | true =>
   go_wp2
   go_ret
   refine⟨cs,cr,rfl,HB.out.grow h9.out,?_⟩
   have e1:cr=mW (l.headD default).b:=by rw[k0.out,conR,if_pos ⟨f1.out.symm,by rw[<- HN.out];exact h0⟩]
   rw[e1]
   exact DecOk.const i0.out g8.out (by rw[<- HN.out];exact h0) (const_all f1.out.symm)
  | false =>
   go_wp2
   go_loopg [2,9,10,11,12,13] (np - p) (fun gh v2 v9 v10 v11 v12 v13 wr=>∃ q:Nat,gh+q=np/\p<=q/\v2=.int .i64 q/\pF l q/\w.grownBy wr none)
   case atStart=>exact⟨p,by omega,Nat.le_refl _,rfl,HA.out,h9.out⟩
   case round =>
    clear h9 HA w1
    obtain⟨q,f7,c8,rfl,d7,hg⟩:=hrel
    have f4:q < np:=alike_more c0.out d7 f1.out.symm (by omega)
    have g9:=Kh f7;have c3:=Kh d7;have HG:=Kh hg
    have H8:l.length=n:=HN.out.symm
    have a6:Hid (Calls Try.prog 113 #[.slice va n vc,.int .i64 (q:Int)] wr (qCX wr l q)):=Kh (divide_any X wr _ l q (HV.out.grow hg) (fun c hc=>by rw[c0.out.len c hc];omega) (by omega))
    have g3:Hid ((yesL l q).length+(noL l q).length=n):=Kh (by rw[eM,H8])
    clear f7 d7 hg H8
    go_wp2_with fail
    refine a6.out.mono ?_
    rintro e w1 ⟨sy,cy,sn,cn,rfl,a8,a9,H9⟩
    obtain⟨ly,b4⟩:∃ x,x=yesL l q:=⟨_,rfl⟩
    obtain⟨ln,b5⟩:∃ x,x=noL l q:=⟨_,rfl⟩
    rw[<- b4,<- b5]at g3
    rw[<- b4]at a8 ⊢
    rw[<- b5]at a9 ⊢
    have H1:=Kh b4;have H2:=Kh b5
    have h9:=Kh (zB HG.out H9 (by simp))
    have i4:=g3.out
    obtain⟨my,b2⟩:∃ m,m=ly.length:=⟨_,rfl⟩
    obtain⟨mn,b3⟩:∃ m,m=ln.length:=⟨_,rfl⟩
    rw[<- b2,<- b3]at i4
    rw[<- b2]at a8 ⊢
    rw[<- b3]at a9 ⊢
    have h8:=Kh b2;have h6:=Kh b3;have d9:=Kh a8;have e2:=Kh a9
    have HZ:Hid (w.heap.size<=wr.heap.size):=Kh HG.out.size
    clear b4 b5 b2 b3 H9 a8 a9 a6
    by_cases hy0:my=0
    ·have d8:=Kh (c3.out.skip (p:=q) (.inl (by rw[<- H1.out,<- h8.out];exact hy0)))
     subst hy0
     go_wp2
     go_roundg (np - (q+1))
     case measure=>have:=g9.out;omega
     case rel=>exact⟨q+1,by omega,by omega,by go_num,d8.out,h9.out⟩
    by_cases hn0:mn=0
    ·have d8:=Kh (c3.out.skip (p:=q) (.inr (by rw[<- H2.out,<- h6.out];exact hn0)))
     have c4:¬ (my:Int)=0:=by omega
     have i5:((my:Int) == 0)=false:=by rw[beq_eq_false_iff_ne];exact c4
     subst hn0
     go_wp2
     go_roundg (np - (q+1))
     case measure=>have:=g9.out;omega
     case rel=>exact⟨q+1,by omega,by omega,by go_num,d8.out,h9.out⟩
    have c4:¬ (my:Int)=0:=by omega
    have i8:¬ (mn:Int)=0:=by omega
    have i5:((my:Int) == 0)=false:=by rw[beq_eq_false_iff_ne];exact c4
    have k4:((mn:Int) == 0)=false:=by rw[beq_eq_false_iff_ne];exact i8
    obtain⟨Y,hY⟩:∃ Y:Nat->Prop,Y=fun k=>(Value.slice sy my cy).ownBlock=some k\/(Value.slice sn mn cn).ownBlock=some k:=⟨_,rfl⟩
    have j2:Hid (∀ k,Y k->w.heap.size<=k/\k < w1.heap.size):=Kh (fun k hk=>by
     rw[hY]at hk
     have:=HZ.out
     rcases hk with hk|hk
     ·have:=d9.out.lt k hk;omega
     ·have:=e2.out.lt k hk;omega)
    have i3:=Kh (HB.out.fresh h9.out j2.out)
    have g6:Hid (ClsX (fun k=>X k\/Y k) w1 (.slice sy my cy) ly):=Kh (by
     have:=d9.out
     rw[h8.out]at this ⊢
     exact oX this (fun k hk=>.inr (by rw[hY,h8.out];exact .inl hk)))
    have g7:Hid (ClsX (fun k=>X k\/Y k) w1 (.slice sn mn cn) ln):=Kh (by
     have:=e2.out
     rw[h6.out]at this ⊢
     exact oX this (fun k hk=>.inr (by rw[hY,h6.out];exact .inr hk)))
    have e9:Hid (Calls Try.prog 86 #[.pointer (some ⟨o,0,none⟩),.slice sn mn cn,.int .i64 ((q+1:Nat):Int)] w1 (qCI w0 B (fun k=>X k\/Y k) o mb np w1 cs ln (q+1))):=Kh (IH.out (fun k=>X k\/Y k) w1 _ ln cs (q+1) (by rw[<- h6.out];omega) (by rw[<- h6.out];omega) g7.out i3.out (by rw[H2.out];exact c0.out.sub List.filter_sublist) (by rw[H2.out];exact c3.out.no) (by omega) i0.out g8.out (by rw[<- h6.out];omega))
    have e5:((q+1:Nat):Int)=(q:Int)+1:=by omega
    rw[e5]at e9
    have e6:IntKind.i64.wrap ((q:Int)+1)=(q:Int)+1:=xX (by omega)
    have e7:(q:Int)+1 - 1=(q:Int):=by omega
    have e8:IntKind.i64.wrap ((q:Int)+1 - 1)=(q:Int):=by rw[e7];exact xX (by omega)
    clear hY d9 e2 e5
    go_wp2_with fail
    refine e9.out.mono ?_
    rintro e w2 ⟨c1,rn,rfl,a3,a1⟩
    have i2:=Kh a3;have a7:=Kh a1
    have f8:=a1.few
    have a4:=Kh (g6.out.kept a3.facts.2.1 a3.facts.2.2.1)
    have e4:Hid (Calls Try.prog 86 #[.pointer (some ⟨o,0,none⟩),.slice sy my cy,.int .i64 ((q+1:Nat):Int)] w2 (qCI w0 B (fun k=>X k\/Y k) o mb np w2 c1 ly (q+1))):=Kh (IH.out (fun k=>X k\/Y k) w2 _ ly c1 (q+1) (by rw[<- h8.out];omega) (by rw[<- h8.out];omega) a4.out a3.rebase (by rw[H1.out];exact c0.out.sub List.filter_sublist) (by rw[H1.out];exact c3.out.yes) (by omega) a1.ok a1.nd (by rw[<- h8.out];rw[<- h6.out]at f8;omega))
    rw[show ((q+1:Nat):Int)=(q:Int)+1 by omega]at e4
    rw[<- h6.out]at f8
    clear a3 a1 e9 g6 g7
    go_wp2_with fail
    refine e4.out.mono ?_
    rintro e w3 ⟨c2,ry,rfl,g2,H5⟩
    have a0:=H5.few
    rw[<- h8.out]at a0
    have j0:=a7.out.lo;have i9:=H5.lo;have d1:=H5.hi
    have d2:rn<=1+(c2.length:Int):=by have:=a7.out.hi;have:=H5.pre.length_le;omega
    have f3:Hid (BldS w0 B X o mb w c2 w3):=Kh (by
     have h1:=i2.out.facts
     have h2:BldS w0 B (fun k=>X k\/Y k) o mb w1 c2 w3:=g2.back (fun _ h=>h) h1.2.1 h1.2.2.1 h1.2.2.2.2.1
     exact HB.out.end_ h9.out h2 h2)
    have f0:=Kh H5
    obtain⟨a,rfl⟩:∃ a:Nat,ry=(a:Int):=⟨ry.toNat,by omega⟩
    obtain⟨b,rfl⟩:∃ b:Nat,rn=(b:Int):=⟨rn.toNat,by omega⟩
    clear g2 H5 e4 i2 a4 i3
    have a2:=heap_alloc_new w3 (.cells #[.int .i64 (q:Int),.int .i64 (a:Int),.int .i64 (b:Int)] 45)
    have d3:=Ga w3 (.cells #[.int .i64 (q:Int),.int .i64 (a:Int),.int .i64 (b:Int)] 45) none
    obtain⟨w4,c6⟩:∃ w4,w4=w3.alloc (.cells #[.int .i64 (q:Int),.int .i64 (a:Int),.int .i64 (b:Int)] 45):=⟨_,rfl⟩
    obtain⟨R,hR⟩:∃ R,R=w3.heap.size:=⟨_,rfl⟩
    rw[<- c6]at a2 d3
    rw[<- hR]at a2
    have j3:=Kh c6;have j4:=Kh hR;have i1:=Kh a2
    have h7:=Kh (f3.out.grow d3)
    have k3:R≠o:=by have:=f3.out.facts.2.2.2.2.2.2;omega
    have i7:R≠mb:=by have:=f3.out.facts.2.2.2.2.2.1;omega
    obtain⟨r0,r1,r2⟩:=zJ a2
    clear c6 hR a2 d3
    go_upto_region 8 with fail
    rw[<- j3.out,<- j4.out]
    by_cases hab:a=b
    ·have j7:=Kh (DecOk.same (by rw[<- H2.out];exact a7.out) (by rw[<- H1.out];exact f0.out) (by rw[hab]))
     subst hab
     go_wp2
     go_ret
     exact⟨c2,_,rfl,h7.out,mP j7.out c8⟩
    have j1:¬ (a:Int)=(b:Int):=by omega
    obtain⟨x,hx⟩:∃ x:ChoV,x=⟨(q:Int),(a:Int),(b:Int)⟩:=⟨_,rfl⟩
    have HX:=Kh hx
    have g5:Hid (eJ x):=Kh (by rw[hx];exact⟨⟨by show (0:Int)<=q;omega,by show (q:Int) < _;omega⟩,⟨by show (0:Int)<=a;omega,by show (a:Int) < _;omega⟩,⟨by show (0:Int)<=b;omega,by show (b:Int) < _;omega⟩⟩)
    have g4:Hid (choW x=.agg #[.int .i64 (q:Int),.int .i64 (a:Int),.int .i64 (b:Int)]):=Kh (by rw[hx];rfl)
    obtain⟨sa,cap,u,c,d6,c9,H6,hu⟩:=h7.out.cells
    obtain⟨b0,b1⟩:=mV d6
    have f2:=Kh d6;have a5:=Kh H6;have HU:=Kh hu
    have h4:∀ q':Nat,Sem.run Try.prog (Instr.lookup 135 (.map (some mb)) (.agg #[.int .i64 (q:Int),.int .i64 (a:Int),.int .i64 (b:Int)]) true) (w4.drewN q')=.ok (.tuple #[.int .i64 (((numH c2 x).getD 0:Nat):Int),.bool (numH c2 x).isSome]) (w4.drewN q'):=fun q'=>by
     have:=(a5.out.kept (zU w4 q' none) (by simp)).lookup qBL g5.out
     rw[g4.out]at this
     exact this
    clear hx d6 c9 H6 hu
    obtain⟨m2,d0⟩:∃ m,m=c2.length:=⟨_,rfl⟩
    rw[<- d0]at b0 d2 d1 a0
    have h5:=Kh d0
    clear d0
    by_cases hmem:x∈c2
    ·obtain⟨i,hi⟩:∃ i,i=c2.idxOf x:=⟨_,rfl⟩
     have b6:i < c2.length:=by rw[hi];exact List.idxOf_lt_length_of_mem hmem
     have f6:c2.getD i default=⟨(q:Int),(a:Int),(b:Int)⟩:=by rw[zF b6,<- HX.out];subst hi;exact List.getElem_idxOf b6
     have j8:=Kh (DecOk.old f4 (by rw[<- H2.out];exact a7.out) (by rw[<- H1.out];exact f0.out) b6 f6)
     rw[numH_of_mem hmem,<- hi]at h4
     have H7:∀ q':Nat,Sem.run Try.prog (Instr.lookup 135 (.map (some mb)) (.agg #[.int .i64 (q:Int),.int .i64 (a:Int),.int .i64 (b:Int)]) true) (w4.drewN q')=.ok (.tuple #[.int .i64 (i:Int),.bool true]) (w4.drewN q'):=h4
     have k5:i < 4100:=by have:=h5.out;omega
     clear h4 b6 f6 hi
     go_wp2
     go_quiet (fail)
     go_wp2
     go_ret
     exact⟨c2,_,yF (by go_num),h7.out.grow (zU _ _ _),mP j8.out c8⟩
    ·have j9:=Kh (DecOk.new f4 (by rw[<- H2.out];exact a7.out) (by rw[<- H1.out];exact f0.out) (by rw[<- HX.out];exact hmem) (by rw[<- H1.out,<- h8.out];omega) (by rw[<- H2.out,<- h6.out];omega))
     rw[aG hmem]at h4
     have H7:∀ q':Nat,Sem.run Try.prog (Instr.lookup 135 (.map (some mb)) (.agg #[.int .i64 (q:Int),.int .i64 (a:Int),.int .i64 (b:Int)]) true) (w4.drewN q')=.ok (.tuple #[.int .i64 0,.bool false]) (w4.drewN q'):=h4
     have H0:=Kh hmem
     clear h4 hmem
     go_upto_region 10 with fail
     go_quiet (fail)
     obtain⟨w5,c5⟩:∃ w5,w5=w4.drewN nq:=⟨_,rfl⟩
     have b8:w4.grownBy w5 none:=by rw[c5];exact zU _ _ _
     have b0:=xI b0 b8
     have b1:=xI b1 b8
     rw[<- c5]
     have H3:=Kh b8
     clear b8 c5 H7 r0 r1 r2
     go_upto_region 13 with fail
     have C5:Hid (w5.cell? ⟨o,1,none⟩=some (.map (some mb))/\w5.cell? ⟨R,0,none⟩=some (.int .i64 (q:Int))/\w5.cell? ⟨R,1,none⟩=some (.int .i64 (a:Int))/\w5.cell? ⟨R,2,none⟩=some (.int .i64 (b:Int))):=Kh (by
      obtain⟨r0,r1,r2⟩:=zJ (zA i1.out H3.out (by simp))
      obtain⟨_,b1⟩:=mV (zA f2.out H3.out (by simp))
      exact⟨b1,r0,r1,r2⟩)
     clear b0 b1
     refine bd_put C5.out (a5.out.kept H3.out (by simp)) (by have:=HU.out;have:=h5.out;unfold maxLen;omega) g5.out g4.out (by omega) ?_
     intro z71 z72 z73 z74 z75 z76 w7 b9 b7
     rw[aG H0.out]at b9
     have f9:(fun q=>if q=x then some m2 else numH c2 q)=numH (c2 ++ [x]):=by rw[h5.out];exact numH_snoc H0.out
     rw[f9]at b9
     have c7:=(h7.out.grow H3.out).put H0.out (zA f2.out H3.out (by simp)) b7 b9 (by have:=HU.out;omega)
     obtain⟨e0,eo,ez,ep⟩:=c7
     have j6:=Kh eo;have j5:=Kh ep
     have k2:=Kh (zA (zA i1.out H3.out (by simp)) b7 (fun e=>i7 (Oj e).symm))
     have e3:Hid (o < w7.heap.size):=Kh (Nat.lt_of_lt_of_le (zH (zA f2.out H3.out (by simp))) b7.size)
     rw[<- h5.out]at e0
     have C7:Hid (w7.cell? ⟨o,0,none⟩=some (.slice sa m2 cap)/\w7.cell? ⟨R,0,none⟩=some (.int .i64 (q:Int))/\w7.cell? ⟨R,1,none⟩=some (.int .i64 (a:Int))/\w7.cell? ⟨R,2,none⟩=some (.int .i64 (b:Int))):=Kh (by
      obtain⟨r0,r1,r2⟩:=zJ k2.out
      exact⟨e0,r0,r1,r2⟩)
     clear b9 f9 eo ep b7 e0 C5
     go_upto_region 14 with fail
     refine bd_app (P:=fun wZ=>BldS w0 B X o mb w (c2 ++ [x]) wZ) C7.out (by have:=j6.out;rwa [<- h5.out]at this) ez (by omega) e3.out (fun wg hwg w2' s' c' h1 h2 h3=>by
      have:=j5.out wg hwg w2' s' c' (by rw[<- h5.out,show qCF x=[.int .i64 (q:Int),.int .i64 (a:Int),.int .i64 (b:Int)] by rw[HX.out];rfl];exact h1) (by rw[<- h5.out];exact h2) (by rw[<- h5.out];exact h3)
      rw[<- h5.out]at this
      exact this) ?_
     intro z77 z78 z79 z80 z81 z82 z83 z84 z85 z86 wZ hZ
     have k1:=Kh hZ
     clear hZ ez
     go_wp2
     go_ret
     refine⟨c2 ++ [x],_,yF (by go_num),k1.out,?_⟩
     have:=mP j9.out c8
     rw[<- HX.out,<- h5.out]at this
     exact this
end Go.Proofs.Ytjfdomfendbhfaa
