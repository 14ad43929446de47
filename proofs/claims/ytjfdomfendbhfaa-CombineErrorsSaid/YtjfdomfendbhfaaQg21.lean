/- Part 21 of the proof. -/
import Derived.Test.YtjfdomfendbhfaaQg20
import Derived.BigQuiet
set_option linter.unusedVariables false
set_option linter.unusedSimpArgs false
set_option maxRecDepth 100000
set_option maxHeartbeats 16000000
namespace Go.Proofs.Ytjfdomfendbhfaa
open Go.Maps Go.RowKit
theorem bd_put {Q:Exit->Act->World->Prop}{v1 v2 v3 v4 v5 v6 v7 v8 v9 v10 v13 v14 v15 v16 v17 v18 v19 v20 v21 v22 v23 v24 v25 v26 v27 v28 v29 v30 v31 v32 v33 v34 v35 v36 v37 v38 v39 v40 v41 v42 v43 v44 v45 v46 v47 v48 v49 v50 v51 v52 v53 v54 v55 v56 v57 v58 v59 v60 v61 v62 v63 v64 v65 v66 v67 v68 v69 v70 v71 v72 v73 v74 v75 v76 v77 v78 v79 v80 v81 v82 v83 v84 v85 v86 v87 v88:Value}{dd:_}{w:World}{o mb R q a b m2 u c:Nat}{f:ChoV->Option Nat}{x:ChoV}(hc:w.cell? ⟨o,1,none⟩=some (.map (some mb))/\w.cell? ⟨R,0,none⟩=some (.int .i64 (q:Int))/\w.cell? ⟨R,1,none⟩=some (.int .i64 (a:Int))/\w.cell? ⟨R,2,none⟩=some (.int .i64 (b:Int)))(hM:MapK 45 aX choW w mb u c f)(hu:u<maxLen)(hxo:aX x)(hxw:choW x=.agg #[.int .i64 (q:Int),.int .i64 (a:Int),.int .i64 (b:Int)])(hm2:m2<4611686018427387904)(hexit:∀ (z71 z72 z73 z74 z75 z76:Value) (w':World),MapK 45 aX choW w' mb (u+1) (if (f x).isSome then c else c+1) (fun q=>if q=x then some m2 else f q)->w.grownBy w' (some mb)->Q .normal ⟨((Value.pointer (some ⟨o,0,none⟩))::v1::v2::v3::v4::v5::v6::v7::v8::v9::v10::(Value.pointer (some ⟨R,0,none⟩))::(Value.int .i64 (m2:Int))::v13::v14::v15::v16::v17::v18::v19::v20::v21::v22::v23::v24::v25::v26::v27::v28::v29::v30::v31::v32::v33::v34::v35::v36::v37::v38::v39::v40::v41::v42::v43::v44::v45::v46::v47::v48::v49::v50::v51::v52::v53::v54::v55::v56::v57::v58::v59::v60::v61::v62::v63::v64::v65::v66::v67::v68::v69::v70::z71::z72::z73::z74::z75::z76::v77::v78::v79::v80::v81::v82::v83::v84::v85::v86::v87::v88::[]).toArray,dd⟩ w'):Code.wp Try.prog (reg Try.f86 13) Q ⟨((Value.pointer (some ⟨o,0,none⟩))::v1::v2::v3::v4::v5::v6::v7::v8::v9::v10::(Value.pointer (some ⟨R,0,none⟩))::(Value.int .i64 (m2:Int))::v13::v14::v15::v16::v17::v18::v19::v20::v21::v22::v23::v24::v25::v26::v27::v28::v29::v30::v31::v32::v33::v34::v35::v36::v37::v38::v39::v40::v41::v42::v43::v44::v45::v46::v47::v48::v49::v50::v51::v52::v53::v54::v55::v56::v57::v58::v59::v60::v61::v62::v63::v64::v65::v66::v67::v68::v69::v70::v71::v72::v73::v74::v75::v76::v77::v78::v79::v80::v81::v82::v83::v84::v85::v86::v87::v88::[]).toArray,dd⟩ w:=by
 conv=>arg 2;whnf
 obtain⟨w6,h6⟩:∃ w6,w6=w.drew:=⟨_,rfl⟩;have h0:w.grownBy w6 none:=by rw[h6];exact zO w none
 have H0:=Kh h6;have H1:=Kh h0;have HM:=Kh (hM.kept h0 (by simp));have C:Hid (w6.cell? ⟨o,1,none⟩=some (.map (some mb))/\w6.cell? ⟨R,0,none⟩=some (.int .i64 (q:Int))/\w6.cell? ⟨R,1,none⟩=some (.int .i64 (a:Int))/\w6.cell? ⟨R,2,none⟩=some (.int .i64 (b:Int))):=Kh ⟨xE hc.1 h0,xE hc.2.1 h0,xE hc.2.2.1 h0,xE hc.2.2.2 h0⟩;have h9:=Kh hxw;clear h6 h0 hc hM hxw;refine wp_region_noPanic ?_;refine wQ (G:=tZ 6 (fun _=>True) (fun W=>W.cell? ⟨o,1,none⟩=some (.map (some mb))/\W.cell? ⟨R,0,none⟩=some (.int .i64 (q:Int))/\W.cell? ⟨R,1,none⟩=some (.int .i64 (a:Int))/\W.cell? ⟨R,2,none⟩=some (.int .i64 (b:Int)))) (by kernel_rfl) ?_;rw[<- H0.out];refine zW 0 ⟨trivial,fun _=>C.out⟩ ?_;refine zW 1 ⟨trivial,fun _=>C.out⟩ ?_;refine zW 2 ⟨trivial,fun _=>C.out⟩ ?_;refine qHC (i:=3) (v:=.map (some mb)) rfl rfl (by kernel_rfl) (by rfl) (by kernel_rfl) (by kernel_rfl) (by kernel_rfl) (fun _ _ _ h=>h) (Or.inl ⟨by rfl,?_⟩) ⟨trivial,fun _=>C.out⟩ ?_
 ·(rintro wz ⟨-,hz⟩;obtain⟨h1,h2,h3,h4⟩:=hz;go_simp;(try with_reducible rfl))
 try simp only[Act.put,sPa,sPb,sPc]
 refine qHC (i:=4) (v:=.agg #[.int .i64 (q:Int),.int .i64 (a:Int),.int .i64 (b:Int)]) rfl rfl (by kernel_rfl) (by rfl) (by kernel_rfl) (by kernel_rfl) (by kernel_rfl) (fun _ _ _ h=>h) (Or.inl ⟨by rfl,?_⟩) ⟨trivial,fun _=>C.out⟩ ?_
 ·(rintro wz ⟨-,hz⟩;obtain⟨h1,h2,h3,h4⟩:=hz;go_simp;(try with_reducible rfl))
 try simp only[Act.put,sPa,sPb,sPc]
 refine zW 5 ⟨trivial,fun _=>C.out⟩ ?_;obtain⟨w7,r7,h5,h8,h7⟩:=HM.out.upd qGM (z:=x) (y:=m2) hu hxo hm2;rw[h9.out]at h5;refine oneG (i:=6) (by kernel_rfl) rfl (fun K hK=>?_);go_simp;clear h5;refine hK.out _ _ ⟨trivial,fun h=>by simp at h⟩ ?_;clear hK K
 try simp only[Act.put,sPa,sPb,sPc]
 refine rH (by kernel_rfl) ?_ _;refine NoPanic.normal ?_;exact hexit _ _ _ _ _ _ _ h8 (tW H1.out h7 (.inl rfl) (.inr (.inl rfl)))
theorem bd_app {Q:Exit->Act->World->Prop}{v1 v2 v3 v4 v5 v6 v7 v8 v9 v10 v12 v13 v14 v15 v16 v17 v18 v19 v20 v21 v22 v23 v24 v25 v26 v27 v28 v29 v30 v31 v32 v33 v34 v35 v36 v37 v38 v39 v40 v41 v42 v43 v44 v45 v46 v47 v48 v49 v50 v51 v52 v53 v54 v55 v56 v57 v58 v59 v60 v61 v62 v63 v64 v65 v66 v67 v68 v69 v70 v71 v72 v73 v74 v75 v76 v77 v78 v79 v80 v81 v82 v83 v84 v85 v86 v87 v88:Value}{dd:_}{w:World}{B o R q a b m2 cap:Nat}{sa:Option Addr}{xs:List Value}{P:World->Prop}(hc:w.cell? ⟨o,0,none⟩=some (.slice sa m2 cap)/\w.cell? ⟨R,0,none⟩=some (.int .i64 (q:Int))/\w.cell? ⟨R,1,none⟩=some (.int .i64 (a:Int))/\w.cell? ⟨R,2,none⟩=some (.int .i64 (b:Int)))(ho:w.ownsRow B 45 3 (.slice sa m2 cap) m2 xs)(hB:B<=w.heap.size)(hm2:m2<=1000000)(hol:o<w.heap.size)(hE:∀ wg,w.grownBy wg none->∀ w2 s' c',w2.ownsRow B 45 3 (.slice s' (m2+1) c') (m2+1) (xs++[.int .i64 (q:Int),.int .i64 (a:Int),.int .i64 (b:Int)])->wg.grownBy w2 (Value.slice sa m2 cap).ownBlock->qH wg w2 (.slice sa m2 cap) (.slice s' (m2+1) c')->w2.cell? ⟨o,0,none⟩=some (.slice sa m2 cap)/\w2.frozen? ⟨o,0,none⟩=false/\P (w2.setCell ⟨o,0,none⟩ (.slice s' (m2+1) c')))(hexit:∀ (z77 z78 z79 z80 z81 z82 z83 z84 z85 z86:Value) (w':World),P w'->Q .normal ⟨((Value.pointer (some ⟨o,0,none⟩))::v1::v2::v3::v4::v5::v6::v7::v8::v9::v10::(Value.pointer (some ⟨R,0,none⟩))::v12::v13::v14::v15::v16::v17::v18::v19::v20::v21::v22::v23::v24::v25::v26::v27::v28::v29::v30::v31::v32::v33::v34::v35::v36::v37::v38::v39::v40::v41::v42::v43::v44::v45::v46::v47::v48::v49::v50::v51::v52::v53::v54::v55::v56::v57::v58::v59::v60::v61::v62::v63::v64::v65::v66::v67::v68::v69::v70::v71::v72::v73::v74::v75::v76::z77::z78::z79::z80::z81::z82::z83::z84::z85::z86::v87::v88::[]).toArray,dd⟩ w'):Code.wp Try.prog (reg Try.f86 14) Q ⟨((Value.pointer (some ⟨o,0,none⟩))::v1::v2::v3::v4::v5::v6::v7::v8::v9::v10::(Value.pointer (some ⟨R,0,none⟩))::v12::v13::v14::v15::v16::v17::v18::v19::v20::v21::v22::v23::v24::v25::v26::v27::v28::v29::v30::v31::v32::v33::v34::v35::v36::v37::v38::v39::v40::v41::v42::v43::v44::v45::v46::v47::v48::v49::v50::v51::v52::v53::v54::v55::v56::v57::v58::v59::v60::v61::v62::v63::v64::v65::v66::v67::v68::v69::v70::v71::v72::v73::v74::v75::v76::v77::v78::v79::v80::v81::v82::v83::v84::v85::v86::v87::v88::[]).toArray,dd⟩ w:=by
 conv=>arg 2;whnf
 obtain⟨w8,h9⟩:∃ w8,w8=w.drew:=⟨_,rfl⟩;have h6:w.grownBy w8 none:=by rw[h9];exact zO w none
 have H9:=Kh h9;have H7:=Kh h6;have HO:=Kh ho;have HE:=Kh hE;have C:Hid (w8.cell? ⟨o,0,none⟩=some (.slice sa m2 cap)/\w8.cell? ⟨R,0,none⟩=some (.int .i64 (q:Int))/\w8.cell? ⟨R,1,none⟩=some (.int .i64 (a:Int))/\w8.cell? ⟨R,2,none⟩=some (.int .i64 (b:Int))):=Kh ⟨xE hc.1 h6,xE hc.2.1 h6,xE hc.2.2.1 h6,xE hc.2.2.2 h6⟩;have a2:B<=w8.heap.size:=Nat.le_trans hB h6.size;have a0:Hid (o<w8.heap.size):=Kh (Nat.lt_of_lt_of_le hol h6.size);clear h9 h6 hc ho hE hB hol;refine wp_region_noPanic ?_;refine wQ (G:=tZ 7 (fun _=>True) (fun W=>W.cell? ⟨o,0,none⟩=some (.slice sa m2 cap)/\W.cell? ⟨R,0,none⟩=some (.int .i64 (q:Int))/\W.cell? ⟨R,1,none⟩=some (.int .i64 (a:Int))/\W.cell? ⟨R,2,none⟩=some (.int .i64 (b:Int)))) (by kernel_rfl) ?_;rw[<- H9.out];refine zW 0 ⟨trivial,fun _=>C.out⟩ ?_;refine zW 1 ⟨trivial,fun _=>C.out⟩ ?_;refine zW 2 ⟨trivial,fun _=>C.out⟩ ?_;refine zW 3 ⟨trivial,fun _=>C.out⟩ ?_;refine qHC (i:=4) (v:=.slice sa m2 cap) rfl rfl (by kernel_rfl) (by rfl) (by kernel_rfl) (by kernel_rfl) (by kernel_rfl) (fun _ _ _ h=>h) (Or.inl ⟨by rfl,?_⟩) ⟨trivial,fun _=>C.out⟩ ?_
 ·(rintro wz ⟨-,hz⟩;obtain⟨h1,h2,h3,h4⟩:=hz;go_simp;(try with_reducible rfl))
 try simp only[Act.put,sPa,sPb,sPc]
 obtain⟨k1,k2,k3,k4⟩:=C.out;refine oneG (i:=5) (by kernel_rfl) rfl (fun K hK=>?_);go_simp;refine hK.out _ _ ⟨trivial,fun _=>C.out⟩ ?_;clear hK K k1 k2 k3 k4
 try simp only[Act.put,sPa,sPb,sPc]
 refine oneG (i:=6) (by kernel_rfl) rfl (fun K hK=>?_);go_simp;have h7:=heap_alloc_new w8 (.cells #[.int .i64 (q:Int),.int .i64 (a:Int),.int .i64 (b:Int)] 45);have h0:=Ga w8 (.cells #[.int .i64 (q:Int),.int .i64 (a:Int),.int .i64 (b:Int)] 45) none;have h8:=zJ w8 (.cells #[.int .i64 (q:Int),.int .i64 (a:Int),.int .i64 (b:Int)] 45);obtain⟨w9,H2⟩:∃ w9,w9=w8.alloc (.cells #[.int .i64 (q:Int),.int .i64 (a:Int),.int .i64 (b:Int)] 45):=⟨_,rfl⟩;obtain⟨R9,H6⟩:∃ R9,R9=w8.heap.size:=⟨_,rfl⟩;rw[<- H2]at h7 h0 h8 ⊢;rw[<- H6]at h7 ⊢;have H1:Hid (o<w9.heap.size):=Kh (Nat.lt_of_lt_of_le a0.out h0.size);refine hK.out _ _ ⟨trivial,fun _=>⟨xE C.out.1 h0,xE C.out.2.1 h0,xE C.out.2.2.1 h0,xE C.out.2.2.2 h0⟩⟩ ?_;clear hK K
 try simp only[Act.put,sPa,sPb,sPc]
 have H3:=zP HO.out (zD H7.out h0);refine oneG (i:=7) (by kernel_rfl) rfl (fun K hK=>?_);refine uX rfl (.tmp 81) (.tmp 83) 23 rfl elem_cho B _ _ _ rfl H3 [.int .i64 (q:Int),.int .i64 (a:Int),.int .i64 (b:Int)] _ rfl (0,0) rfl h7 ?g0 ?g1 ?g2 ?g3 ?_
 case g0=>intro v hv;simp only[List.mem_cons,List.not_mem_nil,or_false]at hv;rcases hv with rfl|rfl|rfl<;>rfl
 case g1=>unfold maxLen;omega
 case g2=>show (m2+1) * 24<=140737488355328;omega
 case g3=>rw[h8];omega
 intro s2 cap2 wM h5 H0 H4;obtain⟨k0,f0,H5⟩:=HE.out w9 (zD H7.out h0) wM s2 cap2 h5 H0 H4;have H8:o<wM.heap.size:=Nat.lt_of_lt_of_le H1.out H0.size;refine hK.out _ _ ⟨trivial,fun h=>by simp at h⟩ ?_;clear hK K h5 H0 H4 H3 h7 h0 h8 H2 H6 C
 try simp only[Act.put,sPa,sPb,sPc]
 have a1:=Kh H5;clear H5;refine oneG (i:=8) (by kernel_rfl) rfl (fun K hK=>?_);go_simp;refine hK.out _ _ ⟨trivial,fun h=>by simp at h⟩ ?_;clear hK K
 try simp only[Act.put,sPa,sPb,sPc]
 refine oneG (i:=9) (by kernel_rfl) rfl (fun K hK=>?_);go_simp;refine hK.out _ _ ⟨trivial,fun h=>by simp at h⟩ ?_;clear hK K
 try simp only[Act.put,sPa,sPb,sPc]
 refine oneG (i:=10) (by kernel_rfl) rfl (fun K hK=>?_);go_simp;refine hK.out _ _ ⟨trivial,fun h=>by simp at h⟩ ?_;clear hK K
 try simp only[Act.put,sPa,sPb,sPc]
 refine rH (by kernel_rfl) ?_ _;refine NoPanic.normal ?_;exact hexit _ _ _ _ _ _ _ _ _ _ _ a1.out
def qHH (w0:World)(B:Nat)(X:Nat->Prop)(o mb np:Nat)(w:World)(cs:List ChoV)(l:List ClaV)(p:Nat)(e:Ending)(w':World):Prop :=
 ∃ cs' r,e=.returned (.int .i64 r)/\BldS w0 B X o mb w cs' w'/\DecOk np cs cs' l p r
theorem jZ {w:World}{p e:Nat}{x0 x1:Value}{m:Nat×Nat}(h:w.heap[p]?=some (.cells #[x0,x1] e m)):w.cell? ⟨p,0,none⟩=some x0/\w.cell? ⟨p,1,none⟩=some x1:=by
 have c0:=zH h 0 (by simp);have c1:=zH h 1 (by simp);exact⟨by simpa using c0,by simpa using c1⟩
theorem alike_more {l:List ClaV}{np p:Nat}(hc:ClsOk np l)(ha:jJ l p)(hk:qA l=false)(hp:p<=np):p<np:=by
 rcases Nat.lt_or_ge p np with h|h
 ·exact h
 ·have:p=np:=by omega
  subst this;have:=const_of_one (ha.one hc);rw[this]at hk;cases hk
theorem const_all {l:List ClaV}(h:qA l=true):∀ c∈l,c.b=(l.headD default).b:=fun c hc=>by
 rw[qA,List.all_eq_true]at h
 simpa using h c hc
theorem BldS.end_ {w0 w w1 w':World}{B o mb:Nat}{X Y:Nat->Prop}{cs c0 cs':List ChoV}(h0:BldS w0 B X o mb w cs w)(hg:w.grownBy w1 none)(h1:BldS w0 B (fun k=>X k\/Y k) o mb w1 c0 w')(h:BldS w0 B (fun k=>X k\/Y k) o mb w1 cs' w'):BldS w0 B X o mb w cs' w':=by
 obtain⟨sa,cap,u,c,hB,hM,h2,h3,hu⟩:=h0;exact h.back (fun q hq=>.inl hq) (hB.mem.keep hg) hg.size hB.base
theorem bdecide_any (w0:World)(B o mb np:Nat)(hnp:np<=300)(N:Nat):∀ (X:Nat->Prop) (w:World) (v:Value) (l:List ClaV) (cs:List ChoV) (p:Nat),l.length<=N->0<l.length->ClsX X w v l->BldS w0 B X o mb w cs w->ClsOk np l->jJ l p->p<=np->vD np cs cs.length->cs.Nodup->cs.length+l.length<=4000->Calls Try.prog 86 #[.pointer (some ⟨o,0,none⟩),v,.int .i64 (p:Int)] w (qHH w0 B X o mb np w cs l p):=by
 induction N with
 | zero=>intro X w v l cs p hN h0;omega
 | succ N IH0 =>
  intro X w v l cs p hN h0 hv hb g0 ha hp g1 f5 i6;have IH:=Kh IH0;clear IH0;obtain⟨va,vc,rfl⟩:=hv.shape;obtain⟨n,hn⟩:∃ n,n=l.length:=⟨_,rfl⟩;have HN:=Kh hn;have HV:=Kh hv;have HB:=Kh hb;have c0:=Kh g0;have HA:=Kh ha;have i0:=Kh g1;have g8:=Kh f5;rw[<- hn]at HV hN h0 i6 ⊢;have H4:Hid (Calls Try.prog 112 #[.slice va n vc] w fun e w'=>e=.returned (.tuple #[.int .i64 (conR l),.bool (qA l)])/\w.grownBy w' none):=Kh (constant_any X w _ l HV.out);obtain⟨cb,d5⟩:∃ cb,cb=qA l:=⟨_,rfl⟩;obtain⟨cr,d4⟩:∃ cr,cr=conR l:=⟨_,rfl⟩;rw[<- d5,<- d4]at H4;have f1:=Kh d5;have k0:=Kh d4;clear hv hb g0 ha g1 f5 hn d5 d4;go_enter Try.func86,Try.ntmps86;go_wp2_with fail;refine H4.out.mono ?_;rintro e w1 ⟨rfl,H9⟩;have h9:=Kh H9;clear H9 H4;cases cb with
  | true =>
   go_wp2;go_ret;refine⟨cs,cr,rfl,HB.out.grow h9.out,?_⟩;have e1:cr=iA (l.headD default).b:=by rw[k0.out,conR,if_pos ⟨f1.out.symm,by rw[<- HN.out];exact h0⟩]
   rw[e1];exact DecOk.const i0.out g8.out (by rw[<- HN.out];exact h0) (const_all f1.out.symm)
  | false =>
   go_wp2
   go_loopg [2,9,10,11,12,13] (np - p) (fun gh v2 v9 v10 v11 v12 v13 wr=>∃ q:Nat,gh+q=np/\p<=q/\v2=.int .i64 q/\jJ l q/\w.grownBy wr none)
   case atStart=>exact⟨p,by omega,Nat.le_refl _,rfl,HA.out,h9.out⟩
   case round =>
    clear h9 HA w1;obtain⟨q,f7,c8,rfl,d7,hg⟩:=hrel;have f4:q<np:=alike_more c0.out d7 f1.out.symm (by omega);have g9:=Kh f7;have c3:=Kh d7;have HG:=Kh hg;have H8:l.length=n:=HN.out.symm;have a6:Hid (Calls Try.prog 113 #[.slice va n vc,.int .i64 (q:Int)] wr (qID wr l q)):=Kh (divide_any X wr _ l q (HV.out.grow hg) (fun c hc=>by rw[c0.out.len c hc];omega) (by omega));have g3:Hid ((yesL l q).length+(noL l q).length=n):=Kh (by rw[qAA,H8]);clear f7 d7 hg H8;go_wp2_with fail;refine a6.out.mono ?_;rintro e w1 ⟨sy,cy,sn,cn,rfl,a8,a9,H9⟩;obtain⟨ly,b4⟩:∃ x,x=yesL l q:=⟨_,rfl⟩;obtain⟨ln,b5⟩:∃ x,x=noL l q:=⟨_,rfl⟩;rw[<- b4,<- b5]at g3;rw[<- b4]at a8 ⊢;rw[<- b5]at a9 ⊢;have H1:=Kh b4;have H2:=Kh b5;have h9:=Kh (zA HG.out H9 (by simp));have i4:=g3.out;obtain⟨my,b2⟩:∃ m,m=ly.length:=⟨_,rfl⟩;obtain⟨mn,b3⟩:∃ m,m=ln.length:=⟨_,rfl⟩;rw[<- b2,<- b3]at i4;rw[<- b2]at a8 ⊢;rw[<- b3]at a9 ⊢;have h8:=Kh b2;have h6:=Kh b3;have d9:=Kh a8;have e2:=Kh a9;have HZ:Hid (w.heap.size<=wr.heap.size):=Kh HG.out.size;clear b4 b5 b2 b3 H9 a8 a9 a6;by_cases hy0:my=0
    ·have d8:=Kh (c3.out.skip (p:=q) (.inl (by rw[<- H1.out,<- h8.out];exact hy0)))
     subst hy0;go_wp2;go_roundg (np - (q+1))
     case measure=>have:=g9.out;omega
     case rel=>exact⟨q+1,by omega,by omega,by go_num,d8.out,h9.out⟩
    by_cases hn0:mn=0
    ·have d8:=Kh (c3.out.skip (p:=q) (.inr (by rw[<- H2.out,<- h6.out];exact hn0)))
     have c4:¬ (my:Int)=0:=by omega
     have i5:((my:Int) == 0)=false:=by rw[beq_eq_false_iff_ne];exact c4
     subst hn0;go_wp2;go_roundg (np - (q+1))
     case measure=>have:=g9.out;omega
     case rel=>exact⟨q+1,by omega,by omega,by go_num,d8.out,h9.out⟩
    have c4:¬ (my:Int)=0:=by omega
    have i8:¬ (mn:Int)=0:=by omega
    have i5:((my:Int) == 0)=false:=by rw[beq_eq_false_iff_ne];exact c4
    have k4:((mn:Int) == 0)=false:=by rw[beq_eq_false_iff_ne];exact i8
    obtain⟨Y,hY⟩:∃ Y:Nat->Prop,Y=fun k=>(Value.slice sy my cy).ownBlock=some k\/(Value.slice sn mn cn).ownBlock=some k:=⟨_,rfl⟩
    have j2:Hid (∀ k,Y k->w.heap.size<=k/\k<w1.heap.size):=Kh (fun k hk=>by
     rw[hY]at hk;have:=HZ.out;rcases hk with hk|hk
     ·have:=d9.out.lt k hk;omega
     ·have:=e2.out.lt k hk;omega)
    have i3:=Kh (HB.out.fresh h9.out j2.out)
    have g6:Hid (ClsX (fun k=>X k\/Y k) w1 (.slice sy my cy) ly):=Kh (by
     have:=d9.out;rw[h8.out]at this ⊢
     exact lT this (fun k hk=>.inr (by rw[hY,h8.out];exact .inl hk)))
    have g7:Hid (ClsX (fun k=>X k\/Y k) w1 (.slice sn mn cn) ln):=Kh (by
     have:=e2.out;rw[h6.out]at this ⊢
     exact lT this (fun k hk=>.inr (by rw[hY,h6.out];exact .inr hk)))
    have e9:Hid (Calls Try.prog 86 #[.pointer (some ⟨o,0,none⟩),.slice sn mn cn,.int .i64 ((q+1:Nat):Int)] w1 (qHH w0 B (fun k=>X k\/Y k) o mb np w1 cs ln (q+1))):=Kh (IH.out (fun k=>X k\/Y k) w1 _ ln cs (q+1) (by rw[<- h6.out];omega) (by rw[<- h6.out];omega) g7.out i3.out (by rw[H2.out];exact c0.out.sub List.filter_sublist) (by rw[H2.out];exact c3.out.no) (by omega) i0.out g8.out (by rw[<- h6.out];omega));have e5:((q+1:Nat):Int)=(q:Int)+1:=by omega
    rw[e5]at e9;have e6:IntKind.i64.wrap ((q:Int)+1)=(q:Int)+1:=sO (by omega);have e7:(q:Int)+1 - 1=(q:Int):=by omega
    have e8:IntKind.i64.wrap ((q:Int)+1 - 1)=(q:Int):=by rw[e7];exact sO (by omega)
    clear hY d9 e2 e5;go_wp2_with fail;refine e9.out.mono ?_;rintro e w2 ⟨c1,rn,rfl,a3,a1⟩;have i2:=Kh a3;have a7:=Kh a1;have f8:=a1.few;have a4:=Kh (g6.out.kept a3.facts.2.1 a3.facts.2.2.1);have e4:Hid (Calls Try.prog 86 #[.pointer (some ⟨o,0,none⟩),.slice sy my cy,.int .i64 ((q+1:Nat):Int)] w2 (qHH w0 B (fun k=>X k\/Y k) o mb np w2 c1 ly (q+1))):=Kh (IH.out (fun k=>X k\/Y k) w2 _ ly c1 (q+1) (by rw[<- h8.out];omega) (by rw[<- h8.out];omega) a4.out a3.rebase (by rw[H1.out];exact c0.out.sub List.filter_sublist) (by rw[H1.out];exact c3.out.yes) (by omega) a1.ok a1.nd (by rw[<- h8.out];rw[<- h6.out]at f8;omega));rw[show ((q+1:Nat):Int)=(q:Int)+1 by omega]at e4;rw[<- h6.out]at f8;clear a3 a1 e9 g6 g7;go_wp2_with fail;refine e4.out.mono ?_;rintro e w3 ⟨c2,ry,rfl,g2,H5⟩;have a0:=H5.few;rw[<- h8.out]at a0;have j0:=a7.out.lo;have i9:=H5.lo;have d1:=H5.hi;have d2:rn<=1+(c2.length:Int):=by have:=a7.out.hi;have:=H5.pre.length_le;omega
    have f3:Hid (BldS w0 B X o mb w c2 w3):=Kh (by
     have h1:=i2.out.facts;have h2:BldS w0 B (fun k=>X k\/Y k) o mb w1 c2 w3:=g2.back (fun _ h=>h) h1.2.1 h1.2.2.1 h1.2.2.2.2.1
     exact HB.out.end_ h9.out h2 h2)
    have f0:=Kh H5;obtain⟨a,rfl⟩:∃ a:Nat,ry=(a:Int):=⟨ry.toNat,by omega⟩;obtain⟨b,rfl⟩:∃ b:Nat,rn=(b:Int):=⟨rn.toNat,by omega⟩;clear g2 H5 e4 i2 a4 i3;have a2:=heap_alloc_new w3 (.cells #[.int .i64 (q:Int),.int .i64 (a:Int),.int .i64 (b:Int)] 45);have d3:=Ga w3 (.cells #[.int .i64 (q:Int),.int .i64 (a:Int),.int .i64 (b:Int)] 45) none;obtain⟨w4,c6⟩:∃ w4,w4=w3.alloc (.cells #[.int .i64 (q:Int),.int .i64 (a:Int),.int .i64 (b:Int)] 45):=⟨_,rfl⟩;obtain⟨R,hR⟩:∃ R,R=w3.heap.size:=⟨_,rfl⟩;rw[<- c6]at a2 d3;rw[<- hR]at a2;have j3:=Kh c6;have j4:=Kh hR;have i1:=Kh a2;have h7:=Kh (f3.out.grow d3);have k3:R≠o:=(by have:=f3.out.facts.2.2.2.2.2.2;omega);have i7:R≠mb:=(by have:=f3.out.facts.2.2.2.2.2.1;omega);obtain⟨r0,r1,r2⟩:=zM a2;clear c6 hR a2 d3;go_upto_region 8 with fail;rw[<- j3.out,<- j4.out];by_cases hab:a=b
    ·have j7:=Kh (DecOk.same (by rw[<- H2.out];exact a7.out) (by rw[<- H1.out];exact f0.out) (by rw[hab]))
     subst hab;go_wp2;go_ret;exact⟨c2,_,rfl,h7.out,jV j7.out c8⟩
    have j1:¬ (a:Int)=(b:Int):=by omega
    obtain⟨x,hx⟩:∃ x:ChoV,x=⟨(q:Int),(a:Int),(b:Int)⟩:=⟨_,rfl⟩;have HX:=Kh hx;have g5:Hid (aX x):=Kh (by rw[hx];exact⟨⟨by show (0:Int)<=q;omega,by show (q:Int)<_;omega⟩,⟨by show (0:Int)<=a;omega,by show (a:Int)<_;omega⟩,⟨by show (0:Int)<=b;omega,by show (b:Int)<_;omega⟩⟩);have g4:Hid (choW x=.agg #[.int .i64 (q:Int),.int .i64 (a:Int),.int .i64 (b:Int)]):=Kh (by rw[hx];rfl);obtain⟨sa,cap,u,c,d6,c9,H6,hu⟩:=h7.out.cells;obtain⟨b0,b1⟩:=jZ d6;have f2:=Kh d6;have a5:=Kh H6;have HU:=Kh hu
    have h4:∀ q':Nat,Sem.run Try.prog (Instr.lookup 135 (.map (some mb)) (.agg #[.int .i64 (q:Int),.int .i64 (a:Int),.int .i64 (b:Int)]) true) (w4.drewN q')=.ok (.tuple #[.int .i64 (((numH c2 x).getD 0:Nat):Int),.bool (numH c2 x).isSome]) (w4.drewN q'):=fun q'=>by
     have:=(a5.out.kept (zN w4 q' none) (by simp)).lookup qGM g5.out;rw[g4.out]at this;exact this
    clear hx d6 c9 H6 hu;obtain⟨m2,d0⟩:∃ m,m=c2.length:=⟨_,rfl⟩;rw[<- d0]at b0 d2 d1 a0;have h5:=Kh d0;clear d0;by_cases hmem:x∈c2
    ·obtain⟨i,hi⟩:∃ i,i=c2.idxOf x:=⟨_,rfl⟩
     have b6:i<c2.length:=(by rw[hi];exact List.idxOf_lt_length_of_mem hmem);have f6:c2.getD i default=⟨(q:Int),(a:Int),(b:Int)⟩:=by rw[zG b6,<- HX.out];subst hi;exact List.getElem_idxOf b6
     have j8:=Kh (DecOk.old f4 (by rw[<- H2.out];exact a7.out) (by rw[<- H1.out];exact f0.out) b6 f6);rw[numH_of_mem hmem,<- hi]at h4;have H7:∀ q':Nat,Sem.run Try.prog (Instr.lookup 135 (.map (some mb)) (.agg #[.int .i64 (q:Int),.int .i64 (a:Int),.int .i64 (b:Int)]) true) (w4.drewN q')=.ok (.tuple #[.int .i64 (i:Int),.bool true]) (w4.drewN q'):=h4;have k5:i<4100:=(by have:=h5.out;omega);clear h4 b6 f6 hi;go_wp2
     go_quiet (fail)
     go_wp2;go_ret;exact⟨c2,_,yA (by go_num),h7.out.grow (zN _ _ _),jV j8.out c8⟩
    ·have j9:=Kh (DecOk.new f4 (by rw[<- H2.out];exact a7.out) (by rw[<- H1.out];exact f0.out) (by rw[<- HX.out];exact hmem) (by rw[<- H1.out,<- h8.out];omega) (by rw[<- H2.out,<- h6.out];omega))
     rw[qDY hmem]at h4;have H7:∀ q':Nat,Sem.run Try.prog (Instr.lookup 135 (.map (some mb)) (.agg #[.int .i64 (q:Int),.int .i64 (a:Int),.int .i64 (b:Int)]) true) (w4.drewN q')=.ok (.tuple #[.int .i64 0,.bool false]) (w4.drewN q'):=h4;have H0:=Kh hmem;clear h4 hmem;go_upto_region 10 with fail
     go_quiet (fail)
     obtain⟨w5,c5⟩:∃ w5,w5=w4.drewN nq:=⟨_,rfl⟩;have b8:w4.grownBy w5 none:=(by rw[c5];exact zN _ _ _);have b0:=xE b0 b8;have b1:=xE b1 b8;rw[<- c5];have H3:=Kh b8;clear b8 c5 H7 r0 r1 r2;go_upto_region 13 with fail
     have C5:Hid (w5.cell? ⟨o,1,none⟩=some (.map (some mb))/\w5.cell? ⟨R,0,none⟩=some (.int .i64 (q:Int))/\w5.cell? ⟨R,1,none⟩=some (.int .i64 (a:Int))/\w5.cell? ⟨R,2,none⟩=some (.int .i64 (b:Int))):=Kh (by
      obtain⟨r0,r1,r2⟩:=zM (zB i1.out H3.out (by simp));obtain⟨_,b1⟩:=jZ (zB f2.out H3.out (by simp))
      exact⟨b1,r0,r1,r2⟩)
     clear b0 b1;refine bd_put C5.out (a5.out.kept H3.out (by simp)) (by have:=HU.out;have:=h5.out;unfold maxLen;omega) g5.out g4.out (by omega) ?_;intro z71 z72 z73 z74 z75 z76 w7 b9 b7;rw[qDY H0.out]at b9;have f9:(fun q=>if q=x then some m2 else numH c2 q)=numH (c2++[x]):=by rw[h5.out];exact numH_snoc H0.out
     rw[f9]at b9;have c7:=(h7.out.grow H3.out).put H0.out (zB f2.out H3.out (by simp)) b7 b9 (by have:=HU.out;omega);obtain⟨e0,eo,ez,ep⟩:=c7;have j6:=Kh eo;have j5:=Kh ep;have k2:=Kh (zB (zB i1.out H3.out (by simp)) b7 (fun e=>i7 (Oj e).symm));have e3:Hid (o<w7.heap.size):=Kh (Nat.lt_of_lt_of_le (zK (zB f2.out H3.out (by simp))) b7.size);rw[<- h5.out]at e0
     have C7:Hid (w7.cell? ⟨o,0,none⟩=some (.slice sa m2 cap)/\w7.cell? ⟨R,0,none⟩=some (.int .i64 (q:Int))/\w7.cell? ⟨R,1,none⟩=some (.int .i64 (a:Int))/\w7.cell? ⟨R,2,none⟩=some (.int .i64 (b:Int))):=Kh (by
      obtain⟨r0,r1,r2⟩:=zM k2.out
      exact⟨e0,r0,r1,r2⟩)
     clear b9 f9 eo ep b7 e0 C5;go_upto_region 14 with fail
     refine bd_app (P:=fun wZ=>BldS w0 B X o mb w (c2++[x]) wZ) C7.out (by have:=j6.out;rwa [<- h5.out]at this) ez (by omega) e3.out (fun wg hwg w2' s' c' h1 h2 h3=>by
      have:=j5.out wg hwg w2' s' c' (by rw[<- h5.out,show qHE x=[.int .i64 (q:Int),.int .i64 (a:Int),.int .i64 (b:Int)] by rw[HX.out];rfl];exact h1) (by rw[<- h5.out];exact h2) (by rw[<- h5.out];exact h3);rw[<- h5.out]at this
      exact this) ?_
     intro z77 z78 z79 z80 z81 z82 z83 z84 z85 z86 wZ hZ;have k1:=Kh hZ;clear hZ ez;go_wp2;go_ret;refine⟨c2++[x],_,yA (by go_num),k1.out,?_⟩;have:=jV j9.out c8;rw[<- HX.out,<- h5.out]at this;exact this
theorem GrownBut.trans' {w w' w'':World}{F G:Nat->Prop}(h:GrownBut w w' F)(k:GrownBut w' w'' G)(hG:∀ j,G j->F j\/w.heap.size<=j):GrownBut w w'' F :=
 ⟨k.os.trans h.os,k.tape.trans h.tape,k.output.trans h.output,Nat.le_trans h.size k.size,fun j hj hn=>(k.block j (Nat.lt_of_lt_of_le hj h.size) (fun hg=>(hG j hg).elim hn (fun e=>by omega))).trans (h.block j hj hn)⟩
def qIE (w:World)(ps:List (List ByteArray))(l:List ClaV)(e:Ending)(w':World):Prop :=
 ∃ v g,e=.returned v/\(∀ w2,GrownBut w' w2 (fun j=>j<w.heap.size)->dG w2.heap.size w2 v g)/\g.pats=ps/\vD ps.length g.chos g.chos.length/\0<=g.root/\g.root<=1+(g.chos.length:Int)/\(∀ c∈l,decG g.chos (fun i=>c.m.getD i false) g.root=c.b)/\g.chos.length+1<=l.length/\w.grownBy w' none
theorem elem_pat1:ElemN Try.prog 22 28 1 (.agg #[.slice none 0 0]) 24:=⟨by kernel_rfl,by kernel_rfl,by rfl,by decide⟩
theorem sclone_any (B:Nat)(w:World)(v:Value)(p:List ByteArray)(h:Row B w v (txtV p))(hl:p.length<=100000):
  Calls Try.prog 87 #[v] w fun e w'=>∃ sa sc,e=.returned (.slice sa p.length sc)/\w'.ownsRow w.heap.size 9 1 (.slice sa p.length sc) p.length (txtV p)/\w.grownBy w' none:=by
 rcases h with ⟨a,c,rfl,hx⟩|⟨b,off,cap,rfl,_,hc1,hc2,hra⟩
 ·have hp:p=[]:=by simpa [txtV] using hx
  subst hp;rcases a with _|a
  ·exact(Try.slices_Clone_string_nil 0 c w).mono fun e w' ⟨h1,h2⟩=>⟨none,0,h1,by rw[h2];exact World.ownsRow_nil _ _ _ _,by rw[h2];exact zL _ _⟩
  ·exact(Try.slices_Clone_string_zero a c w).mono fun e w' ⟨v',h1,h2,_,h3⟩=>by
    obtain⟨sa,sc,rfl⟩:=qK h2;exact⟨sa,sc,h1,h2,lC h3⟩
 ·rw[zX]
  refine(Try.slices_Clone_string b off p.length cap p w (Nat.le_refl _) (by omega) (fun j hj=>?_)).mono ?_
  ·exact vU hra j hj
  ·rintro e w' ⟨v',rfl,h0,_,h4⟩
   rw[List.take_of_length_le (Nat.le_refl _)]at h0;obtain⟨sa,sc,rfl⟩:=qK h0;exact⟨sa,sc,rfl,h0,lC h4⟩
theorem clsok_of {M:Nat->List Bool}{A:Nat->Bool}{s np:Nat}{l:List ClaV}(h:ClsI M A s s l)(hM:∀ i,(M i).length=np):ClsOk np l:=⟨fun c hc=>by obtain⟨i,_,e⟩:=h.met c hc;rw[<- e];exact hM i,h.nd⟩
theorem diagram_any (Bd:Nat)(w:World)(pv lv:Value)(ps:List (List ByteArray))(l:List ClaV)(hBd:Bd<=w.heap.size)(hp:PatsIn Bd w pv ps)(hl:ClsX (fun k=>k<w.heap.size) w lv l)(h0:0<l.length)(h4:l.length<=4000)(hcl:ClsOk ps.length l)(h3:ps.length<=300)(h8:∀ p∈ps,p.length<=100000):Calls Try.prog 61 #[pv,lv] w (qIE w ps l):=by
 obtain⟨pa,pc,rfl⟩:=hp.shape;obtain⟨la,lc,rfl⟩:=hl.shape;obtain⟨np,e7⟩:∃ n,n=ps.length:=⟨_,rfl⟩;have H6:=Kh e7;have HP:=Kh hp;rw[<- e7]at hcl h3 HP ⊢;obtain⟨n,hn⟩:∃ n,n=l.length:=⟨_,rfl⟩;have HN:=Kh hn;have HL:=Kh hl;have H0:=Kh h0;have H4:=Kh h4;have m7:=Kh hcl;have H8:=Kh h8;rw[<- hn]at HL ⊢;have l0:=@run_makeMap Try.prog;clear hp hl e7 hn h0 h4 hcl h8;go_enter Try.func61,Try.ntmps61;go_upto_region 1 with fail;obtain⟨wA,e2⟩:∃ wA,wA=w.alloc (.cells #[.slice none 0 0,.slice none 0 0,.int .i64 0] 25):=⟨_,rfl⟩;have a9:=Ga w (.cells #[.slice none 0 0,.slice none 0 0,.int .i64 0] 25) none;have b4:=heap_alloc_new w (.cells #[.slice none 0 0,.slice none 0 0,.int .i64 0] 25);have j9:wA.heap.size=w.heap.size+1:=by rw[e2,zJ]
 obtain⟨P,hP⟩:∃ P,P=w.heap.size:=⟨_,rfl⟩;rw[<- e2]at a9 b4 ⊢;rw[<- hP]at b4 ⊢;have m4:=Kh hP;obtain⟨mb,c9⟩:∃ b,b=wA.heap.size:=⟨_,rfl⟩;obtain⟨w1,c6⟩:∃ w1,w1=wA.alloc (.map #[] 0):=⟨_,rfl⟩;have h6:=MapK.made 45 aX choW wA;have d2:=Ga wA (.map #[] 0) none;have g5:w1.heap.size=mb+1:=by rw[c6,zJ,c9]
 rw[<- c6]at h6 d2;rw[<- c9]at h6;have d6:=heap_alloc_new w1 (.cells #[.slice none 0 0,.map (some mb)] 137);have H1:=Ga w1 (.cells #[.slice none 0 0,.map (some mb)] 137) none;obtain⟨w2,c5⟩:∃ w2,w2=w1.alloc (.cells #[.slice none 0 0,.map (some mb)] 137):=⟨_,rfl⟩;have k4:w2.heap.size=mb+2:=by rw[c5,zJ,g5]
 obtain⟨o,ho⟩:∃ o,o=w1.heap.size:=⟨_,rfl⟩;rw[<- c5]at d6 H1;rw[<- ho]at d6;have m9:=Kh (zB (zB b4 d2 (by simp)) H1 (by simp));have a1:wA.grownBy w2 none:=zA d2 H1 (by simp);have f4:Hid (w.heap.size<=w2.heap.size):=Kh (by omega);have a3:w.grownBy w2 none:=zA a9 a1 (by simp);have e4:(45:Nat)≠137:=by decide
 have e3:(45:Nat)≠25:=by decide
 have a5:(28:Nat)≠25:=by decide
 have j7:Hid (BldS wA w2.heap.size (fun k=>k<w.heap.size) o mb w2 [] w2):=Kh ⟨none,0,0,0,⟨⟨fun r hr=>by simp at hr;subst hr;exact World.ownsRow_nil _ _ _ _,List.pairwise_singleton _ _,fun r hr k hk=>by simp at hr;subst hr;simp[Value.ownBlock]at hk,fun k hk=>Nat.lt_of_lt_of_le hk a3.size⟩,fun r hr=>by simp at hr;subst hr;exact⟨rfl,e4⟩,d6,fun e=>by have e:o<w.heap.size:=e;omega,by omega,by omega,Nat.le_refl _,a1,vZ.refl _ _,Nat.le_refl _⟩,h6.kept H1 (by simp),fun e=>by have e:mb<w.heap.size:=e;omega,by omega,Nat.le_refl _⟩;have H7:Hid (Calls Try.prog 86 #[.pointer (some ⟨o,0,none⟩),.slice la n lc,.int .i64 0] w2 (qHH wA w2.heap.size (fun k=>k<w.heap.size) o mb np w2 [] l 0)):=Kh (bdecide_any wA w2.heap.size o mb np (by omega) l.length (fun k=>k<w.heap.size) w2 _ l [] 0 (Nat.le_refl _) H0.out (HL.out.grow a3) j7.out m7.out (fun c _ c' _ q hq=>by omega) (Nat.zero_le _) (fun i hi=>by simp at hi) List.nodup_nil (by have:=H4.out;simp;omega));have m1:=Kh c6;have m0:=Kh c5;have m6:=Kh c9;have m5:Hid (o=mb+1):=Kh (by omega);have j6:=Kh b4;have j5:=Kh a9;have n0:=a9.size;clear b4 a9 j9 hP c9 c6 h6 d2 g5 d6 H1 c5 k4 ho a3 a1 e2 j7;go_upto_region 2 with fail;rw[<- m6.out,<- m1.out,<- m5.out,<- m0.out];clear l0;go_wp2_with fail;refine H7.out.mono ?_;rintro e w3 ⟨cs,r,rfl,d5,f1⟩;have d9:=Kh f1;have d8:=Kh (zA j5.out d5.facts.1 (by simp));have b9:=Kh (zB j6.out d5.facts.1 (by simp));obtain⟨sa,cap,u,c,b3,h7,_,_⟩:=d5.cells;obtain⟨b0,b1⟩:=jZ b3;have j3:=Kh h7;have n3:=f1.lo;obtain⟨q,rfl⟩:∃ q:Nat,r=(q:Int):=⟨r.toNat,by omega⟩;obtain⟨m,hm⟩:∃ m,m=cs.length:=⟨_,rfl⟩;rw[<- hm]at b0 j3;have HM:=Kh hm;have d4:=heap_alloc_new w3 (.cells #[.slice none 0 0,.slice sa m cap,.int .i64 (q:Int)] 25);have b2:=Ga w3 (.cells #[.slice none 0 0,.slice sa m cap,.int .i64 (q:Int)] 25) none;obtain⟨w4,c4⟩:∃ w4,w4=w3.alloc (.cells #[.slice none 0 0,.slice sa m cap,.int .i64 (q:Int)] 25):=⟨_,rfl⟩;have k0:w4.heap.size=w3.heap.size+1:=by rw[c4,zJ]
 obtain⟨od,e6⟩:∃ o,o=w3.heap.size:=⟨_,rfl⟩;rw[<- c4]at d4 b2;rw[<- e6]at d4;have l9:=Kh c4;have j2:=Kh e6;have i9:Hid (BoxS w4.heap.size (fun _=>False) od 25 w3 w4 (⟨w4.heap.size,28,.slice none 0 0,0,[],1⟩::[]) #[.slice none 0 0,.slice sa m cap,.int .i64 (q:Int)] w4):=Kh ⟨⟨fun r hr=>by simp at hr;subst hr;exact World.ownsRow_nil _ _ _ _,List.pairwise_singleton _ _,fun r hr k hk=>by simp at hr;subst hr;simp[Value.ownBlock]at hk,fun k hk=>hk.elim⟩,fun r hr=>by simp at hr;subst hr;exact⟨rfl,a5⟩,d4,fun e=>e,by omega,by omega,Nat.le_refl _,b2,vZ.refl _ _,Nat.le_refl _⟩;have b5:Hid (w3.heap.size<=w4.heap.size):=Kh b2.size;have l6:Hid (w.heap.size<=w2.heap.size/\w.heap.size<=w4.heap.size):=Kh ⟨f4.out,Nat.le_trans d8.out.size b2.size⟩;have j1:Hid (P<w3.heap.size):=Kh (zK b9.out);have n5:Hid (Bd<=w3.heap.size):=Kh (Nat.le_trans hBd d8.out.size);clear d5 f1 b3 h7 hm c4 e6 b2 k0 d4 H7 j6 j5 b1;go_upto_region 4 with fail;rw[<- j2.out,<- l9.out];clear b0;go_wp2
 go_loopg [24] np (fun gh v24 wr=>∃ (k:Nat) (sp:Option Addr) (cp:Nat) (svs:List Value) (X:Nat->Prop),gh+k=np/\v24=.int .i64 k/\BoxS w4.heap.size X od 25 w3 wr (⟨w4.heap.size,28,.slice sp k cp,k,svs,1⟩::[]) #[.slice sp k cp,.slice sa m cap,.int .i64 (q:Int)] wr/\uE X 9 txtV wr svs (ps.take k)/\(∀ j,X j->w4.heap.size<=j))
 case atStart=>exact⟨0,none,0,[],fun _=>False,rfl,rfl,i9.out,uE.nil,fun _ h=>h.elim⟩
 case round =>
  clear i9;obtain⟨k,sp,cp,svs,X,i2,rfl,f3,g8,g6⟩:=hrel;have f6:=Kh g6;have g2:=Kh i2;have H9:=Kh f3;have f9:=Kh g8;have a8:=f3.grown;clear i2 f3 g8 g6;by_cases hk:k<np
  ·have l1:(k:Int)<np:=by omega
   obtain⟨b,off,pcap,e,l3,f2,a4,h9⟩:=((HP.out.kept d8.out (by simp)).kept a8 (by simp)).at_ (by rw[<- H6.out];omega);rw[<- H6.out]at e f2 h9;simp only[Value.slice.injEq,true_and]at e;obtain⟨rfl,rfl⟩:=e;have n2:pc<=9223372036854775807:=by unfold maxLen at a4;omega
   obtain⟨ea,ec,c1,H2,c7⟩:=h9 k hk;obtain⟨p,hp⟩:∃ p,p=ps.getD k []:=⟨_,rfl⟩;have k7:p.length<=100000:=H8.out p (by rw[hp,zG (by rw[<- H6.out];exact hk)];exact List.getElem_mem _);rw[<- hp]at c1 H2;have m3:=Kh hp;have f7:Hid (∀ W:World,wr.grownBy W none->Calls Try.prog 87 #[.slice ea p.length ec] W fun e w'=>∃ sa sc,e=.returned (.slice sa p.length sc)/\w'.ownsRow W.heap.size 9 1 (.slice sa p.length sc) p.length (txtV p)/\W.grownBy w' none):=Kh (fun W hW=>sclone_any Bd W _ p (H2.kept hW (by simp)) k7);obtain⟨pl,g9⟩:∃ n,n=p.length:=⟨_,rfl⟩;rw[<- g9]at c1 f7;have d3:=heap_alloc_new wr (.cells #[.slice ea pl ec] 28);have e8:=Ga wr (.cells #[.slice ea pl ec] 28) none;obtain⟨wR,e1⟩:∃ wR,wR=wr.alloc (.cells #[.slice ea pl ec] 28):=⟨_,rfl⟩;obtain⟨R,hR⟩:∃ R,R=wr.heap.size:=⟨_,rfl⟩;rw[<- e1]at d3 e8;rw[<- hR]at d3;have l7:=Kh e1;have m2:=Kh hR;have g0:=Kh e8;have m8:=Kh d3;clear h9 H2 c7 hp g9 e1 hR e8 d3 f2 a4 a8;go_upto_region 7 with fail;rw[<- l7.out,<- m2.out];clear c1;obtain⟨w5,c3⟩:∃ w5,w5=wR.drew:=⟨_,rfl⟩;have f0:wr.grownBy w5 none:=(by rw[c3];exact zD g0.out (zO wR none));have l8:=Kh c3;have d7:=Kh f0
   have C5:Hid (w5.cell? ⟨od,0,none⟩=some (.slice sp k cp)/\w5.cell? ⟨R,0,none⟩=some (.slice ea pl ec)):=Kh (by
    have h1:=zH (H9.out.grow f0).box 0 (by simp);simp only[List.getElem_toArray,List.getElem_cons_zero]at h1;refine⟨h1,?_⟩;have h2:=zH (zB m8.out (show wR.grownBy w5 none by rw[c3];exact zO wR none) (by simp)) 0 (by simp)
    simpa using h2)
   clear f0 c3;refine wp_region_noPanic ?_;refine wQ (G:=tZ 7 (fun _=>True) (fun W=>W.cell? ⟨od,0,none⟩=some (.slice sp k cp)/\W.cell? ⟨R,0,none⟩=some (.slice ea pl ec))) (by kernel_rfl) ?_;rw[<- l8.out];refine zW 0 ⟨trivial,fun _=>C5.out⟩ ?_;refine dD 1 ⟨trivial,fun _=>C5.out⟩ ?_;refine zW 2 ⟨trivial,fun _=>C5.out⟩ ?_;obtain⟨k1,k2⟩:=C5.out;refine oneG (i:=3) (by kernel_rfl) rfl (fun K hK=>?_);go_simp;refine hK.out _ _ ⟨trivial,fun _=>C5.out⟩ ?_;clear hK K k1 k2
   try simp only[Act.put,sPa,sPb,sPc]
   refine oneG (i:=4) (by kernel_rfl) rfl (fun K hK=>?_);go_simp
   go_at_call 87
   refine(f7.out w5 d7.out).mono ?_;rintro e w8 ⟨s8,c8,rfl,h5,d1⟩;have H3:=zD d7.out d1;have g3:Hid (BoxS w4.heap.size (fun j=>X j\/(Value.slice s8 pl c8).ownBlock=some j) od 25 w3 w8 (⟨w4.heap.size,28,.slice sp k cp,k,svs,1⟩::[]) #[.slice sp k cp,.slice sa m cap,.int .i64 (q:Int)] w8):=Kh (H9.out.fresh H3 (fun j hj=>⟨Nat.le_trans d7.out.size (h5.lt j hj).1,(h5.lt j hj).2⟩))
   have b7:Hid (uE (fun j=>X j\/(Value.slice s8 pl c8).ownBlock=some j) 9 txtV w8 (svs++[.slice s8 pl c8]) (ps.take (k+1))):=Kh (by
    rw[zR (d:=[]) (by rw[<- H6.out];exact hk),<- m3.out]
    exact((f9.out.kept (H9.out.mem.keep H3) H3.size).mono (fun j hj=>.inl hj)).snoc (RowX.of_owns h5 (fun j hj=>.inr hj)))
   have C8:Hid (w8.cell? ⟨od,0,none⟩=some (.slice sp k cp)/\w8.cell? ⟨R,0,none⟩=some (.slice ea pl ec)):=Kh ⟨xE C5.out.1 d1,xE C5.out.2 d1⟩
   have f5:Hid (∀ j,(X j\/(Value.slice s8 pl c8).ownBlock=some j)->w4.heap.size<=j):=Kh (fun j hj=>by
    rcases hj with hj|hj
    ·exact f6.out j hj
    ·exact Nat.le_trans (Nat.le_trans H9.out.base d7.out.size) (h5.lt j hj).1)
   refine hK.out _ _ ⟨trivial,fun _=>C8.out⟩ ?_;clear hK K C5 h5 d1 H3 f7
   try simp only[Act.put,sPa,sPb,sPc]
   refine oneG (i:=5) (by kernel_rfl) rfl (fun K hK=>?_);go_simp;refine hK.out _ _ ⟨trivial,fun _=>C8.out⟩ ?_;clear hK K
   try simp only[Act.put,sPa,sPb,sPc]
   refine oneG (i:=6) (by kernel_rfl) rfl (fun K hK=>?_);go_simp;have d0:=heap_alloc_new w8 (.cells #[Value.slice s8 pl c8] 28);have a2:=Ga w8 (.cells #[Value.slice s8 pl c8] 28) none;obtain⟨R9,i6⟩:∃ R9,R9=w8.heap.size:=⟨_,rfl⟩;obtain⟨w9,c2⟩:∃ w9,w9=w8.alloc (.cells #[Value.slice s8 pl c8] 28):=⟨_,rfl⟩;rw[<- c2]at d0 a2 ⊢;rw[<- i6]at d0 ⊢;have b8:=Kh (g3.out.grow a2).rebase;have b6:=Kh (b7.out.kept (g3.out.mem.keep a2) a2.size);have C9:Hid (w9.cell? ⟨od,0,none⟩=some (.slice sp k cp)/\w9.cell? ⟨R,0,none⟩=some (.slice ea pl ec)):=Kh ⟨xE C8.out.1 a2,xE C8.out.2 a2⟩;refine hK.out _ _ ⟨trivial,fun _=>C9.out⟩ ?_;clear hK K C8 a2 c2 i6
   try simp only[Act.put,sPa,sPb,sPc]
   have a7:=b8.out.own (r:=⟨w4.heap.size,28,.slice sp k cp,k,svs,1⟩) (by simp);have g4:=Nat.le_trans b8.out.base b8.out.wk;refine oneG (i:=7) (by kernel_rfl) rfl (fun K hK=>?_);refine uX rfl (.tmp 29) (.tmp 34) 22 rfl elem_pat1 w4.heap.size (.slice sp k cp) k svs rfl a7 [.slice s8 pl c8] R9 rfl (0,0) rfl d0 ?z1 ?z2 ?z3 g4 ?_
   case z1=>intro v hv;simp only[List.mem_cons,List.not_mem_nil,or_false]at hv;subst hv;rfl
   case z2=>unfold maxLen;omega
   case z3=>show (k+1) * 24<=140737488355328;omega
   intro sN cN wM h7 i3 i0;have c0:=Kh (b8.out.appAt (j:=0) rfl h7 i3 i0);have i5:=zH c0.out.box 0 (by simp);simp only[List.getElem_toArray,List.getElem_cons_zero]at i5;have l2:=zE c0.out.box 0;have k8:=zK c0.out.box;refine hK.out _ _ ⟨trivial,fun h=>by simp at h⟩ ?_;clear hK K C9 h7 i3 i0 d0 a7 g4
   try simp only[Act.put,sPa,sPb,sPc]
   refine oneG (i:=8) (by kernel_rfl) rfl (fun K hK=>?_);go_simp;refine hK.out _ _ ⟨trivial,fun h=>by simp at h⟩ ?_;clear hK K
   try simp only[Act.put,sPa,sPb,sPc]
   refine oneG (i:=9) (by kernel_rfl) rfl (fun K hK=>?_);go_simp;have H5:=Kh (c0.out.set 0 (.slice sN (k+1) cN));obtain⟨wZ,g7⟩:∃ wZ,wZ=wM.setCell ⟨od,0,none⟩ (.slice sN (k+1) cN):=⟨_,rfl⟩;rw[<- g7]at H5 ⊢;have f8:=Kh (b6.out.kept H5.out.kept H5.out.wk);refine hK.out _ _ ⟨trivial,fun h=>by simp at h⟩ ?_;clear hK K g7
   try simp only[Act.put,sPa,sPb,sPc]
   refine rH (by kernel_rfl) ?_ _;refine NoPanic.normal ?_;clear i5 l2 k8 c0 b8 b6 b7 g3;go_wp2;go_roundg (np - (k+1))
   case measure=>have:=g2.out;omega
   case rel=>exact⟨k+1,sN,cN,_,_,by have:=g2.out;omega,by go_num,H5.out.rebase,f8.out,f5.out⟩
  ·have i1:k=np:=by have:=g2.out;omega
   have l1:¬ (k:Int)<np:=(by omega);have i8:Hid (ps.take k=ps):=Kh (List.take_of_length_le (by rw[<- H6.out];omega));have j4:=Kh i1;have b3:=H9.out.box;obtain⟨x0,x1,x2⟩:=zM b3;have a0:=zB b9.out a8 (by simp);have f40:=zE a0 0;have f41:=zE a0 1;have f42:=zE a0 2;have n4:=zK a0;obtain⟨v0,v1,v2⟩:=zM a0;have j0:=Kh a0;have n1:P≠od:=(by have:=j1.out;have:=j2.out;omega);clear i1 b3;go_wp2;have g1:=zD (zD (zC wr ⟨P,0,none⟩ (.slice sp k cp)) (zC _ ⟨P,1,none⟩ (.slice sa m cap))) (zC _ ⟨P,2,none⟩ (.int .i64 (q:Int)));have z1:=heap_setCell_same _ P 2 _ _ (.int .i64 (q:Int)) (heap_setCell_same _ P 1 _ _ (.slice sa m cap) (heap_setCell_same wr P 0 _ _ (.slice sp k cp) a0));obtain⟨w9,c2⟩:∃ w9,w9=((wr.setCell ⟨P,0,none⟩ (.slice sp k cp)).setCell ⟨P,1,none⟩ (.slice sa m cap)).setCell ⟨P,2,none⟩ (.int .i64 (q:Int)):=⟨_,rfl⟩;rw[<- c2]at g1 z1 ⊢;simp only[Array.setIfInBounds,List.size_toArray,List.length_cons,List.length_nil]at z1;obtain⟨q0,q1,q2⟩:=zM z1;refine bodyPost_ret (v:=.agg #[.slice sp k cp,.slice sa m cap,.int .i64 (q:Int)]) (by simp[results,Try.results61,go_sem,q0,q1,q2,Result.andThen]) rfl ?_;have l5:vZ X wr w9:=vZ.of_grown H9.out.mem.lt g1 (fun j e hx=>by have e:P=j:=Oj e;have:=f6.out j hx;have:=j1.out;have:=b5.out;omega);have a6:=f9.out.kept l5 g1.size;rw[i8.out]at a6;have e0:∀ j,X j->j<w9.heap.size:=fun j hj=>Nat.lt_of_lt_of_le (H9.out.mem.lt j hj) g1.size;have ho:=H9.out.own (r:=⟨w4.heap.size,28,.slice sp k cp,k,svs,1⟩) (by simp);have a7:=ho.kept g1 (.inr (zQ ho j0.out a5));have hc:=zP j3.out a8;have i4:=hc.kept g1 (.inr (zQ hc j0.out e3));have k5:svs.length=k:=by have:=f9.out.1;rw[i8.out,<- H6.out]at this;have:=j4.out;omega
   have j8:=l6.out;have k3:=b5.out;refine⟨_,⟨ps,cs,(q:Int)⟩,rfl,fun w2' H1=>?_,rfl,?_,by show (0:Int)<=q;omega,d9.out.hi,d9.out.dec,by have:=d9.out.few;simp at this;omega,?_⟩
   ·have l4:vZ X w9 w2':=vZ.but e0 H1 (fun j (e:j<w.heap.size) hx=>by have:=f6.out j hx;omega)
    have k6:=(a6.kept l4 H1.size).rowsT;have k9:=oC a7 H1 (fun j e (hj:j<w.heap.size)=>by have:w4.heap.size<=j:=(a7.lt j e).1;omega);have a4:=oC i4 H1 (fun j e (hj:j<w.heap.size)=>by have:w2.heap.size<=j:=(i4.lt j e).1;omega);refine⟨_,_,rfl,⟨svs,(RowT.of_owns k9).row,?_,?_⟩,?_⟩
    ·show svs.length=ps.length
     rw[k5,j4.out,H6.out]
    ·intro i h1 h2
     refine⟨(k6.2 i h1 h2).row,fun j hj=>?_⟩;have i7:i<ps.length:=h2;obtain⟨pb,po,pcap,e,l3,f2,a4,h9⟩:=HP.out.at_ (by omega);obtain⟨ea,ec,c1,H2,c7⟩:=h9 i i7;have e5:ps.getD i []=ps[i]:=zG i7;rw[e5]at c7;exact c7 j hj
    ·rw[HM.out]at a4
     have e9:=chos_of_owns a4 (Nat.le_refl w2'.heap.size);rw[<- HM.out]at e9;exact e9
   ·show vD ps.length cs cs.length
    rw[<- H6.out];exact d9.out.ok
   ·exact zA (zA d8.out a8 (by simp)) g1 (fun j e=>by have e:P=j:=Oj e;have:=m4.out;omega)
theorem fillL_stay {l:List Nat}{np j:Nat}(h:l.length=np)(hj:j<np)(h0:l.getD j 0=0):pQ l np (j+1)=pQ l np j:=by
 rw[<- jB h hj,h0];refine List.ext_getElem (by simp) fun i h1 h2=>?_;rw[List.getElem_set]
 split
 ·rename_i e;subst e
  have hl:(l.take j).length=j:=by rw[List.length_take];omega
  have:(pQ l np j)[j]?=some 0:=by
   unfold pQ;rw[List.getElem?_append_right (by omega),hl,Nat.sub_self];rw[List.getElem?_replicate];rw[if_pos (by omega)]
  rw[List.getElem?_eq_getElem (by simpa using h2)]at this;exact(Oj this).symm
 ·rfl
theorem qBZ {base:Nat}{w:World}{g cap n:Nat}{l:List ClaV}(h:w.ownsRow base 99 3 (.slice (some ⟨g,0,none⟩) n cap) n (tX l)){i:Nat}(hi:i<l.length):w.cell? ⟨g,i * 3+1,none⟩=some (.int .i64 (l.getD i default).yes)/\w.cell? ⟨g,i * 3+2,none⟩=some (.int .i64 (l.getD i default).no)/\w.frozen? ⟨g,i * 3+1,none⟩=false/\w.frozen? ⟨g,i * 3+2,none⟩=false:=by
 have h0:∀ g j,(⟨g,0,none⟩:Addr).add j=⟨g,j,none⟩:=fun g j=>by unfold Addr.add;split<;>simp_all
 have c1:=h.cells (g:=g) rfl _ _ (pR l i hi).2.1;have c2:=h.cells (g:=g) rfl _ _ (pR l i hi).2.2;rw[h0]at c1 c2;rcases h.2 with ⟨hv,_⟩|⟨g',cap',cur,hv,hb,hg,hnc,hcm,hcs,htake⟩
 ·simp at hv
 ·simp only[Value.slice.injEq,Option.some.injEq,Addr.mk.injEq]at hv
  obtain⟨⟨rfl,_⟩,_,rfl⟩:=hv;rw[zG hi];exact⟨c1,c2,frozen_of_row w g _ _ _ hg,frozen_of_row w g _ _ _ hg⟩
theorem cU {w:World}{base e n sc:Nat}{sa:Option Addr}{xs:List Value}(h:w.ownsRow base e 3 (.slice sa n sc) n xs)(hn:0<n):∃ kb,sa=some ⟨kb,0,none⟩/\n<=sc/\sc<=maxLen:=by
 rcases h.2 with ⟨h',h0⟩|⟨g,cap,cur,h1,hb,hg,hnc,hcm,_⟩
 ·omega
 ·simp only[Value.slice.injEq]at h1
  obtain⟨rfl,-,rfl⟩:=h1;exact⟨g,rfl,hnc,hcm⟩
def qHA (w:World)(ds:List DfaV)(np:Nat)(L:List (List Nat))(e:Ending)(w':World):Prop :=
 ∃ l sa sc,e=.returned (.slice sa (l:List ClaV).length sc)/\w'.ownsRow w.heap.size 99 3 (.slice sa l.length sc) l.length (tX l)/\ClsI (fun s=>mtsT ds np (L.getD s [])) (fun s=>accT ds (L.getD s []) np) L.length L.length l/\w.grownBy w' none
structure ClS (w:World)(mb np:Nat)(M:Nat->List Bool)(A:Nat->Bool)(s t:Nat)(sa:Option Addr)(sc:Nat)(l:List ClaV)(wr:World):Prop where
 own:wr.ownsRow w.heap.size 99 3 (.slice sa l.length sc) l.length (tX l)
 map:∃ u c,u<=t/\MapK 9 (fun m:List Bool=>m.length=np) (fun m=>.string (mT m)) wr mb u c (numC l)
 cls:ClsI M A s t l
 gr:w.grownBy wr none
 mlo:w.heap.size<=mb
section
variable {w wr w':World} {mb np s t:Nat} {M:Nat->List Bool} {A:Nat->Bool} {sa:Option Addr} {sc:Nat} {l:List ClaV}
theorem ClS.grow (h:ClS w mb np M A s t sa sc l wr)(hg:wr.grownBy w' none):ClS w mb np M A s t sa sc l w':=by
 obtain⟨u,c,hu,hm⟩:=h.map;exact⟨zP h.own hg,⟨u,c,hu,hm.kept hg (by simp)⟩,h.cls,zA h.gr hg (by simp),h.mlo⟩
theorem ClS.bytes (h:ClS w mb np M A s t sa sc l wr){tb:Nat}{xs:List Value}(ha:Arr wr tb 5 xs)(hlo:w.heap.size<=tb)(hg:wr.grownBy w' (some tb)):ClS w mb np M A s t sa sc l w':=by
 obtain⟨u,c,hu,hm⟩:=h.map;obtain⟨cs,r,hb,_⟩:=id ha;have h1:(Value.slice sa l.length sc).ownBlock≠some tb:=fun e=>zQ h.own hb (by decide) e;refine⟨h.own.kept hg (.inr (fun e=>h1 e)),⟨u,c,hu,hm.kept hg (fun e=>?_)⟩,h.cls,zA h.gr hg (fun k e=>by have e:tb=k:=Oj e;omega),h.mlo⟩;have e:tb=mb:=Oj e;obtain⟨es,clock,h0⟩:=hm.obj;rw[<- e,hb]at h0;simp at h0
end
theorem prodClasses_any (Bd:Nat)(w:World)(o k:Nat)(pv:Value)(ds:List DfaV)(L:List (List Nat))(nxl fr bl:List Nat)(sb sc nb nc fb fc bb bc np:Nat)(hBd:Bd<=w.heap.size)(h:ProdV w o k pv L nxl fr bl sb sc nb nc fb fc bb bc)(hd:DsIn Bd w pv ds)(hok:OkT ds k)(hnp:ds.length=np+1)(hin:∀ s,s<L.length->InT ds (L.getD s []))(hl:ds.length<=400)(hL:L.length<=4000):Calls Try.prog 59 #[.pointer (some ⟨o,0,none⟩),.int .i64 (np:Int)] w (qHA w ds np L):=by
 have a2:Hid (∀ (W:World) (s i:Nat),w.grownBy W none->s<L.length->i<ds.length->Calls Try.prog 69 #[.pointer (some ⟨o,0,none⟩),.int .i64 (s:Int),.int .i64 (i:Int)] W fun e w'=>e=.returned (.bool (accT ds (L.getD s []) i))/\W.grownBy w' none):=Kh (fun W s i hW hs hi=>paccepts_any Bd W o k pv ds L nxl fr bl sb sc nb nc fb fc bb bc s i (h.grow hW) (hd.kept hW (by simp)) hok hs hi (hin s hs) hl hL);obtain⟨M,hM⟩:∃ M:Nat->List Bool,M=fun s=>mtsT ds np (L.getD s []):=⟨_,rfl⟩;obtain⟨A,hA⟩:∃ A:Nat->Bool,A=fun s=>accT ds (L.getD s []) np:=⟨_,rfl⟩;have a1:Hid (∀ s,(M s).length=np):=Kh (fun s=>by rw[hM];exact oH _ _ _);have j6:Hid (∀ s i,i<np->accT ds (L.getD s []) i=(M s).getD i false):=Kh (fun s i hi=>by rw[hM];exact(hJ hi).symm);have f9:Hid (∀ s,accT ds (L.getD s []) np=A s):=Kh (fun s=>by rw[hA]);have i1:=Kh (key_mT (n:=np) (by omega));have f5:Hid (qHA w ds np L=fun e w'=>∃ l sa sc,e=.returned (.slice sa (l:List ClaV).length sc)/\w'.ownsRow w.heap.size 99 3 (.slice sa l.length sc) l.length (tX l)/\ClsI M A L.length L.length l/\w.grownBy w' none):=Kh (by rw[hM,hA];rfl);rw[f5.out];obtain⟨x0,x1,x2,x3,x4,x5⟩:=h.cells;have f0:=h.caps;obtain⟨m,hm⟩:∃ m,m=L.length:=⟨_,rfl⟩;have i9:np<=400:=by omega
 have f8:Hid (np<ds.length):=Kh (by omega);rw[<- hm]at x2 f0 a2 hL ⊢;have k2:sc<=9223372036854775807:=by have:=f0.2.1;unfold maxLen at this;omega
 have j1:=@run_makeMap Try.prog;have j5:Hid (∀ W:World,(Instr.makeSlice 106 (.int .i64 (np:Int)) (.int .i64 (np:Int))).run Try.prog W=.ok (.slice (some ⟨W.heap.size,0,none⟩) np np) (W.alloc (.cells (madeCells #[.int .u8 0] np) 5))):=Kh (fun W=>run_make_row' 106 5 (.int .u8 0) 1 Try.underlying106 (by kernel_rfl) rfl .i64 .i64 np (by omega) (by omega) W);clear h hd hok hM hA hin f0 hm x0 x1 x3 x4 x5 hnp hl;go_enter Try.func59,Try.ntmps59;go_upto_region 3 with fail;obtain⟨mb,g2⟩:∃ b,b=w.heap.size:=⟨_,rfl⟩;obtain⟨w1,b9⟩:∃ w1,w1=w.alloc (.map #[] 0):=⟨_,rfl⟩;have H2:=MapK.made 9 (fun m:List Bool=>m.length=np) (fun m=>.string (mT m)) w;have a6:=Ga w (.map #[] 0) none;rw[<- b9]at H2 a6 ⊢;rw[<- g2]at H2 ⊢;have g9:Hid (ClS w mb np M A 0 0 none 0 [] w1):=Kh ⟨World.ownsRow_nil _ _ _ _,⟨0,0,Nat.le_refl _,H2⟩,ClsI.nil M A,a6,by omega⟩;have x2:=xE x2 a6;clear H2 b9 g2 a6 j1;go_wp2
 go_loopg [5,7,8,9,10,11,12,19] m (fun gh v5 v7 v8 v9 v10 v11 v12 v19 wr=>∃ (s:Nat) (sa:Option Addr) (sd:Nat) (l:List ClaV),gh+s=m/\v19=.int .i64 s/\v5=.slice sa l.length sd/\ClS w mb np M A s s sa sd l wr)
 case atStart=>exact⟨0,none,0,[],rfl,rfl,rfl,g9.out⟩
 case round =>
  clear g9;obtain⟨s,sa,sd,l,g5,rfl,rfl,H6⟩:=hrel;have H1:=Kh g5;have h7:=Kh H6;clear g5 x2 w1;by_cases hs:s<m
  ·have i7:(s:Int)<m:=by omega
   have g1:=j5.out wr;obtain⟨tb,d9⟩:∃ b,b=wr.heap.size:=⟨_,rfl⟩;obtain⟨w1,b9⟩:∃ w1,w1=wr.alloc (.cells (madeCells #[.int .u8 0] np) 5):=⟨_,rfl⟩;have a6:=Ga wr (.cells (madeCells #[.int .u8 0] np) 5) none;have d0:=Arr.new wr 5 (madeCells #[.int .u8 0] np);rw[show (madeCells #[.int .u8 0] np).toList=List.replicate np (.int .u8 0) by have:=kU (z:=.int .u8 0) rfl np;rw[Nat.mul_one]at this;exact this]at d0;rw[<- b9,<- d9]at g1;rw[<- b9]at a6 d0;rw[<- d9]at d0;have j3:w.heap.size<=tb:=by have:=H6.gr.size;omega
   have g8:=Kh (H6.grow a6);have i4:=Kh d0;clear H6 a6 d0 b9 d9 h7;go_wp2;clear g1
   go_loopg [9,26] np (fun gh v9 v26 wr=>∃ i:Nat,gh+i=np/\v26=.int .i64 i/\Arr wr tb 5 (u8s (pQ (mN (M s)) np i))/\ClS w mb np M A s s sa sd l wr)
   case atStart=>exact⟨0,rfl,rfl,by rw[jU,u8s_replicate];exact i4.out,g8.out⟩
   case round =>
    clear i4 g8 w1;obtain⟨i,g6,rfl,c0,H6⟩:=hrel;have c4:=Kh g6;clear g6;by_cases hi:i<np
    ·have j4:(i:Int)<np:=by omega
     have hg:=H6.gr;have h7:=Kh H6;have i3:=Kh c0;have H3:=a2.out wr s i hg hs (by have:=f8.out;omega);rw[j6.out s i hi]at H3;have b8:Hid ((mN (M s)).getD i 0=if (M s).getD i false=true then 1 else 0):=Kh (mN_get (by rw[a1.out];exact hi));obtain⟨b,hb⟩:∃ b,b=(M s).getD i false:=⟨_,rfl⟩;rw[<- hb]at H3 b8;have a7:=Kh H3;clear H3 hb hg c0 H6;go_wp2_with fail;refine a7.out.mono ?_;rintro e w2 ⟨rfl,H9⟩;have c5:=Kh (i3.out.kept H9 (by simp));have a0:=Kh (h7.out.grow H9);clear H9 a7 i3 h7;cases b with
     | false =>
      have HE:=Kh (fillL_stay (l:=mN (M s)) (np:=np) (j:=i) (by rw[rA,a1.out]) hi b8.out);go_wp2;go_roundg (np - (i+1))
      case measure=>have:=c4.out;omega
      case rel=>exact⟨i+1,by have:=c4.out;omega,by go_num,by rw[HE.out];exact c5.out,a0.out⟩
     | true =>
      have HE:=Kh (jB (l:=mN (M s)) (np:=np) (j:=i) (by rw[rA,a1.out]) hi);rw[b8.out]at HE;have e8:(pQ (mN (M s)) np i).length=np:=qT (by rw[rA,a1.out]) (by omega);have c1:=bO c5.out i (by rw[e8];exact hi);have f1:=c5.out.frozen i;have a8:=c5.out.set i (by rw[dM,e8];exact hi) (.int .u8 1);rw[show (u8s (pQ (mN (M s)) np i)).set i (.int .u8 1)=u8s (pQ (mN (M s)) np (i+1)) by rw[<- HE.out];exact gH _ i 1]at a8;have f4:=Kh a8;have H7:=Kh (a0.out.bytes c5.out j3 (zC w2 ⟨tb,i,none⟩ (.int .u8 1)));have j9:=c5.out.lt;clear a8 e8;go_wp2;go_roundg (np - (i+1))
      case measure=>have:=c4.out;omega
      case rel=>exact⟨i+1,by have:=c4.out;omega,by go_num,f4.out,H7.out⟩
    ·have hin:i=np:=by have:=c4.out;omega
     have j4:¬ (i:Int)<np:=(by omega);rw[fW (by rw[rA,a1.out]) hin]at c0;have b4:=c0;have d6:∀ W:World,wr.grownBy W none->(convert 106 9 (.slice (some ⟨tb,0,none⟩) np np)).run Try.prog W=.ok (.string (mT (M s))) W:=fun W hW=>rK 106 5 Try.underlying106 Try.underlying5 9 Try.underlying9 np np (by rw[aZ,rA,a1.out]) (c0.kept hW (by simp));obtain⟨U,hU⟩:∃ U,U=mT (M s):=⟨_,rfl⟩;rw[<- hU]at d6;have c7:=d6 wr (zL _ _);have k0:=Kh d6;obtain⟨u,c,hu,b1⟩:=H6.map;have H4:=b1.lookup i1.out (x:=M s) (a1.out s);have HU:=Kh hU;have f3:=Kh hu;have H5:=Kh b1;have h7:=Kh H6;have HA:=Kh (f9.out s)
     have d4:Hid (∀ W:World,wr.grownBy W none->Calls Try.prog 69 #[.pointer (some ⟨o,0,none⟩),.int .i64 (s:Int),.int .i64 (np:Int)] W fun e w'=>e=.returned (.bool (A s))/\W.grownBy w' none):=Kh (fun W hW=>by
      have:=a2.out W s np (zA H6.gr hW (by simp)) hs f8.out
      rwa [f9.out s]at this)
     clear hU hu b1 d6 c0 hin c4 H6 HA;by_cases hmem:M s∈l.map ClaV.m
     ·obtain⟨q,hq⟩:∃ q,q=(l.map ClaV.m).idxOf (M s):=⟨_,rfl⟩
      have H0:q<l.length:=by have:=List.idxOf_lt_length_of_mem hmem;rw[<- hq,List.length_map]at this;exact this
      have g0:(l.getD q default).m=M s:=by
       rw[zG H0];have h1:=List.getElem_idxOf (x:=M s) (xs:=l.map ClaV.m) (by rw[<- hq,List.length_map];exact H0);simp only[<- hq,List.getElem_map]at h1;exact h1
      have e3:Sem.run Try.prog (Instr.lookup 129 (.map (some mb)) (.string U) true) wr=.ok (.tuple #[.int .i64 (q:Int),.bool true]) wr:=by
       rw[numC_of_mem hmem,<- hq]at H4;rw[HU.out];exact H4
      have a0:Hid (ClS w mb np M A s (s+1) sa sd l wr):=Kh ⟨h7.out.own,⟨u,c,Nat.le_succ_of_le f3.out,H5.out⟩,h7.out.cls.old hmem,h7.out.gr,h7.out.mlo⟩;have e2:l.length<=4000:=by have:=h7.out.cls.len_le;omega
      have c2:=Kh H0;have d7:=Kh g0;clear H4 hq g0 hmem H5 h7 H0;obtain⟨nl,a9⟩:∃ n,n=l.length:=⟨_,rfl⟩;have h6:=Kh a9;rw[<- a9]at e2 c2 ⊢;have H0:=c2.out;clear a9;obtain⟨ab,b5⟩:∃ b,b=A s:=⟨_,rfl⟩;rw[<- b5]at d4;have a3:=Kh b5;clear b5;go_wp2_with fail;clear e3 c7;refine(d4.out _ (zL _ _)).mono ?_;rintro e w2 ⟨rfl,H9⟩;have h8:=a0.out.grow H9;have h2:=h8.own;rw[<- h6.out]at h2;obtain⟨gb,rfl,f2,c8⟩:=cU h2 (by omega);have j0:sd<=9223372036854775807:=by unfold maxLen at c8;omega
      obtain⟨cy,cn,fy,fn⟩:=qBZ h2 (i:=q) (by rw[<- h6.out];exact H0);have f6:=Kh (eH l q (s:Int) (by rw[<- h6.out];exact H0));have f7:=Kh (aP l q (s:Int) (by rw[<- h6.out];exact H0));have b6:=Kh (h8.cls.put (by rw[<- h6.out];exact H0) d7.out);obtain⟨y,hy⟩:∃ y,y=(l.getD q default).yes:=⟨_,rfl⟩;obtain⟨z,hz⟩:∃ z,z=(l.getD q default).no:=⟨_,rfl⟩;rw[<- hy]at cy;rw[<- hz]at cn;have HY:=Kh hy;have HZ:=Kh hz;have H7:=Kh h8;have h5:=Kh h2;have e5:gb<w2.heap.size:=(h2.lt gb rfl).2;have e4:w.heap.size<=gb:=(h2.lt gb rfl).1;have i8:(q:Int)<nl:=(by omega);clear H9 h8 h2 hy hz f2 c8 a0
      have h9:Hid (∀ (x:ClaV) (W:World),putC (l.getD q default) (A s) s=x->(x.m=(l.getD q default).m)->W.ownsRow w.heap.size 99 3 (.slice (some ⟨gb,0,none⟩) nl sd) nl (tX (l.set q x))->w2.grownBy W (some gb)->ClS w mb np M A (s+1) (s+1) (some ⟨gb,0,none⟩) sd (l.set q x) W):=Kh (fun x W hx hxm ho hg=>by
       obtain⟨u3,c3,d8,c6⟩:=H7.out.map;refine⟨by rw[List.length_set,<- h6.out];exact ho,⟨u3,c3,d8,?_⟩,by have:=b6.out;rw[hx]at this;exact this,zA H7.out.gr hg (fun k e=>by have e:gb=k:=Oj e;omega),H7.out.mlo⟩;rw[qEA (by rw[<- h6.out];exact H0) hxm]
       exact c6.kept hg (fun e=>yD (es:=#[]) (clock:=0) H7.out.own c6.obj (by rw[<- e];rfl)))
      have h4:Hid (l.set q (l.getD q default)=l):=Kh (by
       rw[zG (by rw[<- h6.out];exact H0)]
       exact List.set_getElem_self _)
      cases ab with
      | true =>
       by_cases hy0:y<0
       ·have h0:=sY (i:=q * 3+1) h5.out (.int .i64 (s:Int))
        rw[f6.out]at h0;have h3:=Kh (h9.out ⟨(l.getD q default).m,(s:Int),(l.getD q default).no⟩ _ (by rw[putC,if_pos a3.out.symm,if_pos (by rw[<- HY.out];exact hy0)]) rfl h0 (zC w2 ⟨gb,q * 3+1,none⟩ _));clear h0;go_wp2;go_roundg (m - (s+1))
        case measure=>have:=H1.out;omega
        case rel=>exact⟨s+1,_,_,l.set q ⟨(l.getD q default).m,(s:Int),(l.getD q default).no⟩,by have:=H1.out;omega,by go_num,by rw[List.length_set,<- h6.out],h3.out⟩
       ·have h3:=Kh (h9.out (l.getD q default) w2 (by rw[putC,if_pos a3.out.symm,if_neg (by rw[<- HY.out];exact hy0)]) rfl (by rw[h4.out];exact h5.out) (zL _ _))
        rw[h4.out]at h3;go_wp2;go_roundg (m - (s+1))
        case measure=>have:=H1.out;omega
        case rel=>exact⟨s+1,_,_,l,by have:=H1.out;omega,by go_num,by rw[<- h6.out],h3.out⟩
      | false =>
       by_cases hz0:z<0
       ·have h0:=sY (i:=q * 3+2) h5.out (.int .i64 (s:Int))
        rw[f7.out]at h0;have h3:=Kh (h9.out ⟨(l.getD q default).m,(l.getD q default).yes,(s:Int)⟩ _ (by rw[putC,<- a3.out,if_neg (by simp),if_pos (by rw[<- HZ.out];exact hz0)]) rfl h0 (zC w2 ⟨gb,q * 3+2,none⟩ _));clear h0;go_wp2;go_roundg (m - (s+1))
        case measure=>have:=H1.out;omega
        case rel=>exact⟨s+1,_,_,l.set q ⟨(l.getD q default).m,(l.getD q default).yes,(s:Int)⟩,by have:=H1.out;omega,by go_num,by rw[List.length_set,<- h6.out],h3.out⟩
       ·have h3:=Kh (h9.out (l.getD q default) w2 (by rw[putC,<- a3.out,if_neg (by simp),if_neg (by rw[<- HZ.out];exact hz0)]) rfl (by rw[h4.out];exact h5.out) (zL _ _))
        rw[h4.out]at h3;go_wp2;go_roundg (m - (s+1))
        case measure=>have:=H1.out;omega
        case rel=>exact⟨s+1,_,_,l,by have:=H1.out;omega,by go_num,by rw[<- h6.out],h3.out⟩
     ·have e3:Sem.run Try.prog (Instr.lookup 129 (.map (some mb)) (.string U) true) wr=.ok (.tuple #[.int .i64 0,.bool false]) wr:=by
       rw[numC_not hmem]at H4;rw[HU.out];exact H4
      have d2:=Kh hmem;have e1:l.length<=s:=h7.out.cls.len_le;clear H4 hmem;obtain⟨n0,e0⟩:∃ n,n=l.length:=⟨_,rfl⟩;have b7:=Kh e0;rw[<- e0]at e1 ⊢;clear e0;go_upto_region 17 with (first|(at_mapUpdate;refine pI i1.out rfl _ _ _ rfl mb u c (numC l) (M s) n0 rfl ?k1 rfl H5.out (by have:=f3.out;unfold maxLen;omega) (a1.out s) (by omega) ?_;(case k1=>(show _=Value.string (mT (M s));rw[<- HU.out];rfl));intro w8 g4 d5)|fail)
      have b0:(Value.slice sa n0 sd).ownBlock≠some mb:=by rw[b7.out];exact yD (es:=#[]) (clock:=0) h7.out.own H5.out.obj
      have a5:w8.ownsRow w.heap.size 99 3 (.slice sa n0 sd) n0 (tX l):=by
       have:=h7.out.own.kept d5 (.inr (by rw[<- b7.out];exact fun e=>b0 e))
       rwa [<- b7.out]at this
      have g3:MapK 9 (fun m:List Bool=>m.length=np) (fun m=>.string (mT m)) w8 mb (u+1) (if (numC l (M s)).isSome=true then c else c+1) (numC (l++[⟨M s,-1,-1⟩])):=by
       rw[<- numC_snoc (c:=⟨M s,-1,-1⟩) d2.out,<- b7.out];exact g4
      have e7:=zA h7.out.gr d5 (fun k e=>by have e:mb=k:=Oj e;have:=h7.out.mlo;omega);have c9:=b4.kept d5 (fun e=>by have e:mb=tb:=Oj e;obtain⟨es,cl,hb⟩:=H5.out.obj;obtain⟨cs,r,g7,_⟩:=id b4;rw[<- e,hb]at g7;simp at g7)
      have e9:(convert 106 9 (.slice (some ⟨tb,0,none⟩) np np)).run Try.prog w8=.ok (.string U) w8:=by
       rw[HU.out];exact rK 106 5 Try.underlying106 Try.underlying5 9 Try.underlying9 np np (by rw[aZ,rA,a1.out]) c9
      have H8:=Kh a5;have i0:=Kh g3;have i2:=Kh e7;have d1:=Kh b0;have i5:=e7.size;clear g4 d5 a5 g3 e7 c7 e3 c9 b0 b4;go_upto_region 18 with (first|(at_builtin;refine vI rfl _ _ _ rfl aN w.heap.size (.slice sa n0 sd) n0 (tX l) rfl H8.out [.string U,.int .i64 (-1),.int .i64 (-1)] rfl rfl ?z1 ?z2 ?z3 ?z4 ?_;(case z1=>(intro v hv;simp only[List.mem_cons,List.not_mem_nil,or_false]at hv;rcases hv with rfl|rfl|rfl<;>rfl));(case z2=>(unfold maxLen;omega));(case z3=>(show (n0+1) * 32<=140737488355328;omega));(case z4=>exact i5);intro sv cv wM a4 e6 j2)|fail)
      obtain⟨l9,b3⟩:∃ l9,l9=l++[(⟨M s,-1,-1⟩:ClaV)]:=⟨_,rfl⟩;have j7:=Kh b3;have b2:l9.length=n0+1:=by rw[b3,List.length_append,b7.out];rfl
      have a0:Hid (ClS w mb np M A s (s+1) sv cv l9 wM):=Kh ⟨by
       rw[b2,b3,jW,show cval ⟨M s,-1,-1⟩=[.string U,.int .i64 (-1),.int .i64 (-1)] by rw[HU.out];rfl]
       exact a4,⟨u+1,_,by have:=f3.out;omega,by rw[b3];exact i0.out.kept e6 d1.out⟩,by rw[b3];exact h7.out.cls.new d2.out,zA i2.out e6 (fun k e=>(H8.out.lt k e).1),h7.out.mlo⟩
      have c2:Hid (n0<l9.length):=Kh (by omega)
      have d7:Hid ((l9.getD n0 default).m=M s):=Kh (by
       rw[b3,List.getD_eq_getElem?_getD,b7.out];simp)
      have j8:=Kh a0.out.gr;clear a4 e6 j2 e9 b3 H8 i0 i2 d1 h7 H5;rw[show (n0+1:Nat)=l9.length from b2.symm];have e2:l9.length<=4000:=by omega
      obtain⟨q,hq⟩:∃ q,q=n0:=⟨_,rfl⟩;rw[<- hq]at c2 d7 ⊢;clear b2 hq b7 j7;obtain⟨nl,a9⟩:∃ n,n=l9.length:=⟨_,rfl⟩;have h6:=Kh a9;rw[<- a9]at e2 c2 ⊢;have H0:=c2.out;clear a9;obtain⟨ab,b5⟩:∃ b,b=A s:=⟨_,rfl⟩
      have d3:Hid (∀ W:World,wM.grownBy W none->Calls Try.prog 69 #[.pointer (some ⟨o,0,none⟩),.int .i64 (s:Int),.int .i64 (np:Int)] W fun e w'=>e=.returned (.bool ab)/\W.grownBy w' none):=Kh (fun W hW=>by
       have:=a2.out W s np (zA j8.out hW (by simp)) hs f8.out
       rwa [f9.out s,<- b5]at this)
      have a3:=Kh b5;clear b5;go_wp2_with fail;refine(d3.out _ (zL _ _)).mono ?_;rintro e w2 ⟨rfl,H9⟩;have h8:=a0.out.grow H9;have h2:=h8.own;rw[<- h6.out]at h2;obtain⟨gb,rfl,f2,c8⟩:=cU h2 (by omega);have j0:cv<=9223372036854775807:=by unfold maxLen at c8;omega
      obtain⟨cy,cn,fy,fn⟩:=qBZ h2 (i:=q) (by rw[<- h6.out];exact H0);have f6:=Kh (eH l9 q (s:Int) (by rw[<- h6.out];exact H0));have f7:=Kh (aP l9 q (s:Int) (by rw[<- h6.out];exact H0));have b6:=Kh (h8.cls.put (by rw[<- h6.out];exact H0) d7.out);obtain⟨y,hy⟩:∃ y,y=(l9.getD q default).yes:=⟨_,rfl⟩;obtain⟨z,hz⟩:∃ z,z=(l9.getD q default).no:=⟨_,rfl⟩;rw[<- hy]at cy;rw[<- hz]at cn;have HY:=Kh hy;have HZ:=Kh hz;have H7:=Kh h8;have h5:=Kh h2;have e5:gb<w2.heap.size:=(h2.lt gb rfl).2;have e4:w.heap.size<=gb:=(h2.lt gb rfl).1;have i8:(q:Int)<nl:=(by omega);clear H9 h8 h2 hy hz f2 c8 a0
      have h9:Hid (∀ (x:ClaV) (W:World),putC (l9.getD q default) (A s) s=x->(x.m=(l9.getD q default).m)->W.ownsRow w.heap.size 99 3 (.slice (some ⟨gb,0,none⟩) nl cv) nl (tX (l9.set q x))->w2.grownBy W (some gb)->ClS w mb np M A (s+1) (s+1) (some ⟨gb,0,none⟩) cv (l9.set q x) W):=Kh (fun x W hx hxm ho hg=>by
       obtain⟨u3,c3,d8,c6⟩:=H7.out.map;refine⟨by rw[List.length_set,<- h6.out];exact ho,⟨u3,c3,d8,?_⟩,by have:=b6.out;rw[hx]at this;exact this,zA H7.out.gr hg (fun k e=>by have e:gb=k:=Oj e;omega),H7.out.mlo⟩;rw[qEA (by rw[<- h6.out];exact H0) hxm]
       exact c6.kept hg (fun e=>yD (es:=#[]) (clock:=0) H7.out.own c6.obj (by rw[<- e];rfl)))
      have h4:Hid (l9.set q (l9.getD q default)=l9):=Kh (by
       rw[zG (by rw[<- h6.out];exact H0)]
       exact List.set_getElem_self _)
      cases ab with
      | true =>
       by_cases hy0:y<0
       ·have h0:=sY (i:=q * 3+1) h5.out (.int .i64 (s:Int))
        rw[f6.out]at h0;have h3:=Kh (h9.out ⟨(l9.getD q default).m,(s:Int),(l9.getD q default).no⟩ _ (by rw[putC,if_pos a3.out.symm,if_pos (by rw[<- HY.out];exact hy0)]) rfl h0 (zC w2 ⟨gb,q * 3+1,none⟩ _));clear h0;go_wp2;go_roundg (m - (s+1))
        case measure=>have:=H1.out;omega
        case rel=>exact⟨s+1,_,_,l9.set q ⟨(l9.getD q default).m,(s:Int),(l9.getD q default).no⟩,by have:=H1.out;omega,by go_num,by rw[List.length_set,<- h6.out],h3.out⟩
       ·have h3:=Kh (h9.out (l9.getD q default) w2 (by rw[putC,if_pos a3.out.symm,if_neg (by rw[<- HY.out];exact hy0)]) rfl (by rw[h4.out];exact h5.out) (zL _ _))
        rw[h4.out]at h3;go_wp2;go_roundg (m - (s+1))
        case measure=>have:=H1.out;omega
        case rel=>exact⟨s+1,_,_,l9,by have:=H1.out;omega,by go_num,by rw[<- h6.out],h3.out⟩
      | false =>
       by_cases hz0:z<0
       ·have h0:=sY (i:=q * 3+2) h5.out (.int .i64 (s:Int))
        rw[f7.out]at h0;have h3:=Kh (h9.out ⟨(l9.getD q default).m,(l9.getD q default).yes,(s:Int)⟩ _ (by rw[putC,<- a3.out,if_neg (by simp),if_pos (by rw[<- HZ.out];exact hz0)]) rfl h0 (zC w2 ⟨gb,q * 3+2,none⟩ _));clear h0;go_wp2;go_roundg (m - (s+1))
        case measure=>have:=H1.out;omega
        case rel=>exact⟨s+1,_,_,l9.set q ⟨(l9.getD q default).m,(l9.getD q default).yes,(s:Int)⟩,by have:=H1.out;omega,by go_num,by rw[List.length_set,<- h6.out],h3.out⟩
       ·have h3:=Kh (h9.out (l9.getD q default) w2 (by rw[putC,<- a3.out,if_neg (by simp),if_neg (by rw[<- HZ.out];exact hz0)]) rfl (by rw[h4.out];exact h5.out) (zL _ _))
        rw[h4.out]at h3;go_wp2;go_roundg (m - (s+1))
        case measure=>have:=H1.out;omega
        case rel=>exact⟨s+1,_,_,l9,by have:=H1.out;omega,by go_num,by rw[<- h6.out],h3.out⟩
  ·have i6:s=m:=by have:=H1.out;omega
   have i7:¬ (s:Int)<m:=(by omega);subst i6;go_wp2;go_ret;exact⟨l,sa,sd,rfl,h7.out.own,h7.out.cls,h7.out.gr⟩
end Go.Proofs.Ytjfdomfendbhfaa
