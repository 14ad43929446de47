/- Part 36 of the proof: CDia, Fits. -/
import Derived.Test.YtjfdomfendbhfaaQe35
set_option linter.unusedVariables false
set_option linter.unusedSimpArgs false
namespace Go.Proofs.Ytjfdomfendbhfaa
open Go.RowKit Go.Maps
def qCY (w:World) (ps:List (List ByteArray)) (l:List ClaV) (e:Ending) (w':World):Prop :=
 ∃ v g,e=.returned v/\(∀ w2 row,w'.grownBy w2 row->(∀ j,row=some j->j < w.heap.size)->qG w2.heap.size w2 v g)/\g.pats=ps/\xD ps.length g.chos g.chos.length/\0<=g.root/\g.root<=1+(g.chos.length:Int)/\(∀ c∈l,decG g.chos (fun i=>c.m.getD i false) g.root=c.b)/\g.chos.length+1<=l.length/\w.grownBy w' none
theorem kU {w w':World} {base e sz n:Nat} {v:Value} {xs:List Value} {row:Option Nat} (h:w.ownsRow base e sz v n xs) (hg:w.grownBy w' row) (hr:∀ j,row=some j->j < base):w'.ownsRow base e sz v n xs:=by
 rcases hv:v.ownBlock with _|k
 ·exact h.kept hg (.inl hv)
 ·exact h.kept hg (.inr (fun e=>by have h1:=(h.lt k hv).1;have:=hr k (by rw[<- e,hv]);omega))
theorem elem_pat1:ElemN Try.prog 22 28 1 (.agg #[.slice none 0 0]) 24:=⟨by kernel_rfl,by kernel_rfl,by rfl,by decide⟩
theorem sclone_any (B:Nat) (w:World) (v:Value) (p:List ByteArray) (h:Row B w v (txtV p)) (hl:p.length<=100000) :
  Calls Try.prog 87 #[v] w fun e w'=>∃ sa sc,e=.returned (.slice sa p.length sc)/\w'.ownsRow w.heap.size 9 1 (.slice sa p.length sc) p.length (txtV p)/\w.grownBy w' none:=by
 rcases h with ⟨a,c,rfl,hx⟩|⟨b,off,cap,rfl,_,hc1,hc2,hra⟩
 ·have hp:p=[]:=by simpa [txtV] using hx
  subst hp
  rcases a with _|a
  ·exact(Try.slices_Clone_string_nil 0 c w).mono fun e w' ⟨h1,h2⟩=>⟨none,0,h1,by rw[h2];exact World.ownsRow_nil _ _ _ _,by rw[h2];exact zN _ _⟩
  ·exact(Try.slices_Clone_string_zero a c w).mono fun e w' ⟨v',h1,h2,_,h3⟩=>by
    obtain⟨sa,sc,rfl⟩:=sI h2
    exact⟨sa,sc,h1,h2,oA h3⟩
 ·rw[yN]
  refine(Try.slices_Clone_string b off p.length cap p w (Nat.le_refl _) (by omega) (fun j hj=>?_)).mono ?_
  ·exact nG hra j hj
  ·rintro e w' ⟨v',rfl,h0,_,h4⟩
   rw[List.take_of_length_le (Nat.le_refl _)]at h0
   obtain⟨sa,sc,rfl⟩:=sI h0
   exact⟨sa,sc,rfl,h0,oA h4⟩
theorem clsok_of {M:Nat->List Bool} {A:Nat->Bool} {s np:Nat} {l:List ClaV} (h:ClsI M A s s l) (hM:∀ i,(M i).length=np):ClsOk np l:=⟨fun c hc=>by obtain⟨i,_,e⟩:=h.met c hc;rw[<- e];exact hM i,h.nd⟩
set_option maxRecDepth 100000 in
set_option maxHeartbeats 3200000 in
theorem diagram_any (Bd:Nat) (w:World) (pv lv:Value) (ps:List (List ByteArray)) (l:List ClaV) (hBd:Bd<=w.heap.size) (hp:vI Bd w pv ps) (hl:ClsX (fun k=>k < w.heap.size) w lv l) (h0:0 < l.length) (h4:l.length<=4000) (hcl:ClsOk ps.length l) (h3:ps.length<=300) (h8:∀ p∈ps,p.length<=100000) :
  Calls Try.prog 61 #[pv,lv] w (qCY w ps l):=by
 obtain⟨pa,pc,rfl⟩:=hp.shape
 obtain⟨la,lc,rfl⟩:=hl.shape
 obtain⟨np,e7⟩:∃ n,n=ps.length:=⟨_,rfl⟩
 have H6:=Kh e7;have HP:=Kh hp
 rw[<- e7]at hcl h3 HP ⊢
 obtain⟨n,hn⟩:∃ n,n=l.length:=⟨_,rfl⟩
 have HN:=Kh hn
 have HL:=Kh hl;have H0:=Kh h0;have H4:=Kh h4;have m7:=Kh hcl;have H8:=Kh h8
 rw[<- hn]at HL ⊢
 have k9:=@run_makeMap Try.prog
 clear hp hl e7 hn h0 h4 hcl h8
 go_enter Try.func61,Try.ntmps61
 go_upto_region 1 with fail
 obtain⟨wA,e2⟩:∃ wA,wA=w.alloc (.cells #[.slice none 0 0,.slice none 0 0,.int .i64 0] 25):=⟨_,rfl⟩
 have a8:=Ga w (.cells #[.slice none 0 0,.slice none 0 0,.int .i64 0] 25) none
 have b3:=heap_alloc_new w (.cells #[.slice none 0 0,.slice none 0 0,.int .i64 0] 25)
 have j8:wA.heap.size=w.heap.size+1:=by rw[e2,zM]
 obtain⟨P,hP⟩:∃ P,P=w.heap.size:=⟨_,rfl⟩
 rw[<- e2]at a8 b3 ⊢
 rw[<- hP]at b3 ⊢
 have m4:=Kh hP
 obtain⟨mb,c9⟩:∃ b,b=wA.heap.size:=⟨_,rfl⟩
 obtain⟨w1,c5⟩:∃ w1,w1=wA.alloc (.map #[] 0):=⟨_,rfl⟩
 have h7:=MapK.made 45 eJ choW wA
 have d2:=Ga wA (.map #[] 0) none
 have g5:w1.heap.size=mb+1:=by rw[c5,zM,c9]
 rw[<- c5]at h7 d2
 rw[<- c9]at h7
 have d6:=heap_alloc_new w1 (.cells #[.slice none 0 0,.map (some mb)] 137)
 have H2:=Ga w1 (.cells #[.slice none 0 0,.map (some mb)] 137) none
 obtain⟨w2,c4⟩:∃ w2,w2=w1.alloc (.cells #[.slice none 0 0,.map (some mb)] 137):=⟨_,rfl⟩
 have k3:w2.heap.size=mb+2:=by rw[c4,zM,g5]
 obtain⟨o,ho⟩:∃ o,o=w1.heap.size:=⟨_,rfl⟩
 rw[<- c4]at d6 H2
 rw[<- ho]at d6
 have m9:=Kh (zA (zA b3 d2 (by simp)) H2 (by simp))
 have a1:wA.grownBy w2 none:=zB d2 H2 (by simp)
 have f4:Hid (w.heap.size<=w2.heap.size):=Kh (by omega)
 have a3:w.grownBy w2 none:=zB a8 a1 (by simp)
 have e4:(45:Nat)≠137:=by decide
 have e3:(45:Nat)≠25:=by decide
 have a5:(28:Nat)≠25:=by decide
 have j6:Hid (BldS wA w2.heap.size (fun k=>k < w.heap.size) o mb w2 [] w2):=Kh ⟨none,0,0,0,⟨⟨fun r hr=>by simp at hr;subst hr;exact World.ownsRow_nil _ _ _ _,List.pairwise_singleton _ _,fun r hr k hk=>by simp at hr;subst hr;simp[Value.ownBlock]at hk,fun k hk=>Nat.lt_of_lt_of_le hk a3.size⟩,fun r hr=>by simp at hr;subst hr;exact⟨rfl,e4⟩,d6,fun e=>by have e:o < w.heap.size:=e;omega,by omega,by omega,Nat.le_refl _,a1,wL.refl _ _,Nat.le_refl _⟩,h7.kept H2 (by simp),fun e=>by have e:mb < w.heap.size:=e;omega,by omega,Nat.le_refl _⟩
 have H7:Hid (Calls Try.prog 86 #[.pointer (some ⟨o,0,none⟩),.slice la n lc,.int .i64 0] w2 (qCI wA w2.heap.size (fun k=>k < w.heap.size) o mb np w2 [] l 0)):=Kh (bdecide_any wA w2.heap.size o mb np (by omega) l.length (fun k=>k < w.heap.size) w2 _ l [] 0 (Nat.le_refl _) H0.out (HL.out.grow a3) j6.out m7.out (fun c _ c' _ q hq=>by omega) (Nat.zero_le _) (fun i hi=>by simp at hi) List.nodup_nil (by have:=H4.out;simp;omega))
 have m1:=Kh c5;have m0:=Kh c4;have m6:=Kh c9;have m5:Hid (o=mb+1):=Kh (by omega)
 have j5:=Kh b3;have j4:=Kh a8
 have n0:=a8.size
 clear b3 a8 j8 hP c9 c5 h7 d2 g5 d6 H2 c4 k3 ho a3 a1 e2 j6
 go_upto_region 2 with fail
 rw[<- m6.out,<- m1.out,<- m5.out,<- m0.out]
 clear k9
 go_wp2_with fail
 refine H7.out.mono ?_
 rintro e w3 ⟨cs,r,rfl,d5,f1⟩
 have d9:=Kh f1
 have d8:=Kh (zB j4.out d5.facts.1 (by simp))
 have b8:=Kh (zA j5.out d5.facts.1 (by simp))
 obtain⟨sa,cap,u,c,b2,h9,_,_⟩:=d5.cells
 obtain⟨b0,b1⟩:=mV b2
 have j2:=Kh h9
 have n3:=f1.lo
 obtain⟨q,rfl⟩:∃ q:Nat,r=(q:Int):=⟨r.toNat,by omega⟩
 obtain⟨m,hm⟩:∃ m,m=cs.length:=⟨_,rfl⟩
 rw[<- hm]at b0 j2
 have HM:=Kh hm
 have d4:=heap_alloc_new w3 (.cells #[.slice none 0 0,.slice sa m cap,.int .i64 (q:Int)] 25)
 have a9:=Ga w3 (.cells #[.slice none 0 0,.slice sa m cap,.int .i64 (q:Int)] 25) none
 obtain⟨w4,c3⟩:∃ w4,w4=w3.alloc (.cells #[.slice none 0 0,.slice sa m cap,.int .i64 (q:Int)] 25):=⟨_,rfl⟩
 have j9:w4.heap.size=w3.heap.size+1:=by rw[c3,zM]
 obtain⟨od,e6⟩:∃ o,o=w3.heap.size:=⟨_,rfl⟩
 rw[<- c3]at d4 a9
 rw[<- e6]at d4
 have l9:=Kh c3;have j1:=Kh e6
 have i8:Hid (BoxS w4.heap.size (fun _=>False) od 25 w3 w4 (⟨w4.heap.size,28,.slice none 0 0,0,[],1⟩ :: []) #[.slice none 0 0,.slice sa m cap,.int .i64 (q:Int)] w4):=Kh ⟨⟨fun r hr=>by simp at hr;subst hr;exact World.ownsRow_nil _ _ _ _,List.pairwise_singleton _ _,fun r hr k hk=>by simp at hr;subst hr;simp[Value.ownBlock]at hk,fun k hk=>hk.elim⟩,fun r hr=>by simp at hr;subst hr;exact⟨rfl,a5⟩,d4,fun e=>e,by omega,by omega,Nat.le_refl _,a9,wL.refl _ _,Nat.le_refl _⟩
 have b4:Hid (w3.heap.size<=w4.heap.size):=Kh a9.size
 have l6:Hid (w.heap.size<=w2.heap.size/\w.heap.size<=w4.heap.size):=Kh ⟨f4.out,Nat.le_trans d8.out.size a9.size⟩
 have j0:Hid (P < w3.heap.size):=Kh (zH b8.out)
 have n5:Hid (Bd<=w3.heap.size):=Kh (Nat.le_trans hBd d8.out.size)
 clear d5 f1 b2 h9 hm c3 e6 a9 j9 d4 H7 j5 j4 b1
 go_upto_region 4 with fail
 rw[<- j1.out,<- l9.out]
 clear b0
 go_wp2
 go_loopg [24] np (fun gh v24 wr=>∃ (k:Nat) (sp:Option Addr) (cp:Nat) (svs:List Value) (X:Nat->Prop),gh+k=np/\v24=.int .i64 k/\BoxS w4.heap.size X od 25 w3 wr (⟨w4.heap.size,28,.slice sp k cp,k,svs,1⟩ :: []) #[.slice sp k cp,.slice sa m cap,.int .i64 (q:Int)] wr/\vM X 9 txtV wr svs (ps.take k)/\(∀ j,X j->w4.heap.size<=j))
 case atStart=>exact⟨0,none,0,[],fun _=>False,rfl,rfl,i8.out,vM.nil,fun _ h=>h.elim⟩
 case round =>
  clear i8
  obtain⟨k,sp,cp,svs,X,i2,rfl,f3,g8,g6⟩:=hrel
  have f6:=Kh g6
  have g2:=Kh i2;have H9:=Kh f3;have f9:=Kh g8
  have a7:=f3.grown
  clear i2 f3 g8 g6
  by_cases hk:k < np
  ·have l0:(k:Int) < np:=by omega
   obtain⟨b,off,pcap,e,l3,f2,a4,H1⟩:=((HP.out.kept d8.out (by simp)).kept a7 (by simp)).at_ (by rw[<- H6.out];omega)
   rw[<- H6.out]at e f2 H1
   simp only[Value.slice.injEq,true_and]at e
   obtain⟨rfl,rfl⟩:=e
   have n2:pc<=9223372036854775807:=by unfold maxLen at a4;omega
   obtain⟨ea,ec,c1,h5,c6⟩:=H1 k hk
   obtain⟨p,hp⟩:∃ p,p=ps.getD k []:=⟨_,rfl⟩
   have k6:p.length<=100000:=H8.out p (by rw[hp,zF (by rw[<- H6.out];exact hk)];exact List.getElem_mem _)
   rw[<- hp]at c1 h5
   have m3:=Kh hp
   have f7:Hid (∀ W:World,wr.grownBy W none->Calls Try.prog 87 #[.slice ea p.length ec] W fun e w'=>∃ sa sc,e=.returned (.slice sa p.length sc)/\w'.ownsRow W.heap.size 9 1 (.slice sa p.length sc) p.length (txtV p)/\W.grownBy w' none):=Kh (fun W hW=>sclone_any Bd W _ p (h5.kept hW (by simp)) k6)
   obtain⟨pl,g9⟩:∃ n,n=p.length:=⟨_,rfl⟩
   rw[<- g9]at c1 f7
   have d3:=heap_alloc_new wr (.cells #[.slice ea pl ec] 28)
   have e8:=Ga wr (.cells #[.slice ea pl ec] 28) none
   obtain⟨wR,e1⟩:∃ wR,wR=wr.alloc (.cells #[.slice ea pl ec] 28):=⟨_,rfl⟩
   obtain⟨R,hR⟩:∃ R,R=wr.heap.size:=⟨_,rfl⟩
   rw[<- e1]at d3 e8
   rw[<- hR]at d3
   have l7:=Kh e1;have m2:=Kh hR;have g0:=Kh e8;have m8:=Kh d3
   clear H1 h5 c6 hp g9 e1 hR e8 d3 f2 a4 a7
   go_upto_region 7 with fail
   rw[<- l7.out,<- m2.out]
   clear c1
   obtain⟨w5,c2⟩:∃ w5,w5=wR.drew:=⟨_,rfl⟩
   have f0:wr.grownBy w5 none:=by rw[c2];exact zD g0.out (zL wR none)
   have l8:=Kh c2;have d7:=Kh f0
   have C5:Hid (w5.cell? ⟨od,0,none⟩=some (.slice sp k cp)/\w5.cell? ⟨R,0,none⟩=some (.slice ea pl ec)):=Kh (by
    have h1:=zK (H9.out.grow f0).box 0 (by simp)
    simp only[List.getElem_toArray,List.getElem_cons_zero]at h1
    refine⟨h1,?_⟩
    have h2:=zK (zA m8.out (show wR.grownBy w5 none by rw[c2];exact zL wR none) (by simp)) 0 (by simp)
    simpa using h2)
   clear f0 c2
   refine wp_region_noPanic ?_
   refine wN (G:=uZ 7 (fun _=>True) (fun W=>W.cell? ⟨od,0,none⟩=some (.slice sp k cp)/\W.cell? ⟨R,0,none⟩=some (.slice ea pl ec))) (by kernel_rfl) ?_
   rw[<- l8.out]
   refine takeC (i:=0) (v:=?_) rfl rfl (Or.inl ⟨by rfl,?_⟩) ⟨trivial,fun _=>C5.out⟩ ?_
   rotate_left
   ·(intro wz hz;(try dsimp only at hz);go_simp;(try with_reducible rfl))
   try simp only[Act.put,sPa,sPb,sPc]
   refine takeD (i:=1) (v:=?_) rfl rfl (Or.inl ⟨by rfl,?_⟩) ⟨trivial,fun _=>C5.out⟩ ?_
   rotate_left
   ·(rintro wz ⟨-,hz⟩;obtain⟨h1,h2⟩:=hz;go_simp;(try with_reducible rfl))
   try simp only[Act.put,sPa,sPb,sPc]
   refine takeC (i:=2) (v:=?_) rfl rfl (Or.inl ⟨by rfl,?_⟩) ⟨trivial,fun _=>C5.out⟩ ?_
   rotate_left
   ·(intro wz hz;(try dsimp only at hz);go_simp;(try with_reducible rfl))
   try simp only[Act.put,sPa,sPb,sPc]
   obtain⟨k1,k2⟩:=C5.out
   refine oneG (i:=3) (by kernel_rfl) rfl (fun K hK=>?_)
   go_simp
   refine hK.out _ _ ⟨trivial,fun _=>C5.out⟩ ?_
   clear hK K k1 k2
   try simp only[Act.put,sPa,sPb,sPc]
   refine oneG (i:=4) (by kernel_rfl) rfl (fun K hK=>?_)
   go_simp
   go_at_call 87
   refine(f7.out w5 d7.out).mono ?_
   rintro e w8 ⟨s8,c8,rfl,h6,d1⟩
   have H3:=zD d7.out d1
   have g3:Hid (BoxS w4.heap.size (fun j=>X j\/(Value.slice s8 pl c8).ownBlock=some j) od 25 w3 w8 (⟨w4.heap.size,28,.slice sp k cp,k,svs,1⟩ :: []) #[.slice sp k cp,.slice sa m cap,.int .i64 (q:Int)] w8):=Kh (H9.out.fresh H3 (fun j hj=>⟨Nat.le_trans d7.out.size (h6.lt j hj).1,(h6.lt j hj).2⟩))
   have b6:Hid (vM (fun j=>X j\/(Value.slice s8 pl c8).ownBlock=some j) 9 txtV w8 (svs ++ [.slice s8 pl c8]) (ps.take (k+1))):=Kh (by
    rw[zW (d:=[]) (by rw[<- H6.out];exact hk),<- m3.out]
    exact((f9.out.kept (H9.out.mem.keep H3) H3.size).mono (fun j hj=>.inl hj)).snoc (RowX.of_owns h6 (fun j hj=>.inr hj)))
   have C8:Hid (w8.cell? ⟨od,0,none⟩=some (.slice sp k cp)/\w8.cell? ⟨R,0,none⟩=some (.slice ea pl ec)):=Kh ⟨xI C5.out.1 d1,xI C5.out.2 d1⟩
   have f5:Hid (∀ j,(X j\/(Value.slice s8 pl c8).ownBlock=some j)->w4.heap.size<=j):=Kh (fun j hj=>by
    rcases hj with hj|hj
    ·exact f6.out j hj
    ·exact Nat.le_trans (Nat.le_trans H9.out.base d7.out.size) (h6.lt j hj).1)
   refine hK.out _ _ ⟨trivial,fun _=>C8.out⟩ ?_
   clear hK K C5 h6 d1 H3 f7
   try simp only[Act.put,sPa,sPb,sPc]
   refine oneG (i:=5) (by kernel_rfl) rfl (fun K hK=>?_)
   go_simp
   refine hK.out _ _ ⟨trivial,fun _=>C8.out⟩ ?_
   clear hK K
   try simp only[Act.put,sPa,sPb,sPc]
   refine oneG (i:=6) (by kernel_rfl) rfl (fun K hK=>?_)
   go_simp
   have d0:=heap_alloc_new w8 (.cells #[Value.slice s8 pl c8] 28)
   have a2:=Ga w8 (.cells #[Value.slice s8 pl c8] 28) none
   obtain⟨R9,i5⟩:∃ R9,R9=w8.heap.size:=⟨_,rfl⟩
   obtain⟨w9,c0⟩:∃ w9,w9=w8.alloc (.cells #[Value.slice s8 pl c8] 28):=⟨_,rfl⟩
   rw[<- c0]at d0 a2 ⊢
   rw[<- i5]at d0 ⊢
   have b7:=Kh (g3.out.grow a2).rebase
   have b5:=Kh (b6.out.kept (g3.out.mem.keep a2) a2.size)
   have C9:Hid (w9.cell? ⟨od,0,none⟩=some (.slice sp k cp)/\w9.cell? ⟨R,0,none⟩=some (.slice ea pl ec)):=Kh ⟨xI C8.out.1 a2,xI C8.out.2 a2⟩
   refine hK.out _ _ ⟨trivial,fun _=>C9.out⟩ ?_
   clear hK K C8 a2 c0 i5
   try simp only[Act.put,sPa,sPb,sPc]
   have c7:=b7.out.own (r:=⟨w4.heap.size,28,.slice sp k cp,k,svs,1⟩) (by simp)
   have g4:=Nat.le_trans b7.out.base b7.out.wk
   refine oneG (i:=7) (by kernel_rfl) rfl (fun K hK=>?_)
   refine qJ rfl (.tmp 29) (.tmp 34) 22 rfl elem_pat1 w4.heap.size (.slice sp k cp) k svs rfl c7 [.slice s8 pl c8] R9 rfl (0,0) rfl d0 ?z1 ?z2 ?z3 g4 ?_
   case z1=>intro v hv;simp only[List.mem_cons,List.not_mem_nil,or_false]at hv;subst hv;rfl
   case z2=>unfold maxLen;omega
   case z3=>show (k+1) * 24<=140737488355328;omega
   intro sN cN wM h9 i3 i0
   have b9:=Kh (b7.out.appAt (j:=0) rfl h9 i3 i0)
   have i4:=zK b9.out.box 0 (by simp)
   simp only[List.getElem_toArray,List.getElem_cons_zero]at i4
   have l1:=zE b9.out.box 0
   have k7:=zH b9.out.box
   refine hK.out _ _ ⟨trivial,fun h=>by simp at h⟩ ?_
   clear hK K C9 h9 i3 i0 d0 c7 g4
   try simp only[Act.put,sPa,sPb,sPc]
   refine oneG (i:=8) (by kernel_rfl) rfl (fun K hK=>?_)
   go_simp
   refine hK.out _ _ ⟨trivial,fun h=>by simp at h⟩ ?_
   clear hK K
   try simp only[Act.put,sPa,sPb,sPc]
   refine oneG (i:=9) (by kernel_rfl) rfl (fun K hK=>?_)
   go_simp
   have H5:=Kh (b9.out.set 0 (.slice sN (k+1) cN))
   obtain⟨wZ,g7⟩:∃ wZ,wZ=wM.setCell ⟨od,0,none⟩ (.slice sN (k+1) cN):=⟨_,rfl⟩
   rw[<- g7]at H5 ⊢
   have f8:=Kh (b5.out.kept H5.out.kept H5.out.wk)
   refine hK.out _ _ ⟨trivial,fun h=>by simp at h⟩ ?_
   clear hK K g7
   try simp only[Act.put,sPa,sPb,sPc]
   refine jI (by kernel_rfl) ?_ _
   refine NoPanic.normal ?_
   clear i4 l1 k7 b9 b7 b5 b6 g3
   go_wp2
   go_roundg (np - (k+1))
   case measure=>have:=g2.out;omega
   case rel=>exact⟨k+1,sN,cN,_,_,by have:=g2.out;omega,by go_num,H5.out.rebase,f8.out,f5.out⟩
  ·have i1:k=np:=by have:=g2.out;omega
   have l0:¬ (k:Int) < np:=by omega
   have i7:Hid (ps.take k=ps):=Kh (List.take_of_length_le (by rw[<- H6.out];omega))
   have j3:=Kh i1
   have b2:=H9.out.box
   obtain⟨x0,x1,x2⟩:=zJ b2
   have a0:=zA b8.out a7 (by simp)
   have f40:=zE a0 0
   have f41:=zE a0 1
   have f42:=zE a0 2
   have n4:=zH a0
   obtain⟨v0,v1,v2⟩:=zJ a0
   have i9:=Kh a0
   have n1:P≠od:=by have:=j0.out;have:=j1.out;omega
   clear i1 b2
   go_wp2
   have g1:=zD (zD (zC wr ⟨P,0,none⟩ (.slice sp k cp)) (zC _ ⟨P,1,none⟩ (.slice sa m cap))) (zC _ ⟨P,2,none⟩ (.int .i64 (q:Int)))
   have z1:=heap_setCell_same _ P 2 _ _ (.int .i64 (q:Int)) (heap_setCell_same _ P 1 _ _ (.slice sa m cap) (heap_setCell_same wr P 0 _ _ (.slice sp k cp) a0))
   obtain⟨w9,c0⟩:∃ w9,w9=((wr.setCell ⟨P,0,none⟩ (.slice sp k cp)).setCell ⟨P,1,none⟩ (.slice sa m cap)).setCell ⟨P,2,none⟩ (.int .i64 (q:Int)):=⟨_,rfl⟩
   rw[<- c0]at g1 z1 ⊢
   simp only[Array.setIfInBounds,List.size_toArray,List.length_cons,List.length_nil]at z1
   obtain⟨q0,q1,q2⟩:=zJ z1
   refine bodyPost_ret (v:=.agg #[.slice sp k cp,.slice sa m cap,.int .i64 (q:Int)]) (by simp[results,Try.results61,go_sem,q0,q1,q2,Result.andThen]) rfl ?_
   have l5:wL X wr w9:=wL.of_grown H9.out.mem.lt g1 (fun j e hx=>by have e:P=j:=Oj e;have:=f6.out j hx;have:=j0.out;have:=b4.out;omega)
   have a6:=f9.out.kept l5 g1.size
   rw[i7.out]at a6
   have e0:∀ j,X j->j < w9.heap.size:=fun j hj=>Nat.lt_of_lt_of_le (H9.out.mem.lt j hj) g1.size
   have ho:=H9.out.own (r:=⟨w4.heap.size,28,.slice sp k cp,k,svs,1⟩) (by simp)
   have c7:=ho.kept g1 (.inr (zS ho i9.out a5))
   have hc:=zQ j2.out a7
   have l2:=hc.kept g1 (.inr (zS hc i9.out e3))
   have k4:svs.length=k:=by have:=f9.out.1;rw[i7.out,<- H6.out]at this;have:=j3.out;omega
   have j7:=l6.out
   have k0:=b4.out
   refine⟨_,⟨ps,cs,(q:Int)⟩,rfl,fun w2' row H2 h5=>?_,rfl,?_,by show (0:Int)<=q;omega,d9.out.hi,d9.out.dec,by have:=d9.out.few;simp at this;omega,?_⟩
   ·have l4:wL X w9 w2':=wL.of_grown e0 H2 (fun j e hx=>by have:=h5 j e;have:=f6.out j hx;omega)
    have k5:=(a6.kept l4 H2.size).rowsT
    have k8:=kU (base:=w4.heap.size) c7 H2 (fun j e=>by have:=h5 j e;omega)
    have a4:=kU (base:=w2.heap.size) l2 H2 (fun j e=>by have:=h5 j e;omega)
    refine⟨_,_,rfl,⟨svs,(RowT.of_owns k8).row,?_,?_⟩,?_⟩
    ·show svs.length=ps.length
     rw[k4,j3.out,H6.out]
    ·intro i h1 h2
     refine⟨(k5.2 i h1 h2).row,fun j hj=>?_⟩
     have i6:i < ps.length:=h2
     obtain⟨pb,po,pcap,e,l3,f2,a4,H1⟩:=HP.out.at_ (by omega)
     obtain⟨ea,ec,c1,h5,c6⟩:=H1 i i6
     have e5:ps.getD i []=ps[i]:=zF i6
     rw[e5]at c6
     exact c6 j hj
    ·rw[HM.out]at a4
     have e9:=pC a4 (Nat.le_refl w2'.heap.size)
     rw[<- HM.out]at e9
     exact e9
   ·show xD ps.length cs cs.length
    rw[<- H6.out];exact d9.out.ok
   ·exact zB (zB d8.out a7 (by simp)) g1 (fun j e=>by have e:P=j:=Oj e;have:=m4.out;omega)
end Go.Proofs.Ytjfdomfendbhfaa
namespace Go.Proofs.Ytjfdomfendbhfaa
open Go.RowKit
def Fit:List (List UInt8)->List UInt8->List UInt8->Prop
 | [],v,r=>∃ q,r=q ++ v
 | u :: us,v,r=>∃ p r',r=p ++ u ++ r'/\Fit us v r'
theorem Fit.more:∀ {us:List (List UInt8)} {v r:List UInt8} (p:List UInt8),Fit us v r->Fit us v (p ++ r)
 | [],v,r,p,⟨q,h⟩=>⟨p ++ q,by rw[h,List.append_assoc]⟩
 | u :: us,v,r,p,⟨q,r',h,hf⟩=>⟨p ++ q,r',by rw[h];simp only[List.append_assoc],hf⟩
theorem aF {r u p q:List UInt8} (h:r=p ++ u ++ q):Lib.occAt r u p.length=true:=by
 subst h
 unfold Lib.occAt
 rw[List.append_assoc,List.drop_left,List.isPrefixOf_iff_prefix]
 exact List.prefix_append _ _
theorem occAt_to {r u:List UInt8} {i:Nat} (h:Lib.occAt r u i=true) (hi:i<=r.length):r=r.take i ++ u ++ r.drop (i+u.length):=by
 unfold Lib.occAt at h
 rw[List.isPrefixOf_iff_prefix]at h
 obtain⟨t,ht⟩:=h
 have h1:r=r.take i ++ (u ++ t):=by rw[ht,List.take_append_drop]
 have h2:r.drop (i+u.length)=t:=by rw[<- List.drop_drop,<- ht,List.drop_left]
 rw[h2,List.append_assoc]
 exact h1
theorem fit_cut (us:List (List UInt8)) (u v r:List UInt8):Fit (u :: us) v r ↔ (Lib.cut r u).2.2=true/\Fit us v (Lib.cut r u).2.1:=by
 unfold Lib.cut
 rcases Lib.index_spec r u with ⟨h,hno⟩|⟨i,h,hi,hocc,hno⟩
 ·rw[if_neg (by omega)]
  constructor
  ·rintro ⟨p,r',hr,_⟩
   have:=hno p.length (by rw[hr];simp)
   rw[aF hr]at this
   cases this
  ·rintro ⟨h,_⟩;cases h
 ·rw[if_pos (by omega),h]
  simp only[Int.toNat_natCast,true_and]
  constructor
  ·rintro ⟨p,r',hr,hf⟩
   have h0:i<=p.length:=by
    rcases Nat.lt_or_ge p.length i with hlt|hge
    ·have:=hno p.length hlt
     rw[aF hr]at this
     cases this
    ·exact hge
   have hd:r.drop (p.length+u.length)=r':=by
    rw[hr,<- List.length_append,List.drop_left]
   have he:r.drop (i+u.length)=(r.drop (i+u.length)).take (p.length - i) ++ r':=by
    have e:r'=(r.drop (i+u.length)).drop (p.length - i):=by rw[List.drop_drop,<- hd];congr 1;omega
    rw[e,List.take_append_drop]
   rw[he]
   exact hf.more _
  ·intro hf
   exact⟨_,_,occAt_to hocc hi,hf⟩
theorem lE:∀ (us:List (List UInt8)) (r v:List UInt8),pO us r v=true ↔ Fit us v r
 | [],r,v=>by
  show Lib.hasSuffix r v=true ↔ _
  unfold Lib.hasSuffix
  rw[List.isSuffixOf_iff_suffix]
  exact⟨fun⟨q,h⟩=>⟨q,h.symm⟩,fun⟨q,h⟩=>⟨q,h.symm⟩⟩
 | u :: us,r,v=>by
  rw[fit_cut]
  unfold pO tD
  by_cases h:(Lib.cut r u).2.2=true
  ·rw[if_pos h]
   have:=lE us (Lib.cut r u).2.1 v
   unfold pO at this
   rw[this]
   exact⟨fun h'=>⟨h,h'⟩,fun h'=>h'.2⟩
  ·rw[if_neg h]
   exact⟨fun h'=>(by cases h'),fun h'=>absurd h'.1 h⟩
def iA:List (List UInt8)->List UInt8->Prop
 | [],_=>False
 | [b],s=>s=b
 | b :: c :: rest,s=>∃ r,s=b ++ r/\Fit (c :: rest).dropLast ((c :: rest).getLastD []) r
theorem plainMatch_iff:∀ (bs:List (List UInt8)) (s:List UInt8),wP bs s=true ↔ iA bs s
 | [],s=>by simp[wP,iA]
 | [b],s=>by simp[wP,iA]
 | b :: c :: rest,s=>by
  simp only[wP,iA,Bool.and_eq_true,lE]
  unfold Lib.hasPrefix
  rw[List.isPrefixOf_iff_prefix]
  constructor
  ·rintro ⟨⟨t,ht⟩,hf⟩
   refine⟨t,ht.symm,?_⟩
   rwa [<- ht,List.drop_left]at hf
  ·rintro ⟨r,rfl,hf⟩
   exact⟨List.prefix_append _ _,by rwa [List.drop_left]⟩
def byt (l:List Int):List UInt8:=l.map fun n=>UInt8.ofNat n.toNat
theorem rL (l:List Int):(strOfNums l).data.toList=byt l:=strOfNums_data l
theorem okByte_of {letters n:Int} (h:qQ letters n) (h6:letters<=6):tJ 6 (UInt8.ofNat n.toNat)=true:=by
 unfold qQ at h
 have:(UInt8.ofNat n.toNat).toNat=n.toNat:=by
  rw[UInt8.toNat_ofNat']
  exact Nat.mod_eq_of_lt (by omega)
 simp only[tJ,this,decide_eq_true_eq]
 omega
theorem wordValid_of {letters:Int} {l:List Int} (h:∀ n∈l,qQ letters n) (h6:letters<=6) (hl:l.length<=2048):zP (strOfNums l) 6=true:=by
 unfold zP
 rw[Bool.and_eq_true,decide_eq_true_eq,rL,List.all_eq_true]
 refine⟨⟨by omega,by omega,by rw[strOfNums_size];exact hl⟩,fun c hc=>?_⟩
 obtain⟨n,hn,rfl⟩:=List.mem_map.1 hc
 exact okByte_of (h n hn) h6
theorem bR {letters:Int}:∀ {bs:List (List Int)},(∀ b∈bs,b.length<=2)->uP (bs.map strOfNums)<=2 * bs.length
 | [],_=>by simp[uP]
 | b :: bs,h=>by
  have h1:=h b (by simp)
  have h2:=bR (letters:=letters) (bs:=bs) fun c hc=>h c (by simp[hc])
  simp only[uP,List.map_cons,List.sum_cons,List.length_cons]at *
  rw[strOfNums_size];omega
theorem pK {n:Nat} {letters:Int}:∀ (bs:List ByteArray) (i:Nat),(∀ j (h:j < bs.length),wU n letters (i+j) bs[j]=true)->wB n letters i bs=true
 | [],_,_=>rfl
 | b :: bs,i,h=>by
  have h1:=h 0 (by simp)
  have h2:=pK bs (i+1) fun j hj=>by
   have:=h (j+1) (by simpa using hj)
   rwa [show i+1+j=i+(j+1) by omega]
  simp only[wB]
  rw[h2,Bool.and_true]
  simpa using h1
theorem patValidate_of {letters:Int} {bs:List (List Int)} (h:wQ letters bs) (h6:letters<=6):zZ (bs.map strOfNums) 6=0:=by
 have hl:=h.1
 have h0:bs.length≠0:=fun e=>h.2.1 (List.eq_nil_of_length_eq_zero e)
 have ht:=bR (letters:=letters) (bs:=bs) fun b hb=>by
  obtain⟨i,hi,rfl⟩:=List.getElem_of_mem hb
  exact(h.2.2 i hi).1
 have hk:wB (bs.map strOfNums).length 6 0 (bs.map strOfNums)=true:=by
  refine pK _ _ fun j hj=>?_
  rw[List.length_map]at hj
  have hg:=h.2.2 j hj
  have e1:(bs.map strOfNums).length=bs.length:=List.length_map _
  simp only[List.getElem_map,e1,Nat.zero_add]
  unfold wU
  rw[wordValid_of hg.2.1 h6 (by have:=hg.1;omega),Bool.true_and,ByteArray.toList_eq,rL]
  by_cases hin:0 < j/\j+1 < bs.length
  ·have:=hg.2.2 (by simpa using hin)
   cases hb:bs[j] with
   | nil=>exact absurd hb this
   | cons c r=>simp[byt]
  ·rw[decide_eq_false hin];rfl
 unfold zZ
 rw[List.length_map]
 rw[if_neg (by omega),if_neg (by omega),if_neg (by omega),if_neg h0]
 rw[List.length_map]at hk
 rw[hk];rfl
end Go.Proofs.Ytjfdomfendbhfaa
