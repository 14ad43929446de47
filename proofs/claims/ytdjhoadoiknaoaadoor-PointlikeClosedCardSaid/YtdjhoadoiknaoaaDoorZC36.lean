/- Part 36 of the proof: Of21. -/
import Derived.Test.YtdjhoadoiknaoaaDoorZC35
set_option linter.unusedVariables false
set_option linter.unusedSimpArgs false
namespace Go.Proofs.YtdjhoadoiknaoaaDoor
open Go.RowKit
theorem rB {w w':World} {p:Addr} {u:Value} {row:Option Nat} (h:w.cell? p=some u) (hg:w.grownBy w' row) (hr:∀ k,row=some k→k≠p.block):w'.cell? p=some u:=(World.cell?_of_block (hg.block p.block (World.block_lt_of_cell? w p h) (fun e=>hr _ e.symm rfl))).trans h
theorem kL {M:DfaV} {m k:Nat} (h:VD M m k):∀ g∈gensD M m k,IsT m g:=by
 intro g hg
 obtain ⟨a,ha,rfl⟩:=List.mem_map.1 hg
 refine ⟨by simp,fun x hx=>?_⟩
 obtain ⟨q,hq,rfl⟩:=List.mem_map.1 hx
 exact nx_lt h (List.mem_range.1 hq) (List.mem_range.1 ha)
def Huge (d:DfaV):Prop:=∃ m,m≤d.final.length∧(32 < m∨Big m)
def Of21Ok (d:DfaV) (w:World) (e:Ending) (w':World):Prop :=
 (∃ c:Int,e=.returned (.tuple #[.agg #[.int .i64 0,.slice none 0 0,.slice none 0 0,.slice none 0 0,.slice none 0 0,.slice none 0 0],.int .i64 c])∧c≠0∧(tH d≠0→c=tH d)∧(tH d=0→c=3∧Huge d)∧w.grownBy w' none) ∨
 ∃ (S:SynV) (v:Value) (n k m:Nat) (M:DfaV),VD d n k∧M=minD d k∧VD M m k∧m≤32∧e=.returned (.tuple #[v,.int .i64 0])∧SynE (gensD M m k) m (st0 M) M.final S∧SynAt w'.heap.size w' v S∧w.grownBy w' none
set_option maxRecDepth 100000 in
set_option maxHeartbeats 2000000 in
theorem iD (B:Nat) (w:World) (v:Value) (d:DfaV) (hB:B≤w.heap.size) (h:DfaOk B w v d) :
  Calls Tryd.prog 15 #[v] w (Of21Ok d w):=by
 obtain ⟨fv,nv,rfl,hf,hn⟩:=id h
 obtain ⟨fA,fC,rfl⟩:=hf.shape
 obtain ⟨nA,nC,rfl⟩:=hn.shape
 rw [wP] at h ⊢
 obtain ⟨nf,hnf⟩:∃ nf,nf=d.final.length:=⟨_,rfl⟩
 obtain ⟨nn,hnn⟩:∃ nn,nn=d.next.length:=⟨_,rfl⟩
 rw [← hnf,← hnn] at h ⊢
 obtain ⟨wA,hWA⟩:∃ wA,wA=(w.alloc (.cells #[.int .i64 d.letters,.int .i64 d.start,.slice fA nf fC,.slice nA nn nC] 28)).alloc (.cells #[.int .i64 0,.slice none 0 0,.slice none 0 0,.slice none 0 0,.slice none 0 0,.slice none 0 0] 33):=⟨_,rfl⟩
 have g1:=Ga w (.cells #[.int .i64 d.letters,.int .i64 d.start,.slice fA nf fC,.slice nA nn nC] 28) none
 have n1:=heap_alloc_new w (.cells #[.int .i64 d.letters,.int .i64 d.start,.slice fA nf fC,.slice nA nn nC] 28)
 obtain ⟨w1,hw1⟩:∃ w1,w1=w.alloc (.cells #[.int .i64 d.letters,.int .i64 d.start,.slice fA nf fC,.slice nA nn nC] 28):=⟨_,rfl⟩
 rw [← hw1] at g1 n1 hWA
 have g2:=Ga w1 (.cells #[.int .i64 0,.slice none 0 0,.slice none 0 0,.slice none 0 0,.slice none 0 0,.slice none 0 0] 33) none
 have n2:=heap_alloc_new w1 (.cells #[.int .i64 0,.slice none 0 0,.slice none 0 0,.slice none 0 0,.slice none 0 0,.slice none 0 0] 33)
 rw [← hWA] at g2 n2
 have hz1:w1.heap.size=w.heap.size+1:=by rw [hw1];simp
 have hb0:=zE n1 g2 (by simp)
 obtain ⟨P,hP⟩:∃ P,P=w.heap.size:=⟨_,rfl⟩
 have hPE:=Kh hP
 rw [hz1] at n2
 rw [← hP] at hb0 n2
 have hgA:=zF g1 g2 (by simp)
 have hda:=h.kept hgA (by simp)
 have HVA:=Kh (validate7_any B wA _ d (Nat.le_trans hB hgA.size) hda)
 have HWA:=Kh hWA;have HW1:=Kh hw1;have HG:=Kh hgA;have HD:=Kh hda;have HB0:=Kh hb0;have HB1:=Kh n2;have HZ1:=Kh hz1
 clear hf hn h hnf hnn hWA g1 n1 hw1 g2 n2 hb0 hgA hda hz1
 go_enter Tryd.func15,Tryd.ntmps15
 go_upto_region 1 with fail
 rw [← HW1.out,← HWA.out,← hPE.out]
 clear hP
 obtain ⟨c0,c1,c2,c3⟩:=zR HB0.out
 go_wp2_with fail
 refine HVA.out.mono ?_
 rintro e w2 ⟨rfl,hg2⟩
 have HG2:=Kh hg2
 have hb02:=zE HB0.out hg2 (by simp)
 have hb12:=zE HB1.out hg2 (by simp)
 have HB02:=Kh hb02;have HB12:=Kh hb12
 obtain ⟨d0,d1,d2,d3⟩:=zR hb02
 obtain ⟨p0,p1,p2,p3,p4,p5⟩:=yM hb12
 have f0:=zD hb12 0;have f1:=zD hb12 1;have f2:=zD hb12 2;have f3:=zD hb12 3;have f4:=zD hb12 4;have f5:=zD hb12 5
 obtain ⟨vd,hvd⟩:∃ vd,vd=tH d:=⟨_,rfl⟩
 have HVD:=Kh hvd
 rw [← hvd]
 clear hg2 hb02 hb12 c0 c1 c2 c3 hvd
 by_cases hv:vd=0
 ·have hvd0:=vd_of (by rw [← HVD.out];exact hv)
  obtain ⟨n,hn⟩:∃ n,n=d.final.length:=⟨_,rfl⟩
  obtain ⟨k,hk⟩:∃ k,k=d.letters.toNat:=⟨_,rfl⟩
  rw [← hn,← hk] at hvd0
  have hdn:=HD.out.kept HG2.out (by simp)
  have HMI:=Kh (minimal_any B w2 _ d n k (by have:=HG.out.size;have:=HG2.out.size;omega) hdn hvd0)
  have HVD0:=Kh hvd0;have HNF:=Kh hn
  clear hn hk hdn hvd0
  subst hv
  clear p0 p1 p2 p3 p4 p5 f0 f1 f2 f3 f4 f5
  go_wp2_with fail
  refine HMI.out.mono ?_
  rintro e w3 ⟨v3,rfl,hnew,hg3⟩
  have hmd:=min_vd HVD0.out
  obtain ⟨M,hM⟩:∃ M,M=minD d k:=⟨_,rfl⟩
  obtain ⟨m,hm⟩:∃ m,m=minN d k:=⟨_,rfl⟩
  have HMN:Hid (m≤d.final.length):=Kh (by rw [hm,← HNF.out];exact minN_le HVD0.out)
  rw [← hM,← hm] at hmd
  rw [← hM] at hnew
  have hdf:=hnew.dfa
  obtain ⟨fv,nv,rfl,hf,hn⟩:=id hdf
  obtain ⟨sf,cf,rfl⟩:=hf.shape
  obtain ⟨sn,cn,rfl⟩:=hn.shape
  rw [wP,hmd.hn] at hf hdf ⊢
  rw [hmd.nl] at hn hdf ⊢
  have hb13:=zE HB12.out hg3 (by simp)
  obtain ⟨w4,hw4⟩:∃ w4,w4=w3.alloc (.cells #[.int .i64 M.letters,.int .i64 M.start,.slice sf m cf,.slice sn m cn] 28):=⟨_,rfl⟩
  have hg4:w3.grownBy w4 none:=by rw [hw4];exact Ga w3 _ none
  have hb5:=heap_alloc_new w3 (.cells #[.int .i64 M.letters,.int .i64 M.start,.slice sf m cf,.slice sn m cn] 28)
  rw [← hw4] at hb5
  obtain ⟨b5,he5⟩:∃ b5,b5=w3.heap.size:=⟨_,rfl⟩
  rw [← he5] at hb5
  have hb14:=zE hb13 hg4 (by simp)
  have HB5:=Kh hb5;have HB14:=Kh hb14;have HG4:=Kh (zF (zF (zF HG.out HG2.out (by simp)) hg3 (by simp)) hg4 (by simp));have HW4:=Kh hw4;have HE5:=Kh he5
  have HDF:=Kh (hdf.kept hg4 (by simp));have HMD:=Kh hmd;have HME:=Kh hM;have HS4:=Kh hg4.size;have HF4:=Kh (hf.kept hg4 (by simp))
  obtain ⟨q0,q1,q2,q3⟩:=zR hb5
  obtain ⟨p0,p1,p2,p3,p4,p5⟩:=yM hb14
  have f0:=zD hb14 0;have f1:=zD hb14 1;have f2:=zD hb14 2;have f3:=zD hb14 3;have f4:=zD hb14 4;have f5:=zD hb14 5
  clear hnew hg3 hmd hM hm hdf hf hn hb13 hw4 hg4 hb5 he5 hb14 q0 q1 q3 d0 d1 d2 d3
  go_upto_region 5 with fail
  rw [← HW4.out,← HE5.out]
  by_cases hm32:32 < m
  ·have hm':(32:Int) < m:=by omega
   go_wp2
   refine bodyPost_ret (v:=.tuple #[.agg #[.int .i64 0,.slice none 0 0,.slice none 0 0,.slice none 0 0,.slice none 0 0,.slice none 0 0],.int .i64 3]) (by simp [results,Tryd.results15,go_sem,p0,p1,p2,p3,p4,p5]) rfl ?_
   obtain ⟨hsZ,hgZ⟩:=uX HB14.out (.int .i64 0) (.slice none 0 0) (.slice none 0 0) (.slice none 0 0) (.slice none 0 0) (.slice none 0 0)
   exact .inl ⟨3,rfl,by decide,fun h=>absurd HVD.out.symm h,fun _=>⟨rfl,m,HMN.out,.inl hm32⟩,zF HG4.out hgZ (fun j e=>by have e:P+1=j:=Oj e;have:=hPE.out;omega)⟩
  ·have hm':¬ (32:Int) < m:=by omega
   obtain ⟨w7,hw7⟩:∃ w7,w7=w4.drew:=⟨_,rfl⟩
   have hg7:w4.grownBy w7 none:=by rw [hw7];exact zU w4 none
   have HW7:=Kh hw7;have HG7:=Kh hg7
   have hC:=zR (zE HB5.out hg7 (by simp))
   have C:Hid (w7.cell? ⟨b5,0,none⟩=some (.int .i64 M.letters)∧w7.cell? ⟨b5,1,none⟩=some (.int .i64 M.start)∧w7.cell? ⟨b5,2,none⟩=some (.slice sf m cf)∧w7.cell? ⟨b5,3,none⟩=some (.slice sn m cn)):=Kh hC
   have hst:M.start=((st0 M:Nat):Int):=by rw [st0,Int.toNat_of_nonneg HMD.out.s0]
   have hst2:st0 M < m:=by have:=HMD.out.sn;rw [hst] at this;omega
   have HOD:=Kh (ofDFA_any w4.heap.size w7 _ M m k hg7.size ((HDF.out.mono HS4.out).kept hg7 (by simp)) HMD.out)
   have HST:=Kh hst;have HST2:=Kh hst2
   clear hw7 hg7 hC hst hst2 p0 p1 p2 p3 p4 p5 f0 f1 f2 f3 f4 f5
   go_upto_region 7 with fail
   refine wp_region_noPanic ?_
   refine yT (G:=Until 99 (fun W=>W.cell? ⟨b5,0,none⟩=some (.int .i64 M.letters)∧W.cell? ⟨b5,1,none⟩=some (.int .i64 M.start)∧W.cell? ⟨b5,2,none⟩=some (.slice sf m cf)∧W.cell? ⟨b5,3,none⟩=some (.slice sn m cn)) (fun _=>True)) (by kernel_rfl) ?_
   rw [← HW7.out]
   refine takeC (i:=0) (v:=?_) rfl rfl (Or.inl ⟨by rfl,?_⟩) ⟨C.out,fun _=>trivial⟩ ?_
   rotate_left
   ·(intro wz hz;(try dsimp only at hz);go_simp;(try with_reducible rfl))
   try simp only [Act.put,sPa,sPb,sPc]
   refine takeC (i:=2) (v:=?_) rfl rfl (Or.inl ⟨by rfl,?_⟩) ⟨C.out,fun _=>trivial⟩ ?_
   rotate_left
   ·(intro wz hz;(try dsimp only at hz);go_simp;(try with_reducible rfl))
   try simp only [Act.put,sPa,sPb,sPc]
   refine takeC (i:=3) (v:=?_) rfl rfl (Or.inl ⟨by rfl,?_⟩) ⟨C.out,fun _=>trivial⟩ ?_
   rotate_left
   ·(intro wz hz;(try dsimp only at hz);go_simp;(try with_reducible rfl))
   try simp only [Act.put,sPa,sPb,sPc]
   refine takeC (i:=4) (v:=?_) rfl rfl (Or.inl ⟨by rfl,?_⟩) ⟨C.out,fun _=>trivial⟩ ?_
   rotate_left
   ·(intro wz hz;(try dsimp only at hz);go_simp;(try with_reducible rfl))
   try simp only [Act.put,sPa,sPb,sPc]
   refine takeC (i:=5) (v:=?_) rfl rfl (Or.inl ⟨by rfl,?_⟩) ⟨C.out,fun _=>trivial⟩ ?_
   rotate_left
   ·(intro wz hz;(try dsimp only at hz);go_simp;(try with_reducible rfl))
   try simp only [Act.put,sPa,sPb,sPc]
   refine oneG (i:=1) (by kernel_rfl) rfl (fun K hK=>?_)
   go_simp
   go_at_call 47
   refine HOD.out.mono ?_
   rintro e w8 ⟨sa,sc,rfl,hown,hg8⟩
   have C8:Hid (w8.cell? ⟨b5,0,none⟩=some (.int .i64 M.letters)∧w8.cell? ⟨b5,1,none⟩=some (.int .i64 M.start)∧w8.cell? ⟨b5,2,none⟩=some (.slice sf m cf)∧w8.cell? ⟨b5,3,none⟩=some (.slice sn m cn)):=Kh ⟨zZ C.out.1 hg8,zZ C.out.2.1 hg8,zZ C.out.2.2.1 hg8,zZ C.out.2.2.2 hg8⟩
   refine hK.out _ _ ⟨C8.out,fun _=>trivial⟩ ?_
   have hgl:=tF M m k
   obtain ⟨gs,hgs⟩:∃ gs,gs=gensD M m k:=⟨_,rfl⟩
   have hgT:=kL HMD.out
   rw [← hgs] at hown hgl hgT ⊢
   have hk1:=HMD.out.k1
   have hk6:=HMD.out.k6
   have hof:=of21_any w8.heap.size w4.heap.size w8 (.slice sa gs.length sc) (.slice sf m cf) gs m (st0 M) M.final (Nat.le_refl _) (by have:=HG7.out.size;have:=hg8.size;omega) hown.tmat (((HF4.out.mono HS4.out).kept HG7.out (by simp)).kept hg8 (by simp)) HMD.out.hn HST2.out hgT (by omega) (by omega) (by omega)
   rw [← HST.out] at hof
   have HOF:=Kh hof;have HG8:=Kh (zF HG7.out hg8 (by simp));have HGSE:=Kh hgs
   clear hK K C hown hg8 hgl hgT hk1 hk6 hof hgs
   try simp only [Act.put,sPa,sPb,sPc]
   refine oneG (i:=6) (by kernel_rfl) rfl (fun K hK=>?_)
   go_simp
   go_at_call 46
   refine HOF.out.mono ?_
   rintro e w9 (⟨rfl,hbig,hg9⟩|⟨S,v9,rfl,hSE,hSA,hg9⟩)
   ·have HBIG:=Kh hbig
    clear hbig
    have C9:Hid (w9.cell? ⟨b5,0,none⟩=some (.int .i64 M.letters)∧w9.cell? ⟨b5,1,none⟩=some (.int .i64 M.start)∧w9.cell? ⟨b5,2,none⟩=some (.slice sf m cf)∧w9.cell? ⟨b5,3,none⟩=some (.slice sn m cn)):=Kh ⟨zZ C8.out.1 hg9,zZ C8.out.2.1 hg9,zZ C8.out.2.2.1 hg9,zZ C8.out.2.2.2 hg9⟩
    refine hK.out _ _ ⟨C9.out,fun _=>trivial⟩ ?_
    have hb9:=zE HB14.out (zF HG8.out hg9 (by simp)) (by simp)
    have HB9:=Kh hb9;have HG9:=Kh (zF (zF HG4.out HG8.out (by simp)) hg9 (by simp))
    clear hK K C8 hb9 hg9
    try simp only [Act.put,sPa,sPb,sPc]
    refine takeC (i:=7) (v:=?_) rfl rfl (Or.inl ⟨by rfl,?_⟩) ⟨C9.out,fun _=>trivial⟩ ?_
    rotate_left
    ·(intro wz hz;(try dsimp only at hz);go_simp;(try with_reducible rfl))
    try simp only [Act.put,sPa,sPb,sPc]
    refine takeC (i:=8) (v:=?_) rfl rfl (Or.inl ⟨by rfl,?_⟩) ⟨C9.out,fun _=>trivial⟩ ?_
    rotate_left
    ·(intro wz hz;(try dsimp only at hz);go_simp;(try with_reducible rfl))
    try simp only [Act.put,sPa,sPb,sPc]
    refine oneG (i:=9) (by kernel_rfl) rfl (fun K hK=>?_)
    obtain ⟨p0,p1,p2,p3,p4,p5⟩:=yM HB9.out
    have f0:=zD HB9.out 0;have f1:=zD HB9.out 1;have f2:=zD HB9.out 2;have f3:=zD HB9.out 3;have f4:=zD HB9.out 4;have f5:=zD HB9.out 5
    go_simp
    obtain ⟨hsZ,hgZ⟩:=uX HB9.out (.int .i64 0) (.slice none 0 0) (.slice none 0 0) (.slice none 0 0) (.slice none 0 0) (.slice none 0 0)
    have hbz:∀ q,(Option.some (P+1):Option Nat)=some q→q≠b5:=fun q e e2=>by
     have e:P+1=q:=Oj e
     subst e;subst e2
     have h1:=HB5.out
     have h2:=HB14.out
     rw [h1] at h2
     simp at h2
    have CZ:Hid (((((((w9.setCell ⟨P+1,0,none⟩ (.int .i64 0)).setCell ⟨P+1,1,none⟩ (.slice none 0 0)).setCell ⟨P+1,2,none⟩ (.slice none 0 0)).setCell ⟨P+1,3,none⟩ (.slice none 0 0)).setCell ⟨P+1,4,none⟩ (.slice none 0 0)).setCell ⟨P+1,5,none⟩ (.slice none 0 0)).cell? ⟨b5,0,none⟩=some (.int .i64 M.letters)∧((((((w9.setCell ⟨P+1,0,none⟩ (.int .i64 0)).setCell ⟨P+1,1,none⟩ (.slice none 0 0)).setCell ⟨P+1,2,none⟩ (.slice none 0 0)).setCell ⟨P+1,3,none⟩ (.slice none 0 0)).setCell ⟨P+1,4,none⟩ (.slice none 0 0)).setCell ⟨P+1,5,none⟩ (.slice none 0 0)).cell? ⟨b5,1,none⟩=some (.int .i64 M.start)∧((((((w9.setCell ⟨P+1,0,none⟩ (.int .i64 0)).setCell ⟨P+1,1,none⟩ (.slice none 0 0)).setCell ⟨P+1,2,none⟩ (.slice none 0 0)).setCell ⟨P+1,3,none⟩ (.slice none 0 0)).setCell ⟨P+1,4,none⟩ (.slice none 0 0)).setCell ⟨P+1,5,none⟩ (.slice none 0 0)).cell? ⟨b5,2,none⟩=some (.slice sf m cf)∧((((((w9.setCell ⟨P+1,0,none⟩ (.int .i64 0)).setCell ⟨P+1,1,none⟩ (.slice none 0 0)).setCell ⟨P+1,2,none⟩ (.slice none 0 0)).setCell ⟨P+1,3,none⟩ (.slice none 0 0)).setCell ⟨P+1,4,none⟩ (.slice none 0 0)).setCell ⟨P+1,5,none⟩ (.slice none 0 0)).cell? ⟨b5,3,none⟩=some (.slice sn m cn)):=Kh ⟨rB C9.out.1 hgZ hbz,rB C9.out.2.1 hgZ hbz,rB C9.out.2.2.1 hgZ hbz,rB C9.out.2.2.2 hgZ hbz⟩
    refine hK.out _ _ ⟨CZ.out,fun _=>trivial⟩ ?_
    obtain ⟨wZ,hwZ⟩:∃ wZ,wZ=((((((w9.setCell ⟨P+1,0,none⟩ (.int .i64 0)).setCell ⟨P+1,1,none⟩ (.slice none 0 0)).setCell ⟨P+1,2,none⟩ (.slice none 0 0)).setCell ⟨P+1,3,none⟩ (.slice none 0 0)).setCell ⟨P+1,4,none⟩ (.slice none 0 0)).setCell ⟨P+1,5,none⟩ (.slice none 0 0)):=⟨_,rfl⟩
    rw [← hwZ] at hsZ hgZ CZ ⊢
    have HSZ:=Kh hsZ;have HGZ:=Kh hgZ
    clear hK K p0 p1 p2 p3 p4 p5 f0 f1 f2 f3 f4 f5 hsZ hgZ hwZ hbz
    try simp only [Act.put,sPa,sPb,sPc]
    refine takeC (i:=10) (v:=?_) rfl rfl (Or.inl ⟨by rfl,?_⟩) ⟨CZ.out,fun _=>trivial⟩ ?_
    rotate_left
    ·(intro wz hz;(try dsimp only at hz);go_simp;(try with_reducible rfl))
    try simp only [Act.put,sPa,sPb,sPc]
    refine doneG (by kernel_rfl) ?_ _
    refine NoPanic.normal ?_
    obtain ⟨p0,p1,p2,p3,p4,p5⟩:=yM HSZ.out
    go_wp2
    refine bodyPost_ret (v:=.tuple #[.agg #[.int .i64 0,.slice none 0 0,.slice none 0 0,.slice none 0 0,.slice none 0 0,.slice none 0 0],.int .i64 3]) (by simp [results,Tryd.results15,go_sem,p0,p1,p2,p3,p4,p5]) rfl ?_
    exact .inl ⟨3,rfl,by decide,fun h=>absurd HVD.out.symm h,fun _=>⟨rfl,m,HMN.out,.inr HBIG.out⟩,zF HG9.out HGZ.out (fun j e=>by have e:P+1=j:=Oj e;have:=hPE.out;omega)⟩
   ·have HSA:=Kh hSA
    obtain ⟨vT,vW,vI,vA,vP,rfl,hT,hW,hI,hA,hPl⟩:=hSA
    obtain ⟨tA,tC,rfl⟩:=(TMatT.tmat hT).shape
    obtain ⟨wA',wC,rfl⟩:=hW.shape
    obtain ⟨iA,iC,rfl⟩:=hI.shape
    obtain ⟨aA,aC,rfl⟩:=hA.shape
    obtain ⟨lA,lC,rfl⟩:=hPl.shape
    obtain ⟨tn,htn⟩:∃ tn,tn=S.tab.length:=⟨_,rfl⟩
    obtain ⟨wn,hwn⟩:∃ wn,wn=(strsL S.words).length:=⟨_,rfl⟩
    obtain ⟨iN,hin⟩:∃ iN,iN=(nats S.images).length:=⟨_,rfl⟩
    obtain ⟨aN,han⟩:∃ aN,aN=(bls S.accept).length:=⟨_,rfl⟩
    obtain ⟨lN,hln⟩:∃ lN,lN=(bls S.plus).length:=⟨_,rfl⟩
    rw [← htn] at HSA ⊢;rw [← hwn] at HSA ⊢;rw [← hin] at HSA ⊢;rw [← han] at HSA ⊢;rw [← hln] at HSA ⊢
    have HSE:=Kh hSE
    have HSA9:=HSA
    clear hT hW hI hA hPl hSE htn hwn hin han hln
    have C9:Hid (w9.cell? ⟨b5,0,none⟩=some (.int .i64 M.letters)∧w9.cell? ⟨b5,1,none⟩=some (.int .i64 M.start)∧w9.cell? ⟨b5,2,none⟩=some (.slice sf m cf)∧w9.cell? ⟨b5,3,none⟩=some (.slice sn m cn)):=Kh ⟨zZ C8.out.1 hg9,zZ C8.out.2.1 hg9,zZ C8.out.2.2.1 hg9,zZ C8.out.2.2.2 hg9⟩
    refine hK.out _ _ ⟨C9.out,fun _=>trivial⟩ ?_
    have hb9:=zE HB14.out (zF HG8.out hg9 (by simp)) (by simp)
    have HB9:=Kh hb9;have HG9:=Kh (zF (zF HG4.out HG8.out (by simp)) hg9 (by simp))
    clear hK K C8 hb9 hg9
    try simp only [Act.put,sPa,sPb,sPc]
    refine takeC (i:=7) (v:=?_) rfl rfl (Or.inl ⟨by rfl,?_⟩) ⟨C9.out,fun _=>trivial⟩ ?_
    rotate_left
    ·(intro wz hz;(try dsimp only at hz);go_simp;(try with_reducible rfl))
    try simp only [Act.put,sPa,sPb,sPc]
    refine takeC (i:=8) (v:=?_) rfl rfl (Or.inl ⟨by rfl,?_⟩) ⟨C9.out,fun _=>trivial⟩ ?_
    rotate_left
    ·(intro wz hz;(try dsimp only at hz);go_simp;(try with_reducible rfl))
    try simp only [Act.put,sPa,sPb,sPc]
    refine oneG (i:=9) (by kernel_rfl) rfl (fun K hK=>?_)
    obtain ⟨p0,p1,p2,p3,p4,p5⟩:=yM HB9.out
    have f0:=zD HB9.out 0;have f1:=zD HB9.out 1;have f2:=zD HB9.out 2;have f3:=zD HB9.out 3;have f4:=zD HB9.out 4;have f5:=zD HB9.out 5
    go_simp
    obtain ⟨hsZ,hgZ⟩:=uX HB9.out (.int .i64 S.k) (.slice tA tn tC) (.slice wA' wn wC) (.slice iA iN iC) (.slice aA aN aC) (.slice lA lN lC)
    have hbz:∀ q,(Option.some (P+1):Option Nat)=some q→q≠b5:=fun q e e2=>by
     have e:P+1=q:=Oj e
     subst e;subst e2
     have h1:=HB5.out
     have h2:=HB14.out
     rw [h1] at h2
     simp at h2
    have CZ:Hid (((((((w9.setCell ⟨P+1,0,none⟩ (.int .i64 S.k)).setCell ⟨P+1,1,none⟩ (.slice tA tn tC)).setCell ⟨P+1,2,none⟩ (.slice wA' wn wC)).setCell ⟨P+1,3,none⟩ (.slice iA iN iC)).setCell ⟨P+1,4,none⟩ (.slice aA aN aC)).setCell ⟨P+1,5,none⟩ (.slice lA lN lC)).cell? ⟨b5,0,none⟩=some (.int .i64 M.letters)∧((((((w9.setCell ⟨P+1,0,none⟩ (.int .i64 S.k)).setCell ⟨P+1,1,none⟩ (.slice tA tn tC)).setCell ⟨P+1,2,none⟩ (.slice wA' wn wC)).setCell ⟨P+1,3,none⟩ (.slice iA iN iC)).setCell ⟨P+1,4,none⟩ (.slice aA aN aC)).setCell ⟨P+1,5,none⟩ (.slice lA lN lC)).cell? ⟨b5,1,none⟩=some (.int .i64 M.start)∧((((((w9.setCell ⟨P+1,0,none⟩ (.int .i64 S.k)).setCell ⟨P+1,1,none⟩ (.slice tA tn tC)).setCell ⟨P+1,2,none⟩ (.slice wA' wn wC)).setCell ⟨P+1,3,none⟩ (.slice iA iN iC)).setCell ⟨P+1,4,none⟩ (.slice aA aN aC)).setCell ⟨P+1,5,none⟩ (.slice lA lN lC)).cell? ⟨b5,2,none⟩=some (.slice sf m cf)∧((((((w9.setCell ⟨P+1,0,none⟩ (.int .i64 S.k)).setCell ⟨P+1,1,none⟩ (.slice tA tn tC)).setCell ⟨P+1,2,none⟩ (.slice wA' wn wC)).setCell ⟨P+1,3,none⟩ (.slice iA iN iC)).setCell ⟨P+1,4,none⟩ (.slice aA aN aC)).setCell ⟨P+1,5,none⟩ (.slice lA lN lC)).cell? ⟨b5,3,none⟩=some (.slice sn m cn)):=Kh ⟨rB C9.out.1 hgZ hbz,rB C9.out.2.1 hgZ hbz,rB C9.out.2.2.1 hgZ hbz,rB C9.out.2.2.2 hgZ hbz⟩
    refine hK.out _ _ ⟨CZ.out,fun _=>trivial⟩ ?_
    obtain ⟨wZ,hwZ⟩:∃ wZ,wZ=((((((w9.setCell ⟨P+1,0,none⟩ (.int .i64 S.k)).setCell ⟨P+1,1,none⟩ (.slice tA tn tC)).setCell ⟨P+1,2,none⟩ (.slice wA' wn wC)).setCell ⟨P+1,3,none⟩ (.slice iA iN iC)).setCell ⟨P+1,4,none⟩ (.slice aA aN aC)).setCell ⟨P+1,5,none⟩ (.slice lA lN lC)):=⟨_,rfl⟩
    rw [← hwZ] at hsZ hgZ CZ ⊢
    have HSZ:=Kh hsZ;have HGZ:=Kh hgZ
    clear hK K p0 p1 p2 p3 p4 p5 f0 f1 f2 f3 f4 f5 hsZ hgZ hwZ hbz
    try simp only [Act.put,sPa,sPb,sPc]
    refine takeC (i:=10) (v:=?_) rfl rfl (Or.inl ⟨by rfl,?_⟩) ⟨CZ.out,fun _=>trivial⟩ ?_
    rotate_left
    ·(intro wz hz;(try dsimp only at hz);go_simp;(try with_reducible rfl))
    try simp only [Act.put,sPa,sPb,sPc]
    refine doneG (by kernel_rfl) ?_ _
    refine NoPanic.normal ?_
    obtain ⟨p0,p1,p2,p3,p4,p5⟩:=yM HSZ.out
    go_wp2
    refine bodyPost_ret (v:=.tuple #[.agg #[.int .i64 S.k,.slice tA tn tC,.slice wA' wn wC,.slice iA iN iC,.slice aA aN aC,.slice lA lN lC],.int .i64 0]) (by simp [results,Tryd.results15,go_sem,p0,p1,p2,p3,p4,p5]) rfl ?_
    exact .inr ⟨S,_,n,k,m,M,HVD0.out,HME.out,HMD.out,by omega,rfl,HGSE.out ▸ HSE.out,(HSA9.out.kept HGZ.out (fun q e=>by have e:P+1=q:=Oj e;subst e;exact .inr ⟨_,_,_,HB9.out,by unfold SynNo;decide⟩)).mono HGZ.out.size,zF HG9.out HGZ.out (fun j e=>by have e:P+1=j:=Oj e;have:=hPE.out;omega)⟩
 ·have hv':vd≠0:=hv
  go_wp2
  refine bodyPost_ret (v:=.tuple #[.agg #[.int .i64 0,.slice none 0 0,.slice none 0 0,.slice none 0 0,.slice none 0 0,.slice none 0 0],.int .i64 vd]) (by simp [results,Tryd.results15,go_sem,p0,p1,p2,p3,p4,p5]) rfl ?_
  obtain ⟨hsZ,hgZ⟩:=uX HB12.out (.int .i64 0) (.slice none 0 0) (.slice none 0 0) (.slice none 0 0) (.slice none 0 0) (.slice none 0 0)
  exact .inl ⟨vd,rfl,hv',fun _=>HVD.out,fun h=>absurd (HVD.out.trans h) hv',zF (zF HG.out HG2.out (by simp)) hgZ (fun j e=>by have e:P+1=j:=Oj e;have:=hPE.out;omega)⟩
end Go.Proofs.YtdjhoadoiknaoaaDoor
