/- Part 22 of the proof: Of21, MOrd. -/
import Derived.Test.YtdjhoadoiknaoaaDoorZD21
set_option linter.unusedVariables false
set_option linter.unusedSimpArgs false
namespace Go.Proofs.YtdjhoadoiknaoaaDoor
open Go.RowKit
theorem rX {w w':World} {p:Addr} {u:Value} {row:Option Nat} (h:w.cell? p=some u) (hg:w.grownBy w' row) (hr:∀ k,row=some k→k≠p.block):w'.cell? p=some u:=(World.cell?_of_block (hg.block p.block (World.block_lt_of_cell? w p h) (fun e=>hr _ e.symm rfl))).trans h
theorem eH {M:DfaV} {m k:Nat} (h:VD M m k):∀ g∈kR M m k,IsT m g:=by
 intro g hg
 obtain ⟨a,ha,rfl⟩:=List.mem_map.1 hg
 refine ⟨by simp,fun x hx=>?_⟩
 obtain ⟨q,hq,rfl⟩:=List.mem_map.1 hx
 exact aH h (List.mem_range.1 hq) (List.mem_range.1 ha)
def Huge (d:DfaV):Prop:=∃ m,m≤d.final.length∧(32 < m∨Big m)
def Of21Ok (d:DfaV) (w:World) (e:Ending) (w':World):Prop :=
 (∃ c:Int,e=.returned (.tuple #[.agg #[.int .i64 0,.slice none 0 0,.slice none 0 0,.slice none 0 0,.slice none 0 0,.slice none 0 0],.int .i64 c])∧c≠0∧(sB d≠0→c=sB d)∧(sB d=0→c=3∧Huge d)∧w.grownBy w' none) ∨
 ∃ (S:SynV) (v:Value) (n k m:Nat) (M:DfaV),VD d n k∧M=minD d k∧VD M m k∧m≤32∧e=.returned (.tuple #[v,.int .i64 0])∧SynE (kR M m k) m (st0 M) M.final S∧qAD w'.heap.size w' v S∧w.grownBy w' none
set_option maxRecDepth 100000 in
set_option maxHeartbeats 2000000 in
theorem qAM (B:Nat) (w:World) (v:Value) (d:DfaV) (hB:B≤w.heap.size) (h:mG B w v d) :
  Calls Tryd.prog 15 #[v] w (Of21Ok d w):=by
 obtain ⟨fv,nv,rfl,hf,hn⟩:=id h
 obtain ⟨fA,fC,rfl⟩:=hf.shape
 obtain ⟨nA,nC,rfl⟩:=hn.shape
 rw [vH] at h ⊢
 obtain ⟨nf,hnf⟩:∃ nf,nf=d.final.length:=⟨_,rfl⟩
 obtain ⟨nn,hnn⟩:∃ nn,nn=d.next.length:=⟨_,rfl⟩
 rw [← hnf,← hnn] at h ⊢
 obtain ⟨wA,hWA⟩:∃ wA,wA=(w.alloc (.cells #[.int .i64 d.letters,.int .i64 d.start,.slice fA nf fC,.slice nA nn nC] 28)).alloc (.cells #[.int .i64 0,.slice none 0 0,.slice none 0 0,.slice none 0 0,.slice none 0 0,.slice none 0 0] 33):=⟨_,rfl⟩
 have g1:=Ga w (.cells #[.int .i64 d.letters,.int .i64 d.start,.slice fA nf fC,.slice nA nn nC] 28) none
 have n1:=heap_alloc_new w (.cells #[.int .i64 d.letters,.int .i64 d.start,.slice fA nf fC,.slice nA nn nC] 28)
 obtain ⟨w1,hw1⟩:∃ w1,w1=w.alloc (.cells #[.int .i64 d.letters,.int .i64 d.start,.slice fA nf fC,.slice nA nn nC] 28):=⟨_,rfl⟩
 rw [← hw1] at g1 n1 hWA
 have g2:=Ga w1 (.cells #[.int .i64 0,.slice none 0 0,.slice none 0 0,.slice none 0 0,.slice none 0 0,.slice none 0 0] 33) none
 have n2:=heap_alloc_new w1 (.cells #[.int .i64 0,.slice none 0 0,.slice none 0 0,.slice none 0 0,.slice none 0 0,.slice none 0 0] 33)
 rw [← hWA] at g2 n2
 have hz1:w1.heap.size=w.heap.size+1:=by rw [hw1];simp
 have hb0:=zE n1 g2 (by simp)
 obtain ⟨P,hP⟩:∃ P,P=w.heap.size:=⟨_,rfl⟩
 have hPE:=Kh hP
 rw [hz1] at n2
 rw [← hP] at hb0 n2
 have hgA:=zG g1 g2 (by simp)
 have hda:=h.kept hgA (by simp)
 have HVA:=Kh (validate7_any B wA _ d (Nat.le_trans hB hgA.size) hda)
 have HWA:=Kh hWA;have HW1:=Kh hw1;have HG:=Kh hgA;have HD:=Kh hda;have HB0:=Kh hb0;have HB1:=Kh n2;have HZ1:=Kh hz1
 clear hf hn h hnf hnn hWA g1 n1 hw1 g2 n2 hb0 hgA hda hz1
 go_enter Tryd.func15,Tryd.ntmps15
 go_upto_region 1 with fail
 rw [← HW1.out,← HWA.out,← hPE.out]
 clear hP
 obtain ⟨c0,c1,c2,c3⟩:=zR HB0.out
 go_wp2_with fail
 refine HVA.out.mono ?_
 rintro e w2 ⟨rfl,hg2⟩
 have HG2:=Kh hg2
 have hb02:=zE HB0.out hg2 (by simp)
 have hb12:=zE HB1.out hg2 (by simp)
 have HB02:=Kh hb02;have HB12:=Kh hb12
 obtain ⟨d0,d1,d2,d3⟩:=zR hb02
 obtain ⟨p0,p1,p2,p3,p4,p5⟩:=yT hb12
 have f0:=zD hb12 0;have f1:=zD hb12 1;have f2:=zD hb12 2;have f3:=zD hb12 3;have f4:=zD hb12 4;have f5:=zD hb12 5
 obtain ⟨vd,hvd⟩:∃ vd,vd=sB d:=⟨_,rfl⟩
 have HVD:=Kh hvd
 rw [← hvd]
 clear hg2 hb02 hb12 c0 c1 c2 c3 hvd
 by_cases hv:vd=0
 ·have hvd0:=vd_of (by rw [← HVD.out];exact hv)
  obtain ⟨n,hn⟩:∃ n,n=d.final.length:=⟨_,rfl⟩
  obtain ⟨k,hk⟩:∃ k,k=d.letters.toNat:=⟨_,rfl⟩
  rw [← hn,← hk] at hvd0
  have hdn:=HD.out.kept HG2.out (by simp)
  have HMI:=Kh (minimal_any B w2 _ d n k (by have:=HG.out.size;have:=HG2.out.size;omega) hdn hvd0)
  have HVD0:=Kh hvd0;have HNF:=Kh hn
  clear hn hk hdn hvd0
  subst hv
  clear p0 p1 p2 p3 p4 p5 f0 f1 f2 f3 f4 f5
  go_wp2_with fail
  refine HMI.out.mono ?_
  rintro e w3 ⟨v3,rfl,hnew,hg3⟩
  have hmd:=min_vd HVD0.out
  obtain ⟨M,hM⟩:∃ M,M=minD d k:=⟨_,rfl⟩
  obtain ⟨m,hm⟩:∃ m,m=minN d k:=⟨_,rfl⟩
  have HMN:Hid (m≤d.final.length):=Kh (by rw [hm,← HNF.out];exact qCX HVD0.out)
  rw [← hM,← hm] at hmd
  rw [← hM] at hnew
  have hdf:=hnew.dfa
  obtain ⟨fv,nv,rfl,hf,hn⟩:=id hdf
  obtain ⟨sf,cf,rfl⟩:=hf.shape
  obtain ⟨sn,cn,rfl⟩:=hn.shape
  rw [vH,hmd.hn] at hf hdf ⊢
  rw [hmd.nl] at hn hdf ⊢
  have hb13:=zE HB12.out hg3 (by simp)
  obtain ⟨w4,hw4⟩:∃ w4,w4=w3.alloc (.cells #[.int .i64 M.letters,.int .i64 M.start,.slice sf m cf,.slice sn m cn] 28):=⟨_,rfl⟩
  have hg4:w3.grownBy w4 none:=by rw [hw4];exact Ga w3 _ none
  have hb5:=heap_alloc_new w3 (.cells #[.int .i64 M.letters,.int .i64 M.start,.slice sf m cf,.slice sn m cn] 28)
  rw [← hw4] at hb5
  obtain ⟨b5,he5⟩:∃ b5,b5=w3.heap.size:=⟨_,rfl⟩
  rw [← he5] at hb5
  have hb14:=zE hb13 hg4 (by simp)
  have HB5:=Kh hb5;have HB14:=Kh hb14;have HG4:=Kh (zG (zG (zG HG.out HG2.out (by simp)) hg3 (by simp)) hg4 (by simp));have HW4:=Kh hw4;have HE5:=Kh he5
  have HDF:=Kh (hdf.kept hg4 (by simp));have HMD:=Kh hmd;have HME:=Kh hM;have HS4:=Kh hg4.size;have HF4:=Kh (hf.kept hg4 (by simp))
  obtain ⟨q0,q1,q2,q3⟩:=zR hb5
  obtain ⟨p0,p1,p2,p3,p4,p5⟩:=yT hb14
  have f0:=zD hb14 0;have f1:=zD hb14 1;have f2:=zD hb14 2;have f3:=zD hb14 3;have f4:=zD hb14 4;have f5:=zD hb14 5
  clear hnew hg3 hmd hM hm hdf hf hn hb13 hw4 hg4 hb5 he5 hb14 q0 q1 q3 d0 d1 d2 d3
  go_upto_region 5 with fail
  rw [← HW4.out,← HE5.out]
  by_cases hm32:32 < m
  ·have hm':(32:Int) < m:=by omega
   go_wp2
   refine bodyPost_ret (v:=.tuple #[.agg #[.int .i64 0,.slice none 0 0,.slice none 0 0,.slice none 0 0,.slice none 0 0,.slice none 0 0],.int .i64 3]) (by simp [results,Tryd.results15,go_sem,p0,p1,p2,p3,p4,p5]) rfl ?_
   obtain ⟨hsZ,hgZ⟩:=tP HB14.out (.int .i64 0) (.slice none 0 0) (.slice none 0 0) (.slice none 0 0) (.slice none 0 0) (.slice none 0 0)
   exact .inl ⟨3,rfl,by decide,fun h=>absurd HVD.out.symm h,fun _=>⟨rfl,m,HMN.out,.inl hm32⟩,zG HG4.out hgZ (fun j e=>by have e:P+1=j:=Oj e;have:=hPE.out;omega)⟩
  ·have hm':¬ (32:Int) < m:=by omega
   obtain ⟨w7,hw7⟩:∃ w7,w7=w4.drew:=⟨_,rfl⟩
   have hg7:w4.grownBy w7 none:=by rw [hw7];exact zT w4 none
   have HW7:=Kh hw7;have HG7:=Kh hg7
   have hC:=zR (zE HB5.out hg7 (by simp))
   have C:Hid (w7.cell? ⟨b5,0,none⟩=some (.int .i64 M.letters)∧w7.cell? ⟨b5,1,none⟩=some (.int .i64 M.start)∧w7.cell? ⟨b5,2,none⟩=some (.slice sf m cf)∧w7.cell? ⟨b5,3,none⟩=some (.slice sn m cn)):=Kh hC
   have hst:M.start=((st0 M:Nat):Int):=by rw [st0,Int.toNat_of_nonneg HMD.out.s0]
   have hst2:st0 M < m:=by have:=HMD.out.sn;rw [hst] at this;omega
   have HOD:=Kh (ofDFA_any w4.heap.size w7 _ M m k hg7.size ((HDF.out.mono HS4.out).kept hg7 (by simp)) HMD.out)
   have HST:=Kh hst;have HST2:=Kh hst2
   clear hw7 hg7 hC hst hst2 p0 p1 p2 p3 p4 p5 f0 f1 f2 f3 f4 f5
   go_upto_region 7 with fail
   refine wp_region_noPanic ?_
   refine yY (G:=vV 99 (fun W=>W.cell? ⟨b5,0,none⟩=some (.int .i64 M.letters)∧W.cell? ⟨b5,1,none⟩=some (.int .i64 M.start)∧W.cell? ⟨b5,2,none⟩=some (.slice sf m cf)∧W.cell? ⟨b5,3,none⟩=some (.slice sn m cn)) (fun _=>True)) (by kernel_rfl) ?_
   rw [← HW7.out]
   refine takeC (i:=0) (v:=?_) rfl rfl (Or.inl ⟨by rfl,?_⟩) ⟨C.out,fun _=>trivial⟩ ?_
   rotate_left
   ·(intro wz hz;(try dsimp only at hz);go_simp;(try with_reducible rfl))
   try simp only [Act.put,sPa,sPb,sPc]
   refine takeC (i:=2) (v:=?_) rfl rfl (Or.inl ⟨by rfl,?_⟩) ⟨C.out,fun _=>trivial⟩ ?_
   rotate_left
   ·(intro wz hz;(try dsimp only at hz);go_simp;(try with_reducible rfl))
   try simp only [Act.put,sPa,sPb,sPc]
   refine takeC (i:=3) (v:=?_) rfl rfl (Or.inl ⟨by rfl,?_⟩) ⟨C.out,fun _=>trivial⟩ ?_
   rotate_left
   ·(intro wz hz;(try dsimp only at hz);go_simp;(try with_reducible rfl))
   try simp only [Act.put,sPa,sPb,sPc]
   refine takeC (i:=4) (v:=?_) rfl rfl (Or.inl ⟨by rfl,?_⟩) ⟨C.out,fun _=>trivial⟩ ?_
   rotate_left
   ·(intro wz hz;(try dsimp only at hz);go_simp;(try with_reducible rfl))
   try simp only [Act.put,sPa,sPb,sPc]
   refine takeC (i:=5) (v:=?_) rfl rfl (Or.inl ⟨by rfl,?_⟩) ⟨C.out,fun _=>trivial⟩ ?_
   rotate_left
   ·(intro wz hz;(try dsimp only at hz);go_simp;(try with_reducible rfl))
   try simp only [Act.put,sPa,sPb,sPc]
   refine oneG (i:=1) (by kernel_rfl) rfl (fun K hK=>?_)
   go_simp
   go_at_call 47
   refine HOD.out.mono ?_
   rintro e w8 ⟨sa,sc,rfl,hown,hg8⟩
   have C8:Hid (w8.cell? ⟨b5,0,none⟩=some (.int .i64 M.letters)∧w8.cell? ⟨b5,1,none⟩=some (.int .i64 M.start)∧w8.cell? ⟨b5,2,none⟩=some (.slice sf m cf)∧w8.cell? ⟨b5,3,none⟩=some (.slice sn m cn)):=Kh ⟨yD C.out.1 hg8,yD C.out.2.1 hg8,yD C.out.2.2.1 hg8,yD C.out.2.2.2 hg8⟩
   refine hK.out _ _ ⟨C8.out,fun _=>trivial⟩ ?_
   have hgl:=tW M m k
   obtain ⟨gs,hgs⟩:∃ gs,gs=kR M m k:=⟨_,rfl⟩
   have hgT:=eH HMD.out
   rw [← hgs] at hown hgl hgT ⊢
   have hk1:=HMD.out.k1
   have hk6:=HMD.out.k6
   have hof:=of21_any w8.heap.size w4.heap.size w8 (.slice sa gs.length sc) (.slice sf m cf) gs m (st0 M) M.final (Nat.le_refl _) (by have:=HG7.out.size;have:=hg8.size;omega) hown.tmat (((HF4.out.mono HS4.out).kept HG7.out (by simp)).kept hg8 (by simp)) HMD.out.hn HST2.out hgT (by omega) (by omega) (by omega)
   rw [← HST.out] at hof
   have HOF:=Kh hof;have HG8:=Kh (zG HG7.out hg8 (by simp));have HGSE:=Kh hgs
   clear hK K C hown hg8 hgl hgT hk1 hk6 hof hgs
   try simp only [Act.put,sPa,sPb,sPc]
   refine oneG (i:=6) (by kernel_rfl) rfl (fun K hK=>?_)
   go_simp
   go_at_call 46
   refine HOF.out.mono ?_
   rintro e w9 (⟨rfl,hbig,hg9⟩|⟨S,v9,rfl,hSE,hSA,hg9⟩)
   ·have HBIG:=Kh hbig
    clear hbig
    have C9:Hid (w9.cell? ⟨b5,0,none⟩=some (.int .i64 M.letters)∧w9.cell? ⟨b5,1,none⟩=some (.int .i64 M.start)∧w9.cell? ⟨b5,2,none⟩=some (.slice sf m cf)∧w9.cell? ⟨b5,3,none⟩=some (.slice sn m cn)):=Kh ⟨yD C8.out.1 hg9,yD C8.out.2.1 hg9,yD C8.out.2.2.1 hg9,yD C8.out.2.2.2 hg9⟩
    refine hK.out _ _ ⟨C9.out,fun _=>trivial⟩ ?_
    have hb9:=zE HB14.out (zG HG8.out hg9 (by simp)) (by simp)
    have HB9:=Kh hb9;have HG9:=Kh (zG (zG HG4.out HG8.out (by simp)) hg9 (by simp))
    clear hK K C8 hb9 hg9
    try simp only [Act.put,sPa,sPb,sPc]
    refine takeC (i:=7) (v:=?_) rfl rfl (Or.inl ⟨by rfl,?_⟩) ⟨C9.out,fun _=>trivial⟩ ?_
    rotate_left
    ·(intro wz hz;(try dsimp only at hz);go_simp;(try with_reducible rfl))
    try simp only [Act.put,sPa,sPb,sPc]
    refine takeC (i:=8) (v:=?_) rfl rfl (Or.inl ⟨by rfl,?_⟩) ⟨C9.out,fun _=>trivial⟩ ?_
    rotate_left
    ·(intro wz hz;(try dsimp only at hz);go_simp;(try with_reducible rfl))
    try simp only [Act.put,sPa,sPb,sPc]
    refine oneG (i:=9) (by kernel_rfl) rfl (fun K hK=>?_)
    obtain ⟨p0,p1,p2,p3,p4,p5⟩:=yT HB9.out
    have f0:=zD HB9.out 0;have f1:=zD HB9.out 1;have f2:=zD HB9.out 2;have f3:=zD HB9.out 3;have f4:=zD HB9.out 4;have f5:=zD HB9.out 5
    go_simp
    obtain ⟨hsZ,hgZ⟩:=tP HB9.out (.int .i64 0) (.slice none 0 0) (.slice none 0 0) (.slice none 0 0) (.slice none 0 0) (.slice none 0 0)
    have hbz:∀ q,(Option.some (P+1):Option Nat)=some q→q≠b5:=fun q e e2=>by
     have e:P+1=q:=Oj e
     subst e;subst e2
     have h1:=HB5.out
     have h2:=HB14.out
     rw [h1] at h2
     simp at h2
    have CZ:Hid (((((((w9.setCell ⟨P+1,0,none⟩ (.int .i64 0)).setCell ⟨P+1,1,none⟩ (.slice none 0 0)).setCell ⟨P+1,2,none⟩ (.slice none 0 0)).setCell ⟨P+1,3,none⟩ (.slice none 0 0)).setCell ⟨P+1,4,none⟩ (.slice none 0 0)).setCell ⟨P+1,5,none⟩ (.slice none 0 0)).cell? ⟨b5,0,none⟩=some (.int .i64 M.letters)∧((((((w9.setCell ⟨P+1,0,none⟩ (.int .i64 0)).setCell ⟨P+1,1,none⟩ (.slice none 0 0)).setCell ⟨P+1,2,none⟩ (.slice none 0 0)).setCell ⟨P+1,3,none⟩ (.slice none 0 0)).setCell ⟨P+1,4,none⟩ (.slice none 0 0)).setCell ⟨P+1,5,none⟩ (.slice none 0 0)).cell? ⟨b5,1,none⟩=some (.int .i64 M.start)∧((((((w9.setCell ⟨P+1,0,none⟩ (.int .i64 0)).setCell ⟨P+1,1,none⟩ (.slice none 0 0)).setCell ⟨P+1,2,none⟩ (.slice none 0 0)).setCell ⟨P+1,3,none⟩ (.slice none 0 0)).setCell ⟨P+1,4,none⟩ (.slice none 0 0)).setCell ⟨P+1,5,none⟩ (.slice none 0 0)).cell? ⟨b5,2,none⟩=some (.slice sf m cf)∧((((((w9.setCell ⟨P+1,0,none⟩ (.int .i64 0)).setCell ⟨P+1,1,none⟩ (.slice none 0 0)).setCell ⟨P+1,2,none⟩ (.slice none 0 0)).setCell ⟨P+1,3,none⟩ (.slice none 0 0)).setCell ⟨P+1,4,none⟩ (.slice none 0 0)).setCell ⟨P+1,5,none⟩ (.slice none 0 0)).cell? ⟨b5,3,none⟩=some (.slice sn m cn)):=Kh ⟨rX C9.out.1 hgZ hbz,rX C9.out.2.1 hgZ hbz,rX C9.out.2.2.1 hgZ hbz,rX C9.out.2.2.2 hgZ hbz⟩
    refine hK.out _ _ ⟨CZ.out,fun _=>trivial⟩ ?_
    obtain ⟨wZ,hwZ⟩:∃ wZ,wZ=((((((w9.setCell ⟨P+1,0,none⟩ (.int .i64 0)).setCell ⟨P+1,1,none⟩ (.slice none 0 0)).setCell ⟨P+1,2,none⟩ (.slice none 0 0)).setCell ⟨P+1,3,none⟩ (.slice none 0 0)).setCell ⟨P+1,4,none⟩ (.slice none 0 0)).setCell ⟨P+1,5,none⟩ (.slice none 0 0)):=⟨_,rfl⟩
    rw [← hwZ] at hsZ hgZ CZ ⊢
    have HSZ:=Kh hsZ;have HGZ:=Kh hgZ
    clear hK K p0 p1 p2 p3 p4 p5 f0 f1 f2 f3 f4 f5 hsZ hgZ hwZ hbz
    try simp only [Act.put,sPa,sPb,sPc]
    refine takeC (i:=10) (v:=?_) rfl rfl (Or.inl ⟨by rfl,?_⟩) ⟨CZ.out,fun _=>trivial⟩ ?_
    rotate_left
    ·(intro wz hz;(try dsimp only at hz);go_simp;(try with_reducible rfl))
    try simp only [Act.put,sPa,sPb,sPc]
    refine nW (by kernel_rfl) ?_ _
    refine NoPanic.normal ?_
    obtain ⟨p0,p1,p2,p3,p4,p5⟩:=yT HSZ.out
    go_wp2
    refine bodyPost_ret (v:=.tuple #[.agg #[.int .i64 0,.slice none 0 0,.slice none 0 0,.slice none 0 0,.slice none 0 0,.slice none 0 0],.int .i64 3]) (by simp [results,Tryd.results15,go_sem,p0,p1,p2,p3,p4,p5]) rfl ?_
    exact .inl ⟨3,rfl,by decide,fun h=>absurd HVD.out.symm h,fun _=>⟨rfl,m,HMN.out,.inr HBIG.out⟩,zG HG9.out HGZ.out (fun j e=>by have e:P+1=j:=Oj e;have:=hPE.out;omega)⟩
   ·have HSA:=Kh hSA
    obtain ⟨vT,vW,vI,vA,vP,rfl,hT,hW,hI,hA,hPl⟩:=hSA
    obtain ⟨tA,tC,rfl⟩:=(qI.tmat hT).shape
    obtain ⟨wA',wC,rfl⟩:=hW.shape
    obtain ⟨iA,iC,rfl⟩:=hI.shape
    obtain ⟨aA,aC,rfl⟩:=hA.shape
    obtain ⟨lA,lC,rfl⟩:=hPl.shape
    obtain ⟨tn,htn⟩:∃ tn,tn=S.tab.length:=⟨_,rfl⟩
    obtain ⟨wn,hwn⟩:∃ wn,wn=(tX S.words).length:=⟨_,rfl⟩
    obtain ⟨iN,hin⟩:∃ iN,iN=(nats S.images).length:=⟨_,rfl⟩
    obtain ⟨aN,han⟩:∃ aN,aN=(bls S.accept).length:=⟨_,rfl⟩
    obtain ⟨lN,hln⟩:∃ lN,lN=(bls S.plus).length:=⟨_,rfl⟩
    rw [← htn] at HSA ⊢;rw [← hwn] at HSA ⊢;rw [← hin] at HSA ⊢;rw [← han] at HSA ⊢;rw [← hln] at HSA ⊢
    have HSE:=Kh hSE
    have HSA9:=HSA
    clear hT hW hI hA hPl hSE htn hwn hin han hln
    have C9:Hid (w9.cell? ⟨b5,0,none⟩=some (.int .i64 M.letters)∧w9.cell? ⟨b5,1,none⟩=some (.int .i64 M.start)∧w9.cell? ⟨b5,2,none⟩=some (.slice sf m cf)∧w9.cell? ⟨b5,3,none⟩=some (.slice sn m cn)):=Kh ⟨yD C8.out.1 hg9,yD C8.out.2.1 hg9,yD C8.out.2.2.1 hg9,yD C8.out.2.2.2 hg9⟩
    refine hK.out _ _ ⟨C9.out,fun _=>trivial⟩ ?_
    have hb9:=zE HB14.out (zG HG8.out hg9 (by simp)) (by simp)
    have HB9:=Kh hb9;have HG9:=Kh (zG (zG HG4.out HG8.out (by simp)) hg9 (by simp))
    clear hK K C8 hb9 hg9
    try simp only [Act.put,sPa,sPb,sPc]
    refine takeC (i:=7) (v:=?_) rfl rfl (Or.inl ⟨by rfl,?_⟩) ⟨C9.out,fun _=>trivial⟩ ?_
    rotate_left
    ·(intro wz hz;(try dsimp only at hz);go_simp;(try with_reducible rfl))
    try simp only [Act.put,sPa,sPb,sPc]
    refine takeC (i:=8) (v:=?_) rfl rfl (Or.inl ⟨by rfl,?_⟩) ⟨C9.out,fun _=>trivial⟩ ?_
    rotate_left
    ·(intro wz hz;(try dsimp only at hz);go_simp;(try with_reducible rfl))
    try simp only [Act.put,sPa,sPb,sPc]
    refine oneG (i:=9) (by kernel_rfl) rfl (fun K hK=>?_)
    obtain ⟨p0,p1,p2,p3,p4,p5⟩:=yT HB9.out
    have f0:=zD HB9.out 0;have f1:=zD HB9.out 1;have f2:=zD HB9.out 2;have f3:=zD HB9.out 3;have f4:=zD HB9.out 4;have f5:=zD HB9.out 5
    go_simp
    obtain ⟨hsZ,hgZ⟩:=tP HB9.out (.int .i64 S.k) (.slice tA tn tC) (.slice wA' wn wC) (.slice iA iN iC) (.slice aA aN aC) (.slice lA lN lC)
    have hbz:∀ q,(Option.some (P+1):Option Nat)=some q→q≠b5:=fun q e e2=>by
     have e:P+1=q:=Oj e
     subst e;subst e2
     have h1:=HB5.out
     have h2:=HB14.out
     rw [h1] at h2
     simp at h2
    have CZ:Hid (((((((w9.setCell ⟨P+1,0,none⟩ (.int .i64 S.k)).setCell ⟨P+1,1,none⟩ (.slice tA tn tC)).setCell ⟨P+1,2,none⟩ (.slice wA' wn wC)).setCell ⟨P+1,3,none⟩ (.slice iA iN iC)).setCell ⟨P+1,4,none⟩ (.slice aA aN aC)).setCell ⟨P+1,5,none⟩ (.slice lA lN lC)).cell? ⟨b5,0,none⟩=some (.int .i64 M.letters)∧((((((w9.setCell ⟨P+1,0,none⟩ (.int .i64 S.k)).setCell ⟨P+1,1,none⟩ (.slice tA tn tC)).setCell ⟨P+1,2,none⟩ (.slice wA' wn wC)).setCell ⟨P+1,3,none⟩ (.slice iA iN iC)).setCell ⟨P+1,4,none⟩ (.slice aA aN aC)).setCell ⟨P+1,5,none⟩ (.slice lA lN lC)).cell? ⟨b5,1,none⟩=some (.int .i64 M.start)∧((((((w9.setCell ⟨P+1,0,none⟩ (.int .i64 S.k)).setCell ⟨P+1,1,none⟩ (.slice tA tn tC)).setCell ⟨P+1,2,none⟩ (.slice wA' wn wC)).setCell ⟨P+1,3,none⟩ (.slice iA iN iC)).setCell ⟨P+1,4,none⟩ (.slice aA aN aC)).setCell ⟨P+1,5,none⟩ (.slice lA lN lC)).cell? ⟨b5,2,none⟩=some (.slice sf m cf)∧((((((w9.setCell ⟨P+1,0,none⟩ (.int .i64 S.k)).setCell ⟨P+1,1,none⟩ (.slice tA tn tC)).setCell ⟨P+1,2,none⟩ (.slice wA' wn wC)).setCell ⟨P+1,3,none⟩ (.slice iA iN iC)).setCell ⟨P+1,4,none⟩ (.slice aA aN aC)).setCell ⟨P+1,5,none⟩ (.slice lA lN lC)).cell? ⟨b5,3,none⟩=some (.slice sn m cn)):=Kh ⟨rX C9.out.1 hgZ hbz,rX C9.out.2.1 hgZ hbz,rX C9.out.2.2.1 hgZ hbz,rX C9.out.2.2.2 hgZ hbz⟩
    refine hK.out _ _ ⟨CZ.out,fun _=>trivial⟩ ?_
    obtain ⟨wZ,hwZ⟩:∃ wZ,wZ=((((((w9.setCell ⟨P+1,0,none⟩ (.int .i64 S.k)).setCell ⟨P+1,1,none⟩ (.slice tA tn tC)).setCell ⟨P+1,2,none⟩ (.slice wA' wn wC)).setCell ⟨P+1,3,none⟩ (.slice iA iN iC)).setCell ⟨P+1,4,none⟩ (.slice aA aN aC)).setCell ⟨P+1,5,none⟩ (.slice lA lN lC)):=⟨_,rfl⟩
    rw [← hwZ] at hsZ hgZ CZ ⊢
    have HSZ:=Kh hsZ;have HGZ:=Kh hgZ
    clear hK K p0 p1 p2 p3 p4 p5 f0 f1 f2 f3 f4 f5 hsZ hgZ hwZ hbz
    try simp only [Act.put,sPa,sPb,sPc]
    refine takeC (i:=10) (v:=?_) rfl rfl (Or.inl ⟨by rfl,?_⟩) ⟨CZ.out,fun _=>trivial⟩ ?_
    rotate_left
    ·(intro wz hz;(try dsimp only at hz);go_simp;(try with_reducible rfl))
    try simp only [Act.put,sPa,sPb,sPc]
    refine nW (by kernel_rfl) ?_ _
    refine NoPanic.normal ?_
    obtain ⟨p0,p1,p2,p3,p4,p5⟩:=yT HSZ.out
    go_wp2
    refine bodyPost_ret (v:=.tuple #[.agg #[.int .i64 S.k,.slice tA tn tC,.slice wA' wn wC,.slice iA iN iC,.slice aA aN aC,.slice lA lN lC],.int .i64 0]) (by simp [results,Tryd.results15,go_sem,p0,p1,p2,p3,p4,p5]) rfl ?_
    exact .inr ⟨S,_,n,k,m,M,HVD0.out,HME.out,HMD.out,by omega,rfl,HGSE.out ▸ HSE.out,(HSA9.out.kept HGZ.out (fun q e=>by have e:P+1=q:=Oj e;subst e;exact .inr ⟨_,_,_,HB9.out,by unfold SynNo;decide⟩)).mono HGZ.out.size,zG HG9.out HGZ.out (fun j e=>by have e:P+1=j:=Oj e;have:=hPE.out;omega)⟩
 ·have hv':vd≠0:=hv
  go_wp2
  refine bodyPost_ret (v:=.tuple #[.agg #[.int .i64 0,.slice none 0 0,.slice none 0 0,.slice none 0 0,.slice none 0 0,.slice none 0 0],.int .i64 vd]) (by simp [results,Tryd.results15,go_sem,p0,p1,p2,p3,p4,p5]) rfl ?_
  obtain ⟨hsZ,hgZ⟩:=tP HB12.out (.int .i64 0) (.slice none 0 0) (.slice none 0 0) (.slice none 0 0) (.slice none 0 0) (.slice none 0 0)
  exact .inl ⟨vd,rfl,hv',fun _=>HVD.out,fun h=>absurd (HVD.out.trans h) hv',zG (zG HG.out HG2.out (by simp)) hgZ (fun j e=>by have e:P+1=j:=Oj e;have:=hPE.out;omega)⟩
def lF (R:DfaV→Nat→Prop) (B tb:Nat) (w:World) (letters most:Nat) (e:Ending) (w':World):Prop :=
 ∃ (v:Value) (m:DfaV) (n:Nat),e=.returned v∧qCD w w' v m∧VD m n letters∧n≤most∧R m n∧wD B w' tb∧w.grownBy w' (some tb)
def qCI (t:List (List Int)) (k q a:Nat):Prop:=∀ q' a',a' < k→(q' < q∨(q'=q∧a' < a))→(q':Int)≤ent t q' a'
def OrdD (m:DfaV) (n:Nat):Prop:=m.start=0∧∀ k:Nat,m.letters=k→qCI m.next k n 0
theorem lW {t:List (List Int)} {q a q' a':Nat} {x:Int} (hq:q < t.length) (ha:a < (t.getD q []).length):ent (t.set q ((t.getD q []).set a x)) q' a'=if q'=q∧a'=a then x else ent t q' a':=by
 unfold ent
 by_cases h:q'=q
 ·subst h
  rw [xK _ _ _ _ hq]
  by_cases h2:a'=a
  ·subst h2;rw [xK _ _ _ _ ha];simp
  ·rw [getD_set_ne _ _ _ _ _ (Ne.symm h2)];simp [h2]
 ·rw [getD_set_ne _ _ _ _ _ (Ne.symm h)];simp [h]
theorem qCI.step {t:List (List Int)} {k q a:Nat} {x:Int} (h:qCI t k q a) (hq:q < t.length) (ha:a < (t.getD q []).length) (hx:(q:Int)≤x):qCI (t.set q ((t.getD q []).set a x)) k q (a+1):=by
 intro q' a' h1 h2
 rw [lW hq ha]
 split
 ·rename_i h3;rw [h3.1];exact hx
 ·rename_i h3
  refine h q' a' h1 ?_
  rcases h2 with h2|⟨h2,h4⟩
  ·exact .inl h2
  ·exact .inr ⟨h2,by
    rcases Nat.lt_or_ge a' a with h5|h5
    ·exact h5
    ·exact absurd ⟨h2,by omega⟩ h3⟩
theorem pL.ent {t:List (List Int)} {n k q a:Nat} (h:pL t n k) (hq:q < t.length) (ha:a < k):0≤ent t q a∧ent t q a < n:=by
 have h:=h (t.getD q []) (tH hq)
 have ha2:a < (t.getD q []).length:=by omega
 exact h.2 ((t.getD q []).getD a 0) (tH ha2)
theorem Half.start {base o:Nat} {W:World} {L S:Int} {fs:List Bool} {t:List (List Int)} {hs:List Value} {sf sn:Option Addr} {cf cn:Nat} (h:Half base W o L S fs t hs sf cf sn cn) (S':Int):Half base (W.setCell ⟨o,1,none⟩ (.int .i64 S')) o L S' fs t hs sf cf sn cn:=by
 have hgr:=zH W ⟨o,1,none⟩ (.int .i64 S')
 have s1:=heap_setCell_same W o 1 _ _ (.int .i64 S') h.box
 refine ⟨by rw [s1];simp,h.ownF.kept hgr (.inr (zS h.ownF h.box (by decide))),h.ownN.kept hgr (.inr (zS h.ownN h.box (by decide))),h.rows.kept hgr (fun k e=>.inr ?_)⟩
 have e:o=k:=Oj e
 subst e
 exact ⟨_,_,_,h.box,by decide⟩
set_option maxRecDepth 100000 in
set_option maxHeartbeats 1000000 in
theorem mord_any (B tb:Nat) (w:World) (letters most:Nat) (h1:1≤letters) (h6:letters≤6) (hm1:1≤most) (hm:most≤500) (hT:wD B w tb) :
  Calls Tryd.prog 12 #[.pointer (some ⟨tb,0,none⟩),.int .i64 (letters:Int),.int .i64 (most:Int)] w (lF OrdD B tb w letters most):=by
 have htb:=hT.lt
 have hBt:=hT.ge
 obtain ⟨P,hP⟩:∃ P,P=w.heap.size:=⟨_,rfl⟩
 have HPE:=Kh hP
 obtain ⟨wA,hWA⟩:∃ wA,wA=w.alloc (.cells #[.int .i64 0,.int .i64 0,.slice none 0 0,.slice none 0 0] 28):=⟨_,rfl⟩
 have hbA:=heap_alloc_new w (.cells #[.int .i64 0,.int .i64 0,.slice none 0 0,.slice none 0 0] 28)
 have hgA:=Ga w (.cells #[.int .i64 0,.int .i64 0,.slice none 0 0,.slice none 0 0] 28) none
 have hzA:=zO w (.cells #[.int .i64 0,.int .i64 0,.slice none 0 0,.slice none 0 0] 28)
 rw [← hWA] at hbA hgA hzA
 rw [← hP] at hbA hzA htb
 have HTA:=Kh (hT.kept hgA (by simp))
 have HBA:=Kh hbA;have HGA:=Kh hgA;have HWA:=Kh hWA
 have HD:=Kh (qBM B tb wA letters most h1 h6 hm1 hm HTA.out)
 clear hbA hgA hWA hT
 go_enter Tryd.func12,Tryd.ntmps12
 go_upto_region 1 with fail
 rw [← HWA.out,← HPE.out]
 clear hP
 go_wp2_with fail
 refine HD.out.mono ?_
 rintro e w1 ⟨v,⟨L,S,fs,t⟩,n,rfl,hown,hvd,hnm,hT1,hg1⟩
 obtain ⟨o,hs,sf,cf,sn,cn,rfl,ho,hH⟩:=hown
 have hL:L=letters:=hvd.hk
 subst hL
 have hfn:fs.length=n:=hvd.hn
 have htn:t.length=n:=hvd.nl
 have hri:pL t n letters:=fun r hr=>by
  obtain ⟨q,hq,rfl⟩:=List.getElem_of_mem hr
  have e:t.getD q []=t[q]:=by simp [List.getD_eq_getElem?_getD,hq]
  have hl:t[q].length=letters:=by rw [← e];exact hvd.row q (by omega)
  refine ⟨hl,fun x hx=>?_⟩
  obtain ⟨a,ha,rfl⟩:=List.getElem_of_mem hx
  have e2:ent t q a=t[q][a]:=by unfold Proofs.YtdjhoadoiknaoaaDoor.ent;rw [e];simp [List.getD_eq_getElem?_getD,ha]
  rw [← e2]
  exact ⟨hvd.lo q a (by omega) (by omega),hvd.hi q a (by omega) (by omega)⟩
 have hn1:=hvd.n1
 have hn5:=hvd.n512
 have HG1:=Kh hg1;have HT1:=Kh hT1;have HH:=Kh hH;have HRI:=Kh hri;have HTN:=Kh htn;have HFN:=Kh hfn
 have HB1:=Kh (zE HBA.out hg1 (by simp;omega))
 have HO:=Kh ho
 have hz1:=hg1.size
 clear hg1 hT1 hH hri hvd ho HD HTA HBA
 go_upto_region 2 with fail
 obtain ⟨Q,hQ⟩:∃ Q,Q=w1.heap.size:=⟨_,rfl⟩
 have hgQ:=Ga w1 (.cells #[.int .i64 letters,.int .i64 S,.slice sf n cf,.slice sn n cn] 28) none
 have hbQ:=heap_alloc_new w1 (.cells #[.int .i64 letters,.int .i64 S,.slice sf n cf,.slice sn n cn] 28)
 obtain ⟨w2,hw2⟩:∃ w2,w2=w1.alloc (.cells #[.int .i64 letters,.int .i64 S,.slice sf n cf,.slice sn n cn] 28):=⟨_,rfl⟩
 rw [← hw2] at hbQ hgQ ⊢
 rw [← hQ] at hbQ ⊢
 have hH2:=(HH.out.grow hgQ).move (L':=letters) (S':=S) (o':=Q) (by rw [HFN.out,HTN.out];exact hbQ)
 have HH2:=Kh hH2
 have HB2:=Kh (zE HB1.out hgQ (by simp))
 have HT2:=Kh (HT1.out.kept hgQ (by simp))
 have HG2:=Kh (zG (zF (zG (zW w (some tb)) HGA.out (by simp)) HG1.out) hgQ (by simp))
 obtain ⟨d0,d1,d2,d3⟩:=zR hbQ
 have hPQ:P < Q:=by omega
 clear hgQ hbQ hw2 hH2 HH HB1 HT1 HG1 d0 d1 d2 htn hfn
 have HQ:=Kh hQ
 clear hQ
 go_wp2
 go_loopg [8,9,10,18] n (fun gh v8 v9 v10 i wr=>∃ (q:Nat) (t:List (List Int)),gh+q=n∧i=.int .i64 q∧t.length=n∧pL t n letters∧qCI t letters q 0∧Half wA.heap.size wr Q letters S fs t hs sf cf sn cn∧wD B wr tb∧wr.heap[P]?=some (.cells #[.int .i64 0,.int .i64 0,.slice none 0 0,.slice none 0 0] 28 (0,0))∧w.grownBy wr (some tb))
 case atStart=>exact ⟨0,t,by omega,rfl,HTN.out,HRI.out,fun q' a' _ h=>by omega,HH2.out,HT2.out,HB2.out,HG2.out⟩
 case round =>
  obtain ⟨q,t,hg,rfl,htn,hri,hord,hH,hTr,hbr,hgr⟩:=hrel
  have HG:=Kh hg;have HH:=Kh hH;have HTR:=Kh hTr;have HBR:=Kh hbr;have HGR:=Kh hgr;have HRI2:=Kh hri;have HORD:=Kh hord;have HTN2:=Kh htn
  clear hg hTr hbr hgr HG2 HT2 HB2 HH2 HRI HTN hord
  by_cases hq:q < n
  ·have hq':(q:Int) < n:=by omega
   have hrl:(t.getD q []).length=letters:=(hri _ (tH (by omega))).1
   obtain ⟨kb,g,c,rfl,e1,e2,e3,e4,e5,e6,e7,e8⟩:=hH.at (q:=q) (by omega) (by omega)
   obtain ⟨d0,d1,d2,d3⟩:=zR hH.box
   rw [hrl] at e3 e4 e5
   rw [htn] at d3 e1
   have E3:=Kh e3;have E2:=Kh e2;have E6:=Kh e6;have E7:=Kh e7
   have hcn:cn≤9223372036854775807:=by unfold maxLen at e2;omega
   have hc:c≤9223372036854775807:=by unfold maxLen at e6;omega
   clear d0 d1 d2 e8 e3 e2 e6 hrl hri htn hH
   go_wp2
   obtain ⟨wo,hwo⟩:∃ wo,wo=wr:=⟨_,rfl⟩
   rw [← hwo] at HH HTR HBR HGR ⊢
   clear d3 e4 hwo wr
   go_loopg [9,10,27] letters (fun gh v9 v10 i wx=>∃ (a:Nat) (t':List (List Int)),gh+a=letters∧i=.int .i64 a∧t'.length=n∧pL t' n letters∧qCI t' letters q a∧Half wA.heap.size wx Q letters S fs t' hs sf cf (some ⟨kb,0,none⟩) cn∧wD B wx tb∧wx.heap[P]?=some (.cells #[.int .i64 0,.int .i64 0,.slice none 0 0,.slice none 0 0] 28 (0,0))∧w.grownBy wx (some tb))
   case atStart=>exact ⟨0,t,by omega,rfl,HTN2.out,HRI2.out,HORD.out,HH.out,HTR.out,HBR.out,HGR.out⟩
   case round =>
    obtain ⟨a,t',hg,rfl,htn,hri,hord,hH,hTr,hbr,hgr⟩:=hrel
    have HG3:=Kh hg;have HH3:=Kh hH;have HTR3:=Kh hTr;have HBR3:=Kh hbr;have HGR3:=Kh hgr;have HRI3:=Kh hri;have HORD3:=Kh hord;have HTN3:=Kh htn
    clear hg hTr hbr hgr HGR HTR HBR HH HRI2 HTN2 HORD hord
    by_cases ha:a < letters
    ·have ha':(a:Int) < letters:=by omega
     have hrl:(t'.getD q []).length=letters:=(hri _ (tH (by omega))).1
     obtain ⟨kb',g',c',e0,e1',e2,e3,e4,e5',e6,e7',e8⟩:=hH.at (q:=q) (by omega) (by omega)
     have e0:kb=kb':=by simpa using e0
     subst e0
     rw [hrl] at e3 e4 e5'
     rw [E3.out] at e3
     simp only [Option.some.injEq,Value.slice.injEq,Addr.mk.injEq,and_true,true_and] at e3
     obtain ⟨rfl,rfl⟩:=e3
     obtain ⟨d0,d1,d2,d3⟩:=zR hH.box
     rw [htn] at d3 e1'
     have hcell:=e8.int a (by omega)
     have hfz:=e8.frozen a
     have hen:=hri.ent (q:=q) (a:=a) (by omega) ha
     have hx:(t'.getD q []).getD a 0=ent t' q a:=rfl
     rw [hx] at hcell
     obtain ⟨x,hxe⟩:∃ x,x=ent t' q a:=⟨_,rfl⟩
     rw [← hxe] at hcell hen
     obtain ⟨x,rfl⟩:∃ y:Nat,x=y:=⟨x.toNat,by omega⟩
     have E8:=Kh e8;have HRL:=Kh hrl
     clear d0 d1 d2 e8 e2 e6 hrl hri htn hH hx hxe
     go_wp2
     go_roundg (letters - (a+1))
     case measure=>have:=HG3.out;omega
     case rel =>
      have hg7:=zH wr ⟨g,a,none⟩ (.int .i64 (max (q:Int) (x:Int)))
      have hgz:P < g:=by omega
      have hgt:w.heap.size≤g:=by have:=HPE.out;omega
      have htbg:tb≠g:=by omega
      refine ⟨a+1,t'.set q ((t'.getD q []).set a (max (q:Int) (x:Int))),by omega,by go_num,by rw [List.length_set];exact HTN3.out,HRI3.out.set (by have:=HTN3.out;omega) (by omega) (by omega),HORD3.out.step (by have:=HTN3.out;omega) (by have:=HRL.out;omega) (by omega),HH3.out.poke E3.out E8.out (by have:=HRL.out;omega) _,HTR3.out.kept hg7 (fun k e=>by have e:g=k:=Oj e;omega),zE HBR3.out hg7 (fun e=>by have e:g=P:=Oj e;omega),zG HGR3.out hg7 (fun k e=>by have e:g=k:=Oj e;omega)⟩
    ·have hal:a=letters:=by have:=HG3.out;omega
     clear hri htn hH
     go_wp2
     go_roundg (n - (q+1))
     case measure=>have:=HG.out;omega
     case rel =>
      refine ⟨q+1,t',by omega,by go_num,HTN3.out,HRI3.out,fun q' a' h1 h2=>HORD3.out q' a' h1 (by omega),HH3.out,HTR3.out,HBR3.out,HGR3.out⟩
  ·have hqn:q=n:=by have:=HG.out;omega
   obtain ⟨d0,d1,d2,d3⟩:=zR hH.box
   obtain ⟨x0,x1,x2,x3⟩:=zR HBR.out
   have f1:=zD hH.box 1
   have y0:=zD HBR.out 0;have y1:=zD HBR.out 1;have y2:=zD HBR.out 2;have y3:=zD HBR.out 3
   clear hri htn hH
   go_wp2
   refine bodyPost_ret (v:=.agg #[.int .i64 letters,.int .i64 0,.slice sf fs.length cf,.slice sn t.length cn]) (by simp [results,Tryd.results12,go_sem,x0,x1,x2,x3,hPQ,Nat.ne_of_lt hPQ,Nat.ne_of_gt hPQ]) rfl ?_
   have hH8:=HH.out.start 0
   have hg8:=zH wr ⟨Q,1,none⟩ (.int .i64 0)
   have hb8:=zE HBR.out hg8 (fun e=>by have e:Q=P:=Oj e;omega)
   obtain ⟨hsR,hgR⟩:=pX hb8 (.int .i64 letters) (.int .i64 0) (.slice sf fs.length cf) (.slice sn t.length cn)
   refine ⟨_,⟨letters,0,fs,t⟩,n,rfl,⟨Q,hs,sf,cf,sn,cn,rfl,by have:=HPE.out;omega,(hH8.base (by have:=HPE.out;omega)).far hgR hb8 (by omega)⟩,HRI2.out.vd h1 h6 hn1 hn5 HFN.out HTN2.out (by omega) (by omega),hnm,⟨rfl,fun k hk=>?_⟩,(HTR.out.kept hg8 (fun k e=>by have e:Q=k:=Oj e;omega)).kept hgR (fun k e=>by have e:P=k:=Oj e;omega),zG (zG HGR.out hg8 (fun k e=>by have e:Q=k:=Oj e;have:=HPE.out;omega)) hgR (fun k e=>by have e:P=k:=Oj e;have:=HPE.out;omega)⟩
   have hk:letters=k:=Int.ofNat.inj hk
   subst hk;subst hqn
   exact HORD.out
end Go.Proofs.YtdjhoadoiknaoaaDoor
