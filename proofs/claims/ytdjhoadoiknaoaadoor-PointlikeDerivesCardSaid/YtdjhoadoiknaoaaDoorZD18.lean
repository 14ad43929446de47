/- Part 18 of the proof: EProc. -/
import Derived.Test.YtdjhoadoiknaoaaDoorZD17
set_option linter.unusedVariables false
set_option linter.unusedSimpArgs false
namespace Go.Proofs.YtdjhoadoiknaoaaDoor
open Go.RowKit
set_option maxRecDepth 100000 in
set_option maxHeartbeats 4000000 in
theorem process12_any (w:World) (P0:Nat) (X:Nat→Prop) (gs els:List (List Nat)) (pre las:List Int) (n m u:Nat) (us hsE:List Value) (gA:Option Addr) (gN gC:Nat) (sE:Option Addr) (cE:Nat) (sP:Option Addr) (cP:Nat) (sL:Option Addr) (cL:Nat) (sU:Option Addr) (cU:Nat) (bd:Nat)
  (hM:EMem X w [⟨P0,22,.slice sE m cE,m,hsE,1⟩,⟨P0,3,.slice sP m cP,m,ints pre,1⟩,⟨P0,3,.slice sL m cL,m,ints las,1⟩,⟨P0,140,.slice sU u cU,u,us,2⟩]) (hE:tY X 3 nats w hsE els) (hG:TX X w (.slice gA gN gC) gs)
  (hoE:∀ v∈hsE,v.oneCell'=true) (hoU:∀ v∈us,v.oneCell'=true) (hl:els.length=m) (hpl:pre.length=m) (hll:las.length=m) (hit:∀ f∈els,IsT n f) (hig:∀ g∈gs,IsT n g) (hgn:gN=gs.length) (hn32:n≤32) (hok:rJ pre las m gs.length) (hk6:gs.length≤6) (hm:m≤7) (hu:u≤7) (hbd:bd≤2001) :
  Calls Tryd.prog 105 #[.agg #[.int .i64 n,.bool true,.slice gA gN gC,.slice sE m cE,.slice sP m cP,.slice sL m cL,.slice none 0 0,.slice sU u cU,.int .i64 0],.int .i64 bd] w (ProcOk gs els pre las n bd (.slice gA gN gC) w):=by
 obtain ⟨wA,hWA⟩:∃ wA,wA=(w.alloc (.cells #[.int .i64 n,.bool true,.slice gA gN gC,.slice sE m cE,.slice sP m cP,.slice sL m cL,.slice none 0 0,.slice sU u cU,.int .i64 0] 106)).alloc (.cells #[.int .i64 0,.bool false,.slice none 0 0,.slice none 0 0,.slice none 0 0,.slice none 0 0,.slice none 0 0,.slice none 0 0,.int .i64 0] 106):=⟨_,rfl⟩
 obtain ⟨hb1,hb2,hgA,hzA⟩:=qQ w #[.int .i64 n,.bool true,.slice gA gN gC,.slice sE m cE,.slice sP m cP,.slice sL m cL,.slice none 0 0,.slice sU u cU,.int .i64 0] #[.int .i64 0,.bool false,.slice none 0 0,.slice none 0 0,.slice none 0 0,.slice none 0 0,.slice none 0 0,.slice none 0 0,.int .i64 0] 106
 rw [← hWA] at hb1 hb2 hgA hzA
 obtain ⟨P,hP⟩:∃ P,P=w.heap.size:=⟨_,rfl⟩
 have HPE:=Kh hP
 rw [← hP] at hb1 hb2 hzA
 obtain ⟨w5,hw5⟩:∃ w5,w5=wA.drew:=⟨_,rfl⟩
 have hg5:wA.grownBy w5 none:=by rw [hw5];exact zT wA none
 have HW5:=Kh hw5
 have hgw:=zG hgA hg5 (by simp)
 have HB1:=Kh (zE hb1 hg5 (by simp));have HB2:=Kh (zE hb2 hg5 (by simp));have HGW:=Kh hgw;have HWA:=Kh hWA
 have HM:=Kh hM;have HE:=Kh hE;have HGV:=Kh hG;have HOE:=Kh hoE;have HOU:=Kh hoU
 have hsz5:=hg5.size
 have HS:Hid ((∀ W:World,GrownBut w5 W (fun _=>False)→tD W 1 (.slice sE m cE) m hsE)∧(∀ W:World,GrownBut w5 W (fun _=>False)→tD W 1 (.slice sP m cP) m (ints pre))∧(∀ W:World,GrownBut w5 W (fun _=>False)→tD W 1 (.slice sL m cL) m (ints las))∧(∀ W:World,GrownBut w5 W (fun _=>False)→tD W 1 (.slice none 0 0) 0 [])∧(∀ W:World,GrownBut w5 W (fun _=>False)→tD W 2 (.slice sU u cU) u us)):=Kh (by
  refine ⟨fun W hW=>gY (nD (hM.own ⟨P0,22,.slice sE m cE,m,hsE,1⟩ (by simp))) (zG hgw (lX hW) (by simp)),fun W hW=>gY (nD (hM.own ⟨P0,3,.slice sP m cP,m,ints pre,1⟩ (by simp))) (zG hgw (lX hW) (by simp)),fun W hW=>gY (nD (hM.own ⟨P0,3,.slice sL m cL,m,ints las,1⟩ (by simp))) (zG hgw (lX hW) (by simp)),fun W _=>.inl ⟨none,0,rfl,rfl,rfl⟩,fun W hW=>gY (nD (hM.own ⟨P0,140,.slice sU u cU,u,us,2⟩ (by simp))) (zG hgw (lX hW) (by simp))⟩)
 clear hb1 hb2 hgA hWA hw5 hg5 hgw hM hE hG hoE hoU
 have HIT:=Kh hit;have HIG:=Kh hig;have HLE:=Kh hl
 clear hit hig hl
 have HGN:=Kh hgn
 clear hgn
 have HPL:=Kh hpl;have HLL:=Kh hll;have HOK:=Kh hok
 clear hpl hll hok
 have hmm:=@run_makeMap Tryd.prog
 go_enter Tryd.func105,Tryd.ntmps105
 go_upto_region 1 with fail
 rw [← HWA.out,← HPE.out]
 clear hP
 have C:Hid (w5.cell? ⟨P,0,none⟩=some (.int .i64 n)∧w5.cell? ⟨P,1,none⟩=some (.bool true)∧w5.cell? ⟨P,2,none⟩=some (.slice gA gN gC)∧w5.cell? ⟨P,3,none⟩=some (.slice sE m cE)∧w5.cell? ⟨P,4,none⟩=some (.slice sP m cP)∧w5.cell? ⟨P,5,none⟩=some (.slice sL m cL)∧w5.cell? ⟨P,6,none⟩=some (.slice none 0 0)∧w5.cell? ⟨P,7,none⟩=some (.slice sU u cU)∧w5.cell? ⟨P,8,none⟩=some (.int .i64 0)):=Kh (by
  obtain ⟨q0,q1,q2,q3,q4,q5,q6,q7,q8⟩:=zX HB1.out
  exact ⟨q0,q1,q2,q3,q4,q5,q6,q7,q8⟩)
 refine wp_region_noPanic ?_
 refine yY (G:=vV 99 (fun W=>W.cell? ⟨P,0,none⟩=some (.int .i64 n)∧W.cell? ⟨P,1,none⟩=some (.bool true)∧W.cell? ⟨P,2,none⟩=some (.slice gA gN gC)∧W.cell? ⟨P,3,none⟩=some (.slice sE m cE)∧W.cell? ⟨P,4,none⟩=some (.slice sP m cP)∧W.cell? ⟨P,5,none⟩=some (.slice sL m cL)∧W.cell? ⟨P,6,none⟩=some (.slice none 0 0)∧W.cell? ⟨P,7,none⟩=some (.slice sU u cU)∧W.cell? ⟨P,8,none⟩=some (.int .i64 0)) (fun _=>True)) (by kernel_rfl) ?_
 rw [← HW5.out]
 refine takeC (i:=0) (v:=?_) rfl rfl (Or.inl ⟨by rfl,?_⟩) ⟨C.out,fun _=>trivial⟩ ?_
 rotate_left
 ·(intro wz hz;(try dsimp only at hz);go_simp;(try with_reducible rfl))
 try simp only [Act.put,sPa,sPb,sPc]
 refine takeC (i:=1) (v:=?_) rfl rfl (Or.inl ⟨by rfl,?_⟩) ⟨C.out,fun _=>trivial⟩ ?_
 rotate_left
 ·(intro wz hz;(try dsimp only at hz);go_simp;(try with_reducible rfl))
 try simp only [Act.put,sPa,sPb,sPc]
 refine takeC (i:=2) (v:=?_) rfl rfl (Or.inl ⟨by rfl,?_⟩) ⟨C.out,fun _=>trivial⟩ ?_
 rotate_left
 ·(intro wz hz;(try dsimp only at hz);go_simp;(try with_reducible rfl))
 try simp only [Act.put,sPa,sPb,sPc]
 refine takeC (i:=3) (v:=?_) rfl rfl (Or.inl ⟨by rfl,?_⟩) ⟨C.out,fun _=>trivial⟩ ?_
 rotate_left
 ·(intro wz hz;(try dsimp only at hz);go_simp;(try with_reducible rfl))
 try simp only [Act.put,sPa,sPb,sPc]
 refine takeC (i:=4) (v:=?_) rfl rfl (Or.inl ⟨by rfl,?_⟩) ⟨C.out,fun _=>trivial⟩ ?_
 rotate_left
 ·(intro wz hz;(try dsimp only at hz);go_simp;(try with_reducible rfl))
 try simp only [Act.put,sPa,sPb,sPc]
 refine takeC (i:=5) (v:=?_) rfl rfl (Or.inl ⟨by rfl,?_⟩) ⟨C.out,fun _=>trivial⟩ ?_
 rotate_left
 ·(intro wz hz;(try dsimp only at hz);go_simp;(try with_reducible rfl))
 try simp only [Act.put,sPa,sPb,sPc]
 refine takeC (i:=7) (v:=?_) rfl rfl (Or.inl ⟨by rfl,?_⟩) ⟨C.out,fun _=>trivial⟩ ?_
 rotate_left
 ·(intro wz hz;(try dsimp only at hz);go_simp;(try with_reducible rfl))
 try simp only [Act.put,sPa,sPb,sPc]
 refine takeC (i:=8) (v:=?_) rfl rfl (Or.inl ⟨by rfl,?_⟩) ⟨C.out,fun _=>trivial⟩ ?_
 rotate_left
 ·(intro wz hz;(try dsimp only at hz);go_simp;(try with_reducible rfl))
 try simp only [Act.put,sPa,sPb,sPc]
 refine takeC (i:=11) (v:=?_) rfl rfl (Or.inl ⟨by rfl,?_⟩) ⟨C.out,fun _=>trivial⟩ ?_
 rotate_left
 ·(intro wz hz;(try dsimp only at hz);go_simp;(try with_reducible rfl))
 try simp only [Act.put,sPa,sPb,sPc]
 refine takeC (i:=12) (v:=?_) rfl rfl (Or.inl ⟨by rfl,?_⟩) ⟨C.out,fun _=>trivial⟩ ?_
 rotate_left
 ·(intro wz hz;(try dsimp only at hz);go_simp;(try with_reducible rfl))
 try simp only [Act.put,sPa,sPb,sPc]
 refine takeC (i:=15) (v:=?_) rfl rfl (Or.inl ⟨by rfl,?_⟩) ⟨C.out,fun _=>trivial⟩ ?_
 rotate_left
 ·(intro wz hz;(try dsimp only at hz);go_simp;(try with_reducible rfl))
 try simp only [Act.put,sPa,sPb,sPc]
 refine takeC (i:=16) (v:=?_) rfl rfl (Or.inl ⟨by rfl,?_⟩) ⟨C.out,fun _=>trivial⟩ ?_
 rotate_left
 ·(intro wz hz;(try dsimp only at hz);go_simp;(try with_reducible rfl))
 try simp only [Act.put,sPa,sPb,sPc]
 refine takeC (i:=19) (v:=?_) rfl rfl (Or.inl ⟨by rfl,?_⟩) ⟨C.out,fun _=>trivial⟩ ?_
 rotate_left
 ·(intro wz hz;(try dsimp only at hz);go_simp;(try with_reducible rfl))
 try simp only [Act.put,sPa,sPb,sPc]
 refine takeC (i:=20) (v:=?_) rfl rfl (Or.inl ⟨by rfl,?_⟩) ⟨C.out,fun _=>trivial⟩ ?_
 rotate_left
 ·(intro wz hz;(try dsimp only at hz);go_simp;(try with_reducible rfl))
 try simp only [Act.put,sPa,sPb,sPc]
 refine takeC (i:=23) (v:=?_) rfl rfl (Or.inl ⟨by rfl,?_⟩) ⟨C.out,fun _=>trivial⟩ ?_
 rotate_left
 ·(intro wz hz;(try dsimp only at hz);go_simp;(try with_reducible rfl))
 try simp only [Act.put,sPa,sPb,sPc]
 refine takeC (i:=24) (v:=?_) rfl rfl (Or.inl ⟨by rfl,?_⟩) ⟨C.out,fun _=>trivial⟩ ?_
 rotate_left
 ·(intro wz hz;(try dsimp only at hz);go_simp;(try with_reducible rfl))
 try simp only [Act.put,sPa,sPb,sPc]
 refine takeC (i:=26) (v:=?_) rfl rfl (Or.inl ⟨by rfl,?_⟩) ⟨C.out,fun _=>trivial⟩ ?_
 rotate_left
 ·(intro wz hz;(try dsimp only at hz);go_simp;(try with_reducible rfl))
 try simp only [Act.put,sPa,sPb,sPc]
 refine takeC (i:=27) (v:=?_) rfl rfl (Or.inl ⟨by rfl,?_⟩) ⟨C.out,fun _=>trivial⟩ ?_
 rotate_left
 ·(intro wz hz;(try dsimp only at hz);go_simp;(try with_reducible rfl))
 try simp only [Act.put,sPa,sPb,sPc]
 refine tF (fun Wp hWp a0 ha0=>?_)
 subst hWp
 simp only [Act.put,List.getElem_toArray,List.getElem_cons_zero,List.getElem_cons_succ,sPa,sPb,sPc] at ha0
 have HA0:=Kh ha0
 refine tE (I:=proc1I n P P m u pre las us hsE sE cE sP cP sL cL sU cU gA gN gC w5 a0) (fun l a w h=>proc1_G HB1.out h) (proc1_steps ha0 (by omega) (by omega) (by omega) HS.out.1 HS.out.2.1 HS.out.2.2.1 HS.out.2.2.2.1 HS.out.2.2.2.2 HOE.out (fun v hv=>by obtain ⟨y,_,rfl⟩:=List.mem_map.1 hv;rfl) (fun v hv=>by obtain ⟨y,_,rfl⟩:=List.mem_map.1 hv;rfl) (fun v hv=>by simp at hv) HOU.out) (by kernel_rfl) ?hend (by decide +kernel) ?hinit
 case hinit =>
  clear ha0
  refine ⟨a0.tmps.getD 24 undef,a0.tmps.getD 27 undef,a0.tmps.getD 28 undef,a0.tmps.getD 31 undef,a0.tmps.getD 32 undef,a0.tmps.getD 35 undef,a0.tmps.getD 36 undef,a0.tmps.getD 39 undef,a0.tmps.getD 40 undef,a0.tmps.getD 43 undef,a0.tmps.getD 46 undef,a0.tmps.getD 6 undef,.slice none 0 0,0,[],.slice none 0 0,0,[],.slice none 0 0,0,[],.slice none 0 0,0,[],.slice none 0 0,0,[],0,(uI (by simp)).symm,by decide +kernel,Kh (fun _=>⟨rfl,rfl,rfl⟩),Kh (fun h=>absurd h (by decide +kernel)),Kh (fun h=>absurd h (by decide +kernel)),Kh (fun _=>⟨rfl,rfl,rfl⟩),Kh (fun h=>absurd h (by decide +kernel)),Kh (fun h=>absurd h (by decide +kernel)),Kh (fun _=>⟨rfl,rfl,rfl⟩),Kh (fun h=>absurd h (by decide +kernel)),Kh (fun h=>absurd h (by decide +kernel)),Kh (fun _=>⟨rfl,rfl,rfl⟩),Kh (fun h=>absurd h (by decide +kernel)),Kh (fun h=>absurd h (by decide +kernel)),Kh (fun _=>⟨rfl,rfl,rfl⟩),Kh (fun h=>absurd h (by decide +kernel)),Kh (fun h=>absurd h (by decide +kernel)),Kh (fun h=>absurd h (by decide +kernel)),Kh (fun h=>absurd h (by decide +kernel)),Kh (fun h=>absurd h (by decide +kernel)),Kh (fun h=>absurd h (by decide +kernel)),?hMM⟩
  refine Many.start (fun r hr=>?_) (fun r hr k hk=>?_) ?_
  ·simp only [List.mem_cons,List.not_mem_nil,or_false] at hr
   rcases hr with rfl|rfl|rfl|rfl|rfl <;> exact World.ownsRow_nil _ _ _ _
  ·simp only [List.mem_cons,List.not_mem_nil,or_false] at hr
   rcases hr with rfl|rfl|rfl|rfl|rfl <;> simp [Value.ownBlock] at hk
  ·simp [Value.ownBlock]
 case hend =>
  clear ha0
  intro l a w6 h hall
  obtain ⟨x24,x27,x28,x31,x32,x35,x36,x39,x40,x43,x46,x6,vE,nE,yE,vP,nP,yP,vL,nL,yL,vR,nR,yR,vU,nU,yU,o,ha,HR,H6n,H6,H9,H10n,H10,H13,H14n,H14,H17,H18n,H18,H21,H22n,H22,H25,H28,H29,B1,B2,HM0⟩:=h
  obtain ⟨_,sE',cE',rfl,rfl,hnE,hyE⟩:=H9.out (hall 9 (by decide))
  obtain ⟨_,sP',cP',rfl,rfl,hnP,hyP⟩:=H13.out (hall 13 (by decide))
  obtain ⟨_,sL',cL',rfl,rfl,hnL,hyL⟩:=H17.out (hall 17 (by decide))
  obtain ⟨_,sR',cR',rfl,rfl,hnR,hyR⟩:=H21.out (hall 21 (by decide))
  obtain ⟨_,sU',cU',rfl,rfl,hnU,hyU⟩:=H25.out (hall 25 (by decide))
  obtain ⟨rfl,ho6⟩:=H29.out (hall 29 (by decide))
  obtain ⟨_,_,_,_,_,_,_,_,_,_,_,_,hb6⟩:=B2.out (hall 30 (by decide))
  obtain ⟨_,_,_,_,_,_,_,_,_,_,rfl⟩:=H28.out (hall 28 (by decide))
  clear H6n H6 H9 H10n H10 H13 H14n H14 H17 H18n H18 H21 H22n H22 H25 H28 H29 B1 B2 HR
  subst hnE;subst hnP;subst hnL;subst hnR;subst hnU;subst hyE;subst hyP;subst hyL;subst hyR;subst hyU
  subst ha
  rw [HA0.out]
  simp only [zL,List.foldl_cons,List.foldl_nil,Act.put,sPa,sPb,sPc]
  refine NoPanic.normal ?_
 
  have hEM:EMem X w6 _:=(HM.out.grow HGW.out).after HM0 (fun j hj=>hj.elim)
  have hg6:=zG HGW.out (lX HM0.but) (by simp)
  have kX:wY X w w6:=HM.out.keep hg6
  have hBP6:=zE HB2.out (lX HM0.but) (by simp)
  have HEM:=Kh hEM;have HG6:=Kh hg6;have HKX:=Kh kX;have HB6:=Kh hb6;have HBP6:=Kh hBP6
  have hoP:P+1 < o:=by omega
  have hlo:=zQ hb6
  clear hEM hg6 kX hb6 hBP6 HM0 C HS HB1 HB2 HWA HW5
  have hgm:=Ga w6 (.map #[] 0) none
  have hB7:=zE HB6.out hgm (by simp)
  obtain ⟨q0,q1,q2,q3,q4,q5,q6,q7,q8⟩:=zX hB7
  have hMp:=uB.made w6
  clear q0 q1 q2 q4 q5 q6 q7 q8
  go_wp2
  have hS0:WordsS X w P o w6.heap.size [⟨P,22,.slice sE' m cE',m,hsE,1⟩,⟨P,3,.slice sP' m cP',m,ints pre,1⟩,⟨P,3,.slice sL' m cL',m,ints las,1⟩,⟨P,22,.slice sR' 0 cR',0,[],1⟩,⟨P,140,.slice sU' u cU',u,us,2⟩] #[.int .i64 n,.bool true,.slice gA gN gC,.slice sE' m cE',.slice sP' m cP',.slice sL' m cL',.slice sR' 0 cR',.slice sU' u cU',.int .i64 0] m 0 none 0 (w6.alloc (.map #[] 0)) :=
    .mk [] rfl (fun i=>by simp [ByteArray.size]) ((HEM.out.grow hgm).add (zW _ none) (r:=⟨P,9,.slice none 0 0,0,[],1⟩) (World.ownsRow_nil _ _ _ _) (fun j e=>by simp [Value.ownBlock] at e)) hMp hB7 (zE HBP6.out hgm (by simp)) (HKX.out.trans (HEM.out.keep hgm)) (zG HG6.out hgm (by simp))
  have HS0:=Kh hS0
  clear hS0 hB7 hMp hgm q3
  obtain ⟨rows5,hrows5⟩:∃ r5:List RowS,r5=[⟨P,22,.slice sE' m cE',m,hsE,1⟩,⟨P,3,.slice sP' m cP',m,ints pre,1⟩,⟨P,3,.slice sL' m cL',m,ints las,1⟩,⟨P,22,.slice sR' 0 cR',0,[],1⟩,⟨P,140,.slice sU' u cU',u,us,2⟩]:=⟨_,rfl⟩
  rw [← hrows5] at HS0
  have hrp:(⟨P,3,.slice sP' m cP',m,ints pre,1⟩:RowS)∈rows5:=by rw [hrows5];simp
  have hrl:(⟨P,3,.slice sL' m cL',m,ints las,1⟩:RowS)∈rows5:=by rw [hrows5];simp
  have hrt:∀ r∈rows5,r.base=P∧r.e≠106∧r.e≠9:=by
   intro r hr
   rw [hrows5] at hr
   simp only [List.mem_cons,List.not_mem_nil,or_false] at hr
   rcases hr with rfl|rfl|rfl|rfl|rfl <;> simp
  have HRP:=Kh hrp;have HRL:=Kh hrl;have HRT:=Kh hrt;have HR5:=Kh hrows5
  obtain ⟨mb,hmb⟩:∃ mb,mb=w6.heap.size:=⟨_,rfl⟩
  rw [← hmb] at HS0 ⊢
  have hmbo:o < mb:=by omega
  clear hrp hrl hrt hrows5
  have HMB:=Kh hmb
  clear hmb
  go_loopg [8,9,51] m (fun gh v8 v9 i wr=>∃ (q:Nat) (sW:Option Addr) (cW:Nat),gh+q=m∧i=.int .i64 q∧v8=.slice sW q cW∧WordsS X w P o mb rows5 #[.int .i64 n,.bool true,.slice gA gN gC,.slice sE' m cE',.slice sP' m cP',.slice sL' m cL',.slice sR' 0 cR',.slice sU' u cU',.int .i64 0] m q sW cW wr)
  case atStart=>exact ⟨0,none,0,by omega,rfl,rfl,HS0.out⟩
  case round =>
   obtain ⟨q,sW,cW,hgh,rfl,rfl,hS⟩:=hrel
   have HGH:=Kh hgh;have HS:=Kh hS
   obtain ⟨ws,hwl,hwz,hMw,hMap,hBw,hBPw,hXw,hgw⟩:=hS
   clear hgh HS0
   by_cases hq:q < m
   ·have hq':(q:Int) < m:=by omega
    have HMw:=Kh hMw;have HMap:=Kh hMap;have HBw:=Kh hBw;have HBPw:=Kh hBPw;have HXw:=Kh hXw;have HGw:=Kh hgw;have HWL:=Kh hwl;have HWZ:=Kh hwz
    have hwd:=lH wr.heap.size wr.heap.size wr (.int .i64 n) (.bool true) (.slice gA gN gC) (.slice sE' m cE') (.slice sP' m cP') (.slice sL' m cL') (.slice sR' 0 cR') (.slice sU' u cU') (.int .i64 0) pre las m gs.length q (Nat.le_refl _) (Nat.le_refl _) (Row.of_owns (hMw.own _ (List.mem_append_left _ HRP.out))) (Row.of_owns (hMw.own _ (List.mem_append_left _ HRL.out))) HPL.out HLL.out HOK.out hk6 (by omega) hq
    have HWD:=Kh hwd
    have hwi:=(kZ HOK.out q hq).2
    obtain ⟨q0,q1,q2,q3,q4,q5,q6,q7,q8⟩:=zX hBw
    clear hMw hMap hBw hBPw hXw hgw hwl hwz hwd
    go_wp2_with fail
    refine HWD.out.mono ?_
    rintro e w7 ⟨rfl,hg7⟩
    have HG7:=Kh hg7
    obtain ⟨sw,hsw⟩:∃ sw,sw=strOfNums (lets (rQ pre las q)):=⟨_,rfl⟩
    have hswz:sw.size≤q:=by rw [hsw,strOfNums_size];simp only [lets,List.length_map];exact hwi
    rw [← hsw]
    have hM7:=HMw.out.grow hg7
    have hown7:=hM7.own ⟨P,9,.slice sW q cW,q,vY ws,1⟩ (by simp)
    simp only at hown7
    have HO7:=Kh hown7
    have hz7:=zQ (zE HBPw.out hg7 (by simp))
    have hs7:=hg7.size
    clear hsw hg7 q0 q1 q2 q3 q4 q5 q6 q7 q8 hM7 hown7
    go_wp2_with (first|(at_builtin;refine dC rfl _ _ _ rfl pH P _ q (vY ws) rfl HO7.out _ rfl rfl ?c1 ?c2 ?c3 ?_)|fail)
    case c1=>unfold maxLen;omega
    case c2=>omega
    case c3=>omega
    intro sW' cW' w8 hown8 hg8 hlt8 hmv8
    have hM8:=(HMw.out.grow HG7.out).appLast (r':=⟨P,9,.slice sW' (q+1) cW',q+1,vY (ws ++ [sw]),1⟩) hg8 (by simpa [vY] using hown8) hmv8
    have hMap8:=(HMap.out.kept HG7.out (by simp)).kept hg8 ((HMap.out.kept HG7.out (by simp)).ne_own HO7.out)
    have hB8:=zE (zE HBw.out HG7.out (by simp)) hg8 (zS HO7.out (zE HBw.out HG7.out (by simp)) (by decide))
    have hBP8:=zE (zE HBPw.out HG7.out (by simp)) hg8 (zS HO7.out (zE HBPw.out HG7.out (by simp)) (by decide))
    have hX8:=(HXw.out.trans (fun j hj=>(HMw.out.keep HG7.out) j hj)).trans (wY.of_grown (HMw.out.grow HG7.out).lt hg8 (fun j e hx=>(HMw.out.grow HG7.out).offX ⟨P,9,.slice sW q cW,q,vY ws,1⟩ (by simp) j e hx))
    have hg08:=zG (zG HGw.out HG7.out (by simp)) hg8 (fun j e=>by have:=(HO7.out.lt j e).1;have:=HPE.out;omega)
    obtain ⟨lb,rfl,hl1,hl2,hLA⟩:=yK hown8 (by omega)
    have hcell:=hLA.cell q (by simp [vY,HWL.out])
    have hcq:(vY ws ++ [Value.string sw])[q]'(by simp [vY,HWL.out])=.string sw:=by
     rw [List.getElem_append_right (by simp [vY,HWL.out])];simp
    rw [hcq] at hcell
    have hq1:(q:Int) < (q:Int)+1:=by omega
    have hcW:cW'≤9223372036854775807:=by unfold maxLen at hl2;omega
    have HM8:=Kh hM8;have HMap8:=Kh hMap8;have HB8:=Kh hB8;have HBP8:=Kh hBP8;have HX8:=Kh hX8;have HG8:=Kh hg08
    clear hM8 hMap8 hB8 hBP8 hX8 hg08 hown8 hg8 hmv8 hLA hcq HMw HMap HBw HBPw HXw HGw HWD HO7 HG7 HS
    go_wp2_with (first|(at_mapUpdate;refine fJ rfl _ _ _ rfl mb q sw q rfl rfl rfl HMap8.out ?d1 ?d2 ?d3 ?_)|fail)
    case d1=>unfold maxLen;omega
    case d2=>unfold maxLen;omega
    case d3=>unfold Mid;omega
    intro w9 hMap9 hg9
    have hS9:WordsS X w P o mb rows5 #[.int .i64 n,.bool true,.slice gA gN gC,.slice sE' m cE',.slice sP' m cP',.slice sL' m cL',.slice sR' 0 cR',.slice sU' u cU',.int .i64 0] m (q+1) (some ⟨lb,0,none⟩) cW' w9:=by
     refine .mk (ws ++ [sw]) (by simp [HWL.out]) (fun i=>?_) (HM8.out.far hg9 (fun r hr=>HMap8.out.ne_own (HM8.out.own r hr))) hMap9 (zE HB8.out hg9 (fun e=>HMap8.out.ne_cells HB8.out (Oj e).symm)) (zE HBP8.out hg9 (fun e=>HMap8.out.ne_cells HBP8.out (Oj e).symm)) (HX8.out.trans (wY.of_grown HM8.out.lt hg9 (fun j e hx=>?_))) (zG HG8.out hg9 (fun j e=>by have e:mb=j:=Oj e;have:=HPE.out;omega))
     ·rcases Nat.lt_or_ge i q with h|h
      ·rw [List.getD_eq_getElem?_getD,List.getElem?_append_left (by rw [HWL.out];exact h),← List.getD_eq_getElem?_getD]
       exact HWZ.out i
      ·rcases Nat.eq_or_lt_of_le h with e|h
       ·subst e
        rw [List.getD_eq_getElem?_getD,List.getElem?_append_right (by rw [HWL.out];exact Nat.le_refl _),HWL.out]
        simpa using hswz
       ·rw [List.getD_eq_getElem?_getD,List.getElem?_eq_none (by simp [HWL.out];omega)]
        simp [ByteArray.size]
     ·have e:mb=j:=Oj e
      have h1:=HM.out.lt j hx
      have:=HPE.out
      omega
    have HS9:=Kh hS9
    clear hS9 hMap9 hg9 HM8 HMap8 HB8 HBP8 HX8 HG8
    go_wp2
    go_roundg (m - (q+1))
    case measure=>have:=HGH.out;omega
    case rel=>exact ⟨q+1,some ⟨lb,0,none⟩,cW',by omega,by go_num,rfl,HS9.out⟩
   ·have hqm:q=m:=by have:=HGH.out;omega
    subst hqm
    have hP0:ProcS w P o mb n gA gN gC gs els pre las [] q 0 u sW cW [] wr:=by
     have hRR:tY X 3 nats wr [] []:=tY.nil
     rw [HR5.out] at hMw
     have hXm:∀ j,X j→j < P:=fun j hx=>by rw [HPE.out];exact HM.out.lt j hx
     exact .mk X u us hsE [] ws sE' cE' sP' cP' sL' cL' sR' cR' sU' cU' HLE.out HPL.out HLL.out rfl HIT.out (Nat.le_refl _) hwl hwz hMw (HE.out.kept hXw hgw.size) hRR (HGV.out.kept hXw hgw.size) ⟨fun h=>by have:=hXm o h;omega,fun h=>by have:=hXm _ h;omega,fun h=>by have:=hXm mb h;omega⟩ hMap hBw hBPw hgw
    have HP0:=Kh hP0
    clear hP0 hwl hwz hMw hMap hBw hBPw hXw hgw HS
    have HM6:=HEM
    clear HEM HM6 HG6 HKX HB6 HBP6
    go_wp2
    go_loopg [1,8,10,11,12,13,14,15,16,17] bd (fun gh v1 v8 v10 v11 v12 v13 v14 v15 v16 v17 wr=>∃ (d:Nat) (el:List (List Nat)) (pr la:List Int) (ri:List (List Nat)) (m:Nat) (sW:Option Addr) (cW:Nat),gh+d=bd∧v1=.int .i64 gh∧v8=.slice sW m cW∧m≤2000∧d≤m∧wW gs (els,pre,las) d=((el,pr,la),ri)∧ProcS w P o mb n gA gN gC gs el pr la ri m d (u+6 * d) sW cW [] wr)
    case atStart=>exact ⟨0,els,pre,las,[],q,sW,cW,by omega,rfl,rfl,by omega,by omega,rfl,HP0.out⟩
    case round =>
     obtain ⟨d,el,pr,la,ri,m,sW,cW,hgh,rfl,rfl,hm2,hdm,hpt,hS⟩:=hrel
     have HGH:=Kh hgh;have HPT:=Kh hpt;have HS:=Kh hS
     obtain ⟨X1,u1,us1,hsE1,hsR1,ws,sE,cE,sP,cP,sL,cL,sR,cR,sU,cU,hl,hpl,hll,hrl,hit,hu1,hwl,hwz,hMp,hEp,hRp,hGp,hXp,hMap,hBp,hBPp,hgp⟩:=hS
     obtain ⟨q0,q1,q2,q3,q4,q5,q6,q7,q8⟩:=zX hBp
     clear hgh hpt HP0
     by_cases hb:0 < gk
     ·have hb':(0:Int) < (gk:Int):=by omega
      have hwb:wrap64 ((gk:Int) - 1)=((bd - (d+1):Nat):Int):=by
       have:=HGH.out
       rw [IntWalk.wrap64_in _ (by omega)];omega
      by_cases hd:d < m
      ·have hd':(d:Int) < m:=by omega
       have hoW:=hMp.own ⟨P,9,.slice sW m cW,m,vY ws,1⟩ (by simp)
       simp only at hoW
       obtain ⟨lb,rfl,hl1,hl2,hLA⟩:=yK hoW (by omega)
       have hcell:=hLA.cell d (by simp [vY,hwl];exact hd)
       have hcd:(vY ws)[d]'(by simp [vY,hwl];exact hd)=.string (ws.getD d ⟨#[]⟩):=by
        simp [vY,List.getD_eq_getElem?_getD,hwl,hd]
       rw [hcd] at hcell
       obtain ⟨U0,hU0⟩:∃ U0,U0=ws.getD d ⟨#[]⟩:=⟨_,rfl⟩
       have hUz:U0.size≤d:=by rw [hU0];exact hwz d
       rw [← hU0] at hcell
       have hcW:cW≤9223372036854775807:=by unfold maxLen at hl2;omega
       have HDL:Hid (d < el.length):=Kh (by rw [hl];exact hd)
       clear hcd hU0 hLA hoW hMp hEp hRp hGp hXp hMap hBp hBPp hgp hwl hwz hit hl hpl hll hrl q0 q1 q4 q5 q6 q7
       have hSi:ProcS w P o mb n gA gN gC gs el pr la ri m d (u+6 * d) (some ⟨lb,0,none⟩) cW [⟨P,3,.slice none 0 0,0,nats [],1⟩] wr:=by
        obtain ⟨X2,u2,us2,hsE2,hsR2,ws2,sE2,cE2,sP2,cP2,sL2,cL2,sR2,cR2,sU2,cU2,hl,hpl,hll,hrl,hit,hu1,hwl,hwz,hMp,hEp,hRp,hGp,hXp,hMap,hBp,hBPp,hgp⟩:=HS.out
        have h:=hMp.add (zW _ none) (r:=⟨P,3,.slice none 0 0,0,nats [],1⟩) (World.ownsRow_nil _ _ _ _) (fun j e=>by simp [Value.ownBlock] at e)
        rw [List.append_nil] at h
        exact .mk X2 u2 us2 hsE2 hsR2 ws2 sE2 cE2 sP2 cP2 sL2 cL2 sR2 cR2 sU2 cU2 hl hpl hll hrl hit hu1 hwl hwz h hEp hRp hGp hXp hMap hBp hBPp hgp
       have HSI:=Kh hSi
       clear hSi
       go_upto_region 15 with fail
       clear q2 q3 q8 hcell HS
       go_loopg [8,10,12,13,14,15,16,17,87] gN (fun gh v8 v10 v12 v13 v14 v15 v16 v17 i wx=>∃ (x:Nat) (el:List (List Nat)) (pr la:List Int) (ro:List Nat) (m:Nat) (sW:Option Addr) (cW:Nat) (sr:Option Addr) (cr:Nat),gh+x=gN∧i=.int .i64 x∧v8=.slice sW m cW∧v10=.slice sr x cr∧m≤2000∧d < m∧ro.length=x∧oB gs d (wW gs (els,pre,las) d).1 x=(el,pr,la,ro)∧ProcS w P o mb n gA gN gC gs el pr la ri m d (u+6 * d+x) sW cW [⟨P,3,.slice sr x cr,x,nats ro,1⟩] wx)
       case atStart=>exact ⟨0,el,pr,la,[],m,some ⟨lb,0,none⟩,cW,none,0,by omega,rfl,rfl,rfl,hm2,hd,rfl,by rw [HPT.out];rfl,HSI.out⟩
       case round =>
        obtain ⟨x,el2,pr2,la2,ro,m2,sW2,cW2,sr,cr,hgx,rfl,rfl,rfl,hm3,hd3,hro,hrt,hS2⟩:=hrel
        have HGX:=Kh hgx;have HRO:=Kh hro;have HROW:=Kh hrt;have HS2:=Kh hS2
        obtain ⟨X2,u2,us2,hsE2,hsR2,ws2,sE2,cE2,sP2,cP2,sL2,cL2,sR2,cR2,sU2,cU2,hl,hpl,hll,hrl,hit,hu2,hwl,hwz,hMp,hEp,hRp,hGp,hXp,hMap,hBp,hBPp,hgp⟩:=hS2
        clear hgx hro hrt HSI
        by_cases hx:x < gN
        ·have hx':(x:Int) < gN:=by omega
         have hd4:(d:Int) < m2:=by omega
         have hEo:=hMp.own ⟨P,22,.slice sE2 m2 cE2,m2,hsE2,1⟩ (by simp)
         simp only at hEo
         have hTE:=qAH hEo hEp
         obtain ⟨eb,eo,ec,ee,hec,hem,_,_,hehd⟩:=hTE.head (by omega)
         rw [hl] at ee hec
         simp only [Value.slice.injEq] at ee
         obtain ⟨rfl,_,rfl⟩:=ee
         obtain ⟨fa,fc,hfcell,hfrow⟩:=hehd d (by omega)
         have hfT:IsT n (el2.getD d []):=hit _ (tH (by omega))
         have hTG:=hGp.tmat
         obtain ⟨gb,go,gc,ge,hgc,hgm,_,_,hghd⟩:=hTG.head (by have:=HGN.out;omega)
         rw [← HGN.out] at ge hgc
         simp only [Value.slice.injEq] at ge
         obtain ⟨ge1,_,ge2⟩:=ge
         obtain ⟨ga,gac,hgcell,hgrow⟩:=hghd x (by have:=HGN.out;omega)
         have hgT:IsT n (gs.getD x []):=HIG.out _ (tH (by have:=HGN.out;omega))
         obtain ⟨f0,hf0⟩:∃ f0,f0=el2.getD d []:=⟨_,rfl⟩
         obtain ⟨g0,hg0⟩:∃ g0,g0=gs.getD x []:=⟨_,rfl⟩
         rw [← hf0] at hfcell hfrow hfT
         rw [← hg0] at hgcell hgrow hgT
         rw [hfT.1] at hfcell hfrow
         rw [hgT.1] at hgcell hgrow
         obtain ⟨q0,q1,q2,q3,q4,q5,q6,q7,q8⟩:=zX hBp
         rw [ge1,ge2] at q2
         have hg7:=zT wr none
         obtain ⟨w7,hw7⟩:∃ w7,w7=wr.drew:=⟨_,rfl⟩
         rw [← hw7] at hg7
         have HW7:=Kh hw7
         have HG7:=Kh hg7
         have C:Hid (w7.cell? ⟨o,3,none⟩=some (.slice (some ⟨eb,eo,none⟩) m2 cE2)∧w7.cell? ⟨o,8,none⟩=some (.int .i64 d)∧w7.cell? ⟨eb,eo+d,none⟩=some (.slice fa n fc)∧w7.cell? ⟨o,2,none⟩=some (.slice (some ⟨gb,go,none⟩) gN gc)∧w7.cell? ⟨gb,go+x,none⟩=some (.slice ga n gac)):=Kh ⟨yD q3 hg7,yD q8 hg7,yD hfcell hg7,yD q2 hg7,yD hgcell hg7⟩
         have hcm:=compose_any wr.heap.size wr.heap.size w7 _ _ f0 g0 n hg7.size hg7.size (hfrow.row.kept hg7 (by simp)) (hgrow.row.kept hg7 (by simp)) hfT hgT (by omega)
         obtain ⟨f1,hf1⟩:∃ f1,f1=vQ f0 g0:=⟨_,rfl⟩
         rw [← hf1] at hcm
         have HF1L:Hid (f1.length=n):=Kh (by rw [hf1];simp [vQ,hfT.1])
         have HF1:=Kh hf1
         have HCM:=Kh hcm
         clear hcm hf1
         have hecm:cE2≤9223372036854775807:=by unfold maxLen at hem;omega
         have hgcm:gc≤9223372036854775807:=by unfold maxLen at hgm;omega
         have HF0:=Kh hf0;have HG0:=Kh hg0;have HFT0:=Kh hfT;have HGT0:=Kh hgT;have HLE2:=Kh hl
         clear q0 q1 q2 q3 q4 q5 q6 q7 q8 hw7 hg7 hf0 hg0 hfcell hgcell hfrow hgrow hfT hgT hghd hehd hTE hTG hEo hl hpl hll hrl hit hwl hwz hMp hEp hRp hGp hXp hMap hBp hBPp hgp ge1 ge2 hem hgm
         go_upto_region 17 with fail
         refine wp_region_noPanic ?_
         refine yY (G:=vV 99 (fun W=>W.cell? ⟨o,3,none⟩=some (.slice (some ⟨eb,eo,none⟩) m2 cE2)∧W.cell? ⟨o,8,none⟩=some (.int .i64 d)∧W.cell? ⟨eb,eo+d,none⟩=some (.slice fa n fc)∧W.cell? ⟨o,2,none⟩=some (.slice (some ⟨gb,go,none⟩) gN gc)∧W.cell? ⟨gb,go+x,none⟩=some (.slice ga n gac)) (fun _=>True)) (by kernel_rfl) ?_
         rw [← HW7.out]
         refine takeC (i:=0) (v:=?_) rfl rfl (Or.inl ⟨by rfl,?_⟩) ⟨C.out,fun _=>trivial⟩ ?_
         rotate_left
         ·(intro wz hz;(try dsimp only at hz);go_simp;(try with_reducible rfl))
         try simp only [Act.put,sPa,sPb,sPc]
         refine takeC (i:=1) (v:=?_) rfl rfl (Or.inl ⟨by rfl,?_⟩) ⟨C.out,fun _=>trivial⟩ ?_
         rotate_left
         ·(intro wz hz;(try dsimp only at hz);go_simp;(try with_reducible rfl))
         try simp only [Act.put,sPa,sPb,sPc]
         refine takeC (i:=2) (v:=?_) rfl rfl (Or.inl ⟨by rfl,?_⟩) ⟨C.out,fun _=>trivial⟩ ?_
         rotate_left
         ·(intro wz hz;(try dsimp only at hz);go_simp;(try with_reducible rfl))
         try simp only [Act.put,sPa,sPb,sPc]
         refine takeC (i:=3) (v:=?_) rfl rfl (Or.inl ⟨by rfl,?_⟩) ⟨C.out,fun _=>trivial⟩ ?_
         rotate_left
         ·(intro wz hz;(try dsimp only at hz);go_simp;(try with_reducible rfl))
         try simp only [Act.put,sPa,sPb,sPc]
         refine takeC (i:=4) (v:=?_) rfl rfl (Or.inl ⟨by rfl,?_⟩) ⟨C.out,fun _=>trivial⟩ ?_
         rotate_left
         ·(intro wz hz;(try dsimp only at hz);go_simp;(try with_reducible rfl))
         try simp only [Act.put,sPa,sPb,sPc]
         refine takeC (i:=5) (v:=?_) rfl rfl (Or.inl ⟨by rfl,?_⟩) ⟨C.out,fun _=>trivial⟩ ?_
         rotate_left
         ·(intro wz hz;(try dsimp only at hz);go_simp;(try with_reducible rfl))
         try simp only [Act.put,sPa,sPb,sPc]
         refine takeC (i:=6) (v:=?_) rfl rfl (Or.inl ⟨by rfl,?_⟩) ⟨C.out,fun _=>trivial⟩ ?_
         rotate_left
         ·(intro wz hz;(try dsimp only at hz);go_simp;(try with_reducible rfl))
         try simp only [Act.put,sPa,sPb,sPc]
         refine takeC (i:=7) (v:=?_) rfl rfl (Or.inl ⟨by rfl,?_⟩) ⟨C.out,fun _=>trivial⟩ ?_
         rotate_left
         ·(intro wz hz;(try dsimp only at hz);go_simp;(try with_reducible rfl))
         try simp only [Act.put,sPa,sPb,sPc]
         refine takeC (i:=8) (v:=?_) rfl rfl (Or.inl ⟨by rfl,?_⟩) ⟨C.out,fun _=>trivial⟩ ?_
         rotate_left
         ·(intro wz hz;(try dsimp only at hz);go_simp;(try with_reducible rfl))
         try simp only [Act.put,sPa,sPb,sPc]
         refine takeC (i:=9) (v:=?_) rfl rfl (Or.inl ⟨by rfl,?_⟩) ⟨C.out,fun _=>trivial⟩ ?_
         rotate_left
         ·(intro wz hz;(try dsimp only at hz);go_simp;(try with_reducible rfl))
         try simp only [Act.put,sPa,sPb,sPc]
         refine takeC (i:=10) (v:=?_) rfl rfl (Or.inl ⟨by rfl,?_⟩) ⟨C.out,fun _=>trivial⟩ ?_
         rotate_left
         ·(intro wz hz;(try dsimp only at hz);go_simp;(try with_reducible rfl))
         try simp only [Act.put,sPa,sPb,sPc]
         refine oneG (i:=11) (by kernel_rfl) rfl (fun K hK=>?_)
         go_simp
         go_at_call 117
         refine HCM.out.mono ?_
         rintro e w8 ⟨gf,rfl,hgf,hAf,hg8⟩
         rw [HF1L.out]
         have HG8:=Kh (zG HG7.out hg8 (by simp))
         refine hK.out _ _ ⟨⟨yD C.out.1 hg8,yD C.out.2.1 hg8,yD C.out.2.2.1 hg8,yD C.out.2.2.2.1 hg8,yD C.out.2.2.2.2 hg8⟩,fun _=>trivial⟩ ?_
         have C8:Hid (w8.cell? ⟨o,3,none⟩=some (.slice (some ⟨eb,eo,none⟩) m2 cE2)∧w8.cell? ⟨o,8,none⟩=some (.int .i64 d)∧w8.cell? ⟨eb,eo+d,none⟩=some (.slice fa n fc)∧w8.cell? ⟨o,2,none⟩=some (.slice (some ⟨gb,go,none⟩) gN gc)∧w8.cell? ⟨gb,go+x,none⟩=some (.slice ga n gac)):=Kh ⟨yD C.out.1 hg8,yD C.out.2.1 hg8,yD C.out.2.2.1 hg8,yD C.out.2.2.2.1 hg8,yD C.out.2.2.2.2 hg8⟩
         have HAF:=Kh hAf
         have HGF:=Kh hgf
         clear hK K hg8 C hAf hgf
         try simp only [Act.put,sPa,sPb,sPc]
         refine oneG (i:=12) (by kernel_rfl) rfl (fun K hK=>?_)
         go_simp
         refine hK.out _ _ ⟨C8.out,fun _=>trivial⟩ ?_
         clear hK K C8
         try simp only [Act.put,sPa,sPb,sPc]
         refine nW (by kernel_rfl) ?_ _
         refine NoPanic.normal ?_
         obtain ⟨X2,u2,us2,hsE2,hsR2,ws2,sE2',cE2',sP2,cP2,sL2,cL2,sR2,cR2,sU2,cU2,hl,hpl,hll,hrl,hit,hu2,hwl,hwz,hMp,hEp,hRp,hGp,hXp,hMap,hBp,hBPp,hgp⟩:=HS2.out
         have hM8:=hMp.grow HG8.out
         have k8:=hMp.keep HG8.out
         have hE8:=hEp.kept k8 HG8.out.size
         have hB8:=zE hBp HG8.out (by simp)
         have hRw:Row w8.heap.size w8 (.slice (some ⟨gf,0,none⟩) n n) (nats f1):=by
          have:=HAF.out.rowT' (cap:=n) (by rw [zN,HF1L.out];exact Nat.le_refl _) (by unfold maxLen;omega)
          rw [zN,HF1L.out] at this
          exact this.row
         have hfd:=eI w8.heap.size w8.heap.size w8 (.slice sE2' m2 cE2') (.slice (some ⟨gf,0,none⟩) n n) el2 f1 (qAH (hM8.own ⟨P,22,.slice sE2' m2 cE2',m2,hsE2,1⟩ (by simp)) hE8) hRw
         have HFD:=Kh hfd
         obtain ⟨q0,q1,q2,q3,q4,q5,q6,q7,q8⟩:=zX hB8
         have hx26:x < 26:=by have:=HGN.out;omega
         have HLT:=fun W=>Kh (iK W x hx26)
         clear hl hpl hll hrl hit hu2 hwl hwz hMp hEp hRp hGp hXp hMap hBp hBPp hgp hM8 k8 hE8 hB8 hRw hfd q0 q1 q2 q4 q5 q6 q7 q8
         go_wp2_with fail
         refine HFD.out.mono ?_
         rintro e w9 ⟨rfl,md,rfl⟩
         obtain ⟨iz,hiz⟩:∃ iz,iz=mW el2 f1:=⟨_,rfl⟩
         rw [← hiz]
         have HIZ:=Kh hiz
         clear hiz
         go_wp2_with fail
         refine (HLT _).out.mono ?_
         rintro e w10 ⟨rfl,hg10⟩
         obtain ⟨Y,hY⟩:∃ Y,Y=strOfNums [97+(x:Int)]:=⟨_,rfl⟩
         have hYz:Y.size=1:=by rw [hY,strOfNums_size];rfl
         have hcc:∀ W0:World,(Op.stringOp .add U0 Y).run Tryd.prog W0=.ok (.string (U0 ++ Y)) W0:=fun W0=>run_string_add_sum W0 U0 Y (by omega)
         have HG10:=Kh (zG (zG HG8.out (zJ w8 md none) (by simp)) hg10 (by simp))
         have HG910:=Kh (zG (zJ w8 md none) hg10 (by simp))
         rw [← hY]
         clear hY hg10
         by_cases hneg:iz < 0
         ·by_cases hlim:m2=2000
          ·have hlim':(m2:Int)=2000:=by omega
           obtain ⟨X3,u3,us3,hsE3,hsR3,ws3,sE3,cE3,sP3,cP3,sL3,cL3,sR3,cR3,sU3,cU3,hl,hpl,hll,hrl,hit,hu3,hwl,hwz,hMp,hEp,hRp,hGp,hXp,hMap,hBp,hBPp,hgp⟩:=HS2.out
           have hB10:=zE hBp HG10.out (by simp)
           have hBP10:=zE hBPp HG10.out (by simp)
           have HBP10:=Kh hBP10;have HGP:=Kh (zG hgp HG10.out (by simp))
           obtain ⟨q0,q1,q2,q3,q4,q5,q6,q7,q8⟩:=zX hB10
           obtain ⟨p0,p1,p2,p3,p4,p5,p6,p7,p8⟩:=zX hBP10
           have f0:=zD hBP10 0;have f1':=zD hBP10 1;have f2:=zD hBP10 2;have f3:=zD hBP10 3;have f4:=zD hBP10 4;have f5:=zD hBP10 5;have f6:=zD hBP10 6;have f7:=zD hBP10 7;have f8:=zD hBP10 8
           have HFULL:Hid (bM gs (els,pre,las) n):=Kh ⟨d,x,by rw [HPT.out];exact HDL.out,by have:=HGN.out;omega,by rw [HROW.out];exact HLE2.out.trans hlim,by rw [HROW.out];exact hit⟩
           clear hl hpl hll hrl hit hu3 hwl hwz hMp hEp hRp hGp hXp hMap hBp hBPp hgp hB10 hBP10 q0 q1 q2 q4 q5 q6 q7 q8 hlim
           go_wp2
           refine bodyPost_ret (v:=.tuple #[.agg #[.int .i64 0,.bool false,.slice none 0 0,.slice none 0 0,.slice none 0 0,.slice none 0 0,.slice none 0 0,.slice none 0 0,.int .i64 0],.int .i64 3]) (by simp [results,Tryd.results105,go_sem,p0,p1,p2,p3,p4,p5,p6,p7,p8]) rfl ?_
           exact .inl ⟨rfl,HFULL.out,zG HGP.out (pY HBP10.out (.int .i64 0) (.bool false) (.slice none 0 0) (.slice none 0 0) (.slice none 0 0) (.slice none 0 0) (.slice none 0 0) (.slice none 0 0) (.int .i64 0)).2 (fun j e=>by have e:P+1=j:=Oj e;have:=HPE.out;omega)⟩
          ·have hlim':¬ (m2:Int)=2000:=by omega
           have hP0:w.heap.size≤P:=by have:=HPE.out;omega
           have hPm:w.heap.size≤mb:=by have:=HPE.out;omega
           obtain ⟨w4,hw4⟩:∃ w4,w4=w10.drew:=⟨_,rfl⟩
           have hg4:w10.grownBy w4 none:=by rw [hw4];exact zT w10 none
           have HW4:=Kh hw4
           have hfT1:IsT n f1:=by
            rw [HF1.out]
            exact eP HFT0.out HGT0.out
           obtain ⟨FF,u3,hsE3,rest,sE3,cE3,sP3,cP3,sL3,cL3,sR3,cR3,sU3,cU3,hFo,hb4,ho4,hrest,hB4,hM4,hfin⟩:=HS2.out.new24 (w4:=w4) (gf:=gf) (x:=x) (f:=f1) hP0 hoP (zG HG10.out hg4 (by simp)) (by have:=HG7.out.size;have:=HGF.out;omega) ((HAF.out.kept (zG HG910.out hg4 (by simp)) (by simp))) HF1L.out (by unfold maxLen;omega) hfT1 (by intro r hr;rw [List.mem_singleton] at hr;subst hr;exact ⟨rfl,by simp⟩)
           have hB10:w10.heap[o]?=some (.cells #[.int .i64 n,.bool true,.slice gA gN gC,.slice sE3 m2 cE3,.slice sP3 m2 cP3,.slice sL3 m2 cL3,.slice sR3 d cR3,.slice sU3 u3 cU3,.int .i64 d] 106 (0,0)):=by rw [hw4] at hB4;exact hB4
           obtain ⟨q0,q1,q2,q3,q4,q5,q6,q7,q8⟩:=zX hB10
           have hC4:=zX hB4
           have C:Hid (w4.cell? ⟨o,3,none⟩=some (.slice sE3 m2 cE3)∧w4.cell? ⟨o,4,none⟩=some (.slice sP3 m2 cP3)∧w4.cell? ⟨o,5,none⟩=some (.slice sL3 m2 cL3)∧w4.cell? ⟨o,8,none⟩=some (.int .i64 d)):=Kh ⟨hC4.2.2.2.1,hC4.2.2.2.2.1,hC4.2.2.2.2.2.1,hC4.2.2.2.2.2.2.2.2⟩
           have HFO:=Kh hFo;have HBA:=Kh hb4;have HOW:=Kh ho4;have HREST:=Kh hrest;have HB4:=Kh hB4;have HM4:=Kh hM4;have HFIN:=Kh hfin
           clear hw4 hg4 hfT1 hFo hb4 ho4 hrest hB4 hM4 hfin hB10 hC4 q0 q1 q2 q4 q5 q6 q7 q8 hlim
           go_upto_region 24 with fail
           refine wp_region_noPanic ?_
           refine yY (G:=vV 17 (fun _=>True) (fun W=>W.cell? ⟨o,3,none⟩=some (.slice sE3 m2 cE3)∧W.cell? ⟨o,4,none⟩=some (.slice sP3 m2 cP3)∧W.cell? ⟨o,5,none⟩=some (.slice sL3 m2 cL3)∧W.cell? ⟨o,8,none⟩=some (.int .i64 d))) (by kernel_rfl) ?_
           rw [← HW4.out]
           refine takeC (i:=0) (v:=?_) rfl rfl (Or.inl ⟨by rfl,?_⟩) ⟨trivial,fun _=>C.out⟩ ?_
           rotate_left
           ·(intro wz hz;(try dsimp only at hz);go_simp;(try with_reducible rfl))
           try simp only [Act.put,sPa,sPb,sPc]
           refine takeD (i:=1) (v:=?_) rfl rfl (Or.inl ⟨by rfl,?_⟩) ⟨trivial,fun _=>C.out⟩ ?_
           rotate_left
           ·(rintro wz ⟨-,hz⟩;(try dsimp only at hz);go_simp;(try with_reducible rfl))
           try simp only [Act.put,sPa,sPb,sPc]
           refine takeC (i:=2) (v:=?_) rfl rfl (Or.inl ⟨by rfl,?_⟩) ⟨trivial,fun _=>C.out⟩ ?_
           rotate_left
           ·(intro wz hz;(try dsimp only at hz);go_simp;(try with_reducible rfl))
           try simp only [Act.put,sPa,sPb,sPc]
           refine takeC (i:=5) (v:=?_) rfl rfl (Or.inl ⟨by rfl,?_⟩) ⟨trivial,fun _=>C.out⟩ ?_
           rotate_left
           ·(intro wz hz;(try dsimp only at hz);go_simp;(try with_reducible rfl))
           try simp only [Act.put,sPa,sPb,sPc]
           refine takeD (i:=6) (v:=?_) rfl rfl (Or.inl ⟨by rfl,?_⟩) ⟨trivial,fun _=>C.out⟩ ?_
           rotate_left
           ·(rintro wz ⟨-,hz⟩;(try dsimp only at hz);go_simp;(try with_reducible rfl))
           try simp only [Act.put,sPa,sPb,sPc]
           refine takeC (i:=7) (v:=?_) rfl rfl (Or.inl ⟨by rfl,?_⟩) ⟨trivial,fun _=>C.out⟩ ?_
           rotate_left
           ·(intro wz hz;(try dsimp only at hz);go_simp;(try with_reducible rfl))
           try simp only [Act.put,sPa,sPb,sPc]
           refine takeD (i:=8) (v:=?_) rfl rfl (Or.inl ⟨by rfl,?_⟩) ⟨trivial,fun _=>C.out⟩ ?_
           rotate_left
           ·(rintro wz ⟨-,hz⟩;(try dsimp only at hz);go_simp;(try with_reducible rfl))
           try simp only [Act.put,sPa,sPb,sPc]
           refine takeC (i:=11) (v:=?_) rfl rfl (Or.inl ⟨by rfl,?_⟩) ⟨trivial,fun _=>C.out⟩ ?_
           rotate_left
           ·(intro wz hz;(try dsimp only at hz);go_simp;(try with_reducible rfl))
           try simp only [Act.put,sPa,sPb,sPc]
           refine takeD (i:=12) (v:=?_) rfl rfl (Or.inl ⟨by rfl,?_⟩) ⟨trivial,fun _=>C.out⟩ ?_
           rotate_left
           ·(rintro wz ⟨-,hz⟩;(try dsimp only at hz);go_simp;(try with_reducible rfl))
           try simp only [Act.put,sPa,sPb,sPc]
           refine takeC (i:=13) (v:=?_) rfl rfl (Or.inl ⟨by rfl,?_⟩) ⟨trivial,fun _=>C.out⟩ ?_
           rotate_left
           ·(intro wz hz;(try dsimp only at hz);go_simp;(try with_reducible rfl))
           try simp only [Act.put,sPa,sPb,sPc]
           refine tF (fun Wp hWp a0 ha0=>?_)
           subst hWp
           simp only [Act.put,List.getElem_toArray,List.getElem_cons_zero,List.getElem_cons_succ,sPa,sPb,sPc] at ha0
           have HA0:=Kh ha0
           refine tE (I:=proc24I n P o m2 u3 d x gf pr2 la2 hsE3 rest sE3 cE3 sP3 cP3 sL3 cL3 sR3 cR3 sU3 cU3 gA gN gC w4 FF a0) (fun l a w h=>proc24_G h) (proc24_steps ha0 (by omega) HBA.out HFO.out HOW.out HREST.out) (by kernel_rfl) ?hend (by decide +kernel) ?hinit
           case hinit =>
            clear ha0
            refine ⟨a0.tmps.getD 123 undef,a0.tmps.getD 124 undef,a0.tmps.getD 129 undef,a0.tmps.getD 130 undef,a0.tmps.getD 134 undef,a0.tmps.getD 135 undef,a0.tmps.getD 136 undef,a0.tmps.getD 137 undef,a0.tmps.getD 138 undef,.slice sE3 m2 cE3,m2,hsE3,.slice sP3 m2 cP3,m2,ints pr2,.slice sL3 m2 cL3,m2,ints la2,[],.slice sE3 m2 cE3,.slice sP3 m2 cP3,.slice sL3 m2 cL3,(uI (by simp)).symm,by decide +kernel,Kh (fun h=>absurd h (by decide +kernel)),Kh (fun _=>⟨rfl,rfl,rfl⟩),Kh (fun h=>absurd h (by decide +kernel)),Kh (fun h=>absurd h (by decide +kernel)),Kh (fun _=>⟨rfl,rfl,rfl⟩),Kh (fun h=>absurd h (by decide +kernel)),Kh (fun h=>absurd h (by decide +kernel)),Kh (fun _=>⟨rfl,rfl,rfl⟩),Kh (fun h=>absurd h (by decide +kernel)),Kh (fun h=>absurd h (by decide +kernel)),Kh (fun h=>absurd h (by decide +kernel)),Kh (fun h=>absurd h (by decide +kernel)),Kh (fun _=>rfl),Kh (fun h=>absurd h (by decide +kernel)),Kh (fun _=>rfl),Kh (fun h=>absurd h (by decide +kernel)),Kh (fun _=>rfl),Kh (fun h=>absurd h (by decide +kernel)),HB4.out,HM4.out⟩
           case hend =>
            clear ha0
            intro l a w6 h hall
            obtain ⟨x123,x124,x129,x130,x134,x135,x136,x137,x138,vE,nE,xE,vP,nP,xP,vL,nL,xL,ls,c3,c4,c5,ha,HR,H3,H4n,H4,H9,H10n,H10,H14,H15n,H15,H16,H18,H20,B3n,B3,B4n,B4,B5n,B5,HB,HM⟩:=h
            obtain ⟨s4,c4',rfl,rfl,rfl,rfl⟩:=H4.out (hall 4 (by decide))
            obtain ⟨_,s10,c10,rfl,rfl,rfl,rfl⟩:=H10.out (hall 10 (by decide))
            obtain ⟨_,s15,c15,rfl,rfl,rfl,rfl⟩:=H15.out (hall 15 (by decide))
            have e3:=(B3.out (hall 17 (by decide))).2.2
            have e4:=(B4.out (hall 19 (by decide))).2.2
            have e5:=(B5.out (hall 21 (by decide))).2.2
            rw [e3,e4,e5] at HB
            clear H3 H4n H4 H9 H10n H10 H14 H15n H15 H16 H18 H20 B3n B3 B4n B4 B5n B5 HR e3 e4 e5
            subst ha
            rw [HA0.out]
            simp only [zL,List.foldl_cons,List.foldl_nil,Act.put,sPa,sPb,sPc]
            refine NoPanic.normal ?_
           
            have hMid:=HFIN.out w6 s4 c4' s10 c10 s15 c15 ls HM HB
            obtain ⟨ws4,hoW4,happ⟩:=hMid.app hP0
            have HOW4:=Kh hoW4;have HAPP:=Kh happ
            have hz6:P≤w6.heap.size:=by have:=HM.but.size;have:=HBA.out;omega
            clear hMid hoW4 happ HM HB q3
            go_wp2_with (first|(at_builtin;refine dC rfl _ _ _ rfl pH P _ m2 (vY ws4) rfl HOW4.out _ rfl rfl ?c1 ?c2 ?c3 ?_)|fail)
            case c1=>unfold maxLen;omega
            case c2=>omega
            case c3=>omega
            intro sW5 cW5 w7' hown7 hg7' hlt7 hmv7
            have hMid2:=HAPP.out (U0 ++ Y) sW5 cW5 w7' (by rw [ByteArray.size_append];omega) hown7 hg7' hmv7
            obtain ⟨hMap7,hput⟩:=hMid2.put hPm
            have HMAP7:=Kh hMap7;have HPUT:=Kh hput
            clear hMid2 hMap7 hput hown7 hg7' hmv7
            go_wp2_with (first|(at_mapUpdate;refine fJ rfl _ _ _ rfl mb m2 (U0 ++ Y) m2 rfl rfl rfl HMAP7.out ?d1 ?d2 ?d3 ?_)|fail)
            case d1=>unfold maxLen;omega
            case d2=>unfold maxLen;(try rw [ByteArray.size_append]);omega
            case d3=>unfold Mid;omega
            intro w8' hMap8 hg8'
            have hS8:=HPUT.out w8' hMap8 hg8' (by simp) (by simp)
            obtain ⟨hrow,hrapp⟩:=hS8.row hP0
            have HOR:=Kh hrow;have HRA:=Kh hrapp
            have hz8:P≤w8'.heap.size:=by obtain ⟨_,_,_,_,_,_,_,_,_,_,_,_,_,_,_,_,_,_,_,_,_,_,_,_,_,_,_,_,_,_,_,hBP8,_⟩:=hS8;have:=zQ hBP8;omega
            clear hS8 hrow hrapp
            go_wp2_with (first|(at_builtin;refine dC rfl _ _ _ rfl yC P _ x (nats ro) rfl HOR.out _ rfl rfl ?r1 ?r2 ?r3 ?_)|fail)
            case r1=>unfold maxLen;omega
            case r2=>omega
            case r3=>omega
            intro sr' cr' w9' hown9 hg9' hlt9 hmv9
            have HS9:=Kh ((HRA.out m2 sr' cr' w9' hown9 hg9' hmv9).more (show u+6 * d+x≤u+6 * d+(x+1) by omega))
            clear hown9 hg9' hmv9
            have HROW2:Hid (oB gs d (wW gs (els,pre,las) d).1 (x+1)=(el2 ++ [f1],pr2 ++ [(d:Int)],la2 ++ [(x:Int)],ro ++ [m2])):=Kh (by
             have hni:f1 ∉ el2:=fun h=>by
              have:=HIZ.out
              unfold mW at this;rw [if_pos h] at this;omega
             rw [oB,HROW.out,qAI]
             simp only
             rw [← HF0.out,← HG0.out,← HF1.out,if_neg hni,HLE2.out])
            go_wp2
            go_roundg (gN - (x+1))
            case measure=>have:=HGX.out;omega
            case rel=>exact ⟨x+1,el2 ++ [f1],pr2 ++ [(d:Int)],la2 ++ [(x:Int)],ro ++ [m2],m2+1,sW5,cW5,sr',cr',by have:=HGX.out;omega,by first|rfl|go_num,rfl,rfl,by omega,by omega,by simp [HRO.out],HROW2.out,HS9.out⟩
         ·have hin:f1∈el2:=by
           by_cases h:f1∈el2
           ·exact h
           ·exfalso;have:=HIZ.out;unfold mW at this;rw [if_neg h] at this;omega
          have HIN:=Kh hin
          have hi0:iz=((el2.idxOf f1:Nat):Int):=by have:=HIZ.out;unfold mW at this;rw [if_pos hin] at this;exact this
          have hi0l:el2.idxOf f1 < m2:=by rw [← HLE2.out];exact List.idxOf_lt_length_of_mem hin
          obtain ⟨i0,hi1⟩:∃ i0,i0=el2.idxOf f1:=⟨_,rfl⟩
          rw [← hi1] at hi0 hi0l
          have HI0:=Kh hi1
          subst hi0
          clear hi1 hin hneg HIZ
          obtain ⟨lb2,V,rfl,hl3,hl4,hcv,hvz⟩:=HS2.out.word (i:=i0) hi0l
          have hcV:=yD hcv HG10.out
          have hl5:cW2≤9223372036854775807:=by unfold maxLen at hl4;omega
          have hi0m:(i0:Int) < m2:=by omega
          clear hcv
          have hP0:w.heap.size≤P:=by have:=HPE.out;omega
          have HROW2:Hid (oB gs d (wW gs (els,pre,las) d).1 (x+1)=(el2,pr2,la2,ro ++ [i0])):=Kh (by
           rw [oB,HROW.out,qAI]
           simp only
           rw [← HF0.out,← HG0.out,← HF1.out,if_pos HIN.out,← HI0.out])
          have hS8:=HS2.out.grow HG10.out
          have HS8:=Kh hS8
          clear hS8
          obtain ⟨T,hT⟩:∃ T,T=U0 ++ Y:=⟨_,rfl⟩
          have hTz:T.size=U0.size+1:=by rw [hT,ByteArray.size_append,hYz]
          have HTZ:=Kh hTz
          rw [← hT] at hcc
          clear hTz hT
          by_cases hU:U0.toList=[]
          ·have hS8:=HS8.out
           obtain ⟨hrow,hrapp⟩:=hS8.row hP0
           have HOR:=Kh hrow;have HRA:=Kh hrapp
           have hz8:P≤w10.heap.size:=by obtain ⟨_,_,_,_,_,_,_,_,_,_,_,_,_,_,_,_,_,_,_,_,_,_,_,_,_,_,_,_,_,_,_,hBP8,_⟩:=hS8;have:=zQ hBP8;omega
           clear hS8 hrow hrapp
           go_wp2_with (first|(at_builtin;refine dC rfl _ _ _ rfl yC P _ x (nats ro) rfl HOR.out _ rfl rfl ?r1 ?r2 ?r3 ?_)|fail)
           case r1=>unfold maxLen;omega
           case r2=>omega
           case r3=>omega
           intro sr' cr' w9' hown9 hg9' hlt9 hmv9
           have HS9:=Kh ((HRA.out i0 sr' cr' w9' hown9 hg9' hmv9).more (show u+6 * d+x≤u+6 * d+(x+1) by omega))
           clear hown9 hg9' hmv9
           go_wp2
           go_roundg (gN - (x+1))
           case measure=>have:=HGX.out;omega
           case rel=>exact ⟨x+1,el2,pr2,la2,ro ++ [i0],m2,some ⟨lb2,0,none⟩,cW2,sr',cr',by have:=HGX.out;omega,by first|rfl|go_num,rfl,rfl,by omega,by omega,by simp [HRO.out],HROW2.out,HS9.out⟩
          ·by_cases hV:V.toList=T.toList
           ·have hS8:=HS8.out
            obtain ⟨hrow,hrapp⟩:=hS8.row hP0
            have HOR:=Kh hrow;have HRA:=Kh hrapp
            have hz8:P≤w10.heap.size:=by obtain ⟨_,_,_,_,_,_,_,_,_,_,_,_,_,_,_,_,_,_,_,_,_,_,_,_,_,_,_,_,_,_,_,hBP8,_⟩:=hS8;have:=zQ hBP8;omega
            clear hS8 hrow hrapp
            go_wp2_with (first|(at_builtin;refine dC rfl _ _ _ rfl yC P _ x (nats ro) rfl HOR.out _ rfl rfl ?r1 ?r2 ?r3 ?_)|fail)
            case r1=>unfold maxLen;omega
            case r2=>omega
            case r3=>omega
            intro sr' cr' w9' hown9 hg9' hlt9 hmv9
            have HS9:=Kh ((HRA.out i0 sr' cr' w9' hown9 hg9' hmv9).more (show u+6 * d+x≤u+6 * d+(x+1) by omega))
            clear hown9 hg9' hmv9
            go_wp2
            go_roundg (gN - (x+1))
            case measure=>have:=HGX.out;omega
            case rel=>exact ⟨x+1,el2,pr2,la2,ro ++ [i0],m2,some ⟨lb2,0,none⟩,cW2,sr',cr',by have:=HGX.out;omega,by first|rfl|go_num,rfl,rfl,by omega,by omega,by simp [HRO.out],HROW2.out,HS9.out⟩
           ·have hU2:U0.toList.isEmpty=false:=by simpa using hU
            have hV2:(V.toList == T.toList)=false:=by simpa using hV
            go_upto_region 28 with fail
            have hTz:=HTZ.out
            obtain ⟨Sb,hSb⟩:∃ Sb,Sb=T.extract 1 T.size:=⟨_,rfl⟩
            have hsl:∀ W:World,(Instr.slice 9 (.string T) (some (.int .i64 1)) none none).run Tryd.prog W=.ok (.string Sb) W:=fun W=>by
             rw [hSb,run_slice_string_l W 9 T jC .i64 1 (by omega) (by omega)]
             rfl
            have hSz:Sb.size≤maxLen:=by
             have:Sb.size≤T.size:=by rw [hSb,ByteArray.size_extract];omega
             unfold maxLen;omega
            have hMap10:uB w10 mb m2:=by
             obtain ⟨_,_,_,_,_,_,_,_,_,_,_,_,_,_,_,_,_,_,_,_,_,_,_,_,_,_,_,_,_,hMap,_,_,_⟩:=HS8.out
             exact hMap
            obtain ⟨cc,ok,hlk⟩:=hMap10.lookup hSz
            clear hTz hSb hSz hMap10 hU hV hU2 hV2
            cases ok with
            | false =>
             have hS8:=HS8.out
             obtain ⟨hrow,hrapp⟩:=hS8.row hP0
             have HOR:=Kh hrow;have HRA:=Kh hrapp
             have hz8:P≤w10.heap.size:=by obtain ⟨_,_,_,_,_,_,_,_,_,_,_,_,_,_,_,_,_,_,_,_,_,_,_,_,_,_,_,_,_,_,_,hBP8,_⟩:=hS8;have:=zQ hBP8;omega
             clear hS8 hrow hrapp
             go_wp2_with (first|(at_builtin;refine dC rfl _ _ _ rfl yC P _ x (nats ro) rfl HOR.out _ rfl rfl ?r1 ?r2 ?r3 ?_)|fail)
             case r1=>unfold maxLen;omega
             case r2=>omega
             case r3=>omega
             intro sr' cr' w9' hown9 hg9' hlt9 hmv9
             have HS9:=Kh ((HRA.out i0 sr' cr' w9' hown9 hg9' hmv9).more (show u+6 * d+x≤u+6 * d+(x+1) by omega))
             clear hown9 hg9' hmv9
             go_wp2
             go_roundg (gN - (x+1))
             case measure=>have:=HGX.out;omega
             case rel=>exact ⟨x+1,el2,pr2,la2,ro ++ [i0],m2,some ⟨lb2,0,none⟩,cW2,sr',cr',by have:=HGX.out;omega,by first|rfl|go_num,rfl,rfl,by omega,by omega,by simp [HRO.out],HROW2.out,HS9.out⟩
            | true =>
             obtain ⟨u8,us8,sU8,cU8,rs8,hq7,hu8,hr8,hnew⟩:=HS8.out.new30 hP0 hoP (by intro r hr;rw [List.mem_singleton] at hr;subst hr;exact ⟨rfl,by simp⟩)
             obtain ⟨w4,hw4⟩:∃ w4,w4=w10.drew:=⟨_,rfl⟩
             have HW4:=Kh hw4
             have hg4:w10.grownBy w4 none:=by rw [hw4];exact zT w10 none
             have C:Hid (w4.cell? ⟨o,7,none⟩=some (.slice sU8 u8 cU8)∧w4.cell? ⟨lb2,i0,none⟩=some (.string V)):=Kh ⟨yD hq7 hg4,yD hcV hg4⟩
             have HNEW:=Kh hnew;have HR8:=Kh hr8;have HG4:=Kh hg4;have HCV:=Kh hcV
             clear hnew hr8 hg4 hw4 hq7 hcV
             go_upto_region 30 with fail
             refine wp_region_noPanic ?_
             refine yY (G:=vV 11 (fun _=>True) (fun W=>W.cell? ⟨o,7,none⟩=some (.slice sU8 u8 cU8)∧W.cell? ⟨lb2,i0,none⟩=some (.string V))) (by kernel_rfl) ?_
             rw [← HW4.out]
             refine takeC (i:=0) (v:=?_) rfl rfl (Or.inl ⟨by rfl,?_⟩) ⟨trivial,fun _=>C.out⟩ ?_
             rotate_left
             ·(intro wz hz;(try dsimp only at hz);go_simp;(try with_reducible rfl))
             try simp only [Act.put,sPa,sPb,sPc]
             refine takeD (i:=1) (v:=?_) rfl rfl (Or.inl ⟨by rfl,?_⟩) ⟨trivial,fun _=>C.out⟩ ?_
             rotate_left
             ·(rintro wz ⟨-,hz⟩;(try dsimp only at hz);go_simp;(try with_reducible rfl))
             try simp only [Act.put,sPa,sPb,sPc]
             refine takeC (i:=2) (v:=?_) rfl rfl (Or.inl ⟨by rfl,?_⟩) ⟨trivial,fun _=>C.out⟩ ?_
             rotate_left
             ·(intro wz hz;(try dsimp only at hz);go_simp;(try with_reducible rfl))
             try simp only [Act.put,sPa,sPb,sPc]
             refine takeC (i:=3) (v:=?_) rfl rfl (Or.inl ⟨by rfl,?_⟩) ⟨trivial,fun _=>C.out⟩ ?_
             rotate_left
             ·(intro wz hz;(try dsimp only at hz);go_simp;(try with_reducible rfl))
             try simp only [Act.put,sPa,sPb,sPc]
             refine takeC (i:=4) (v:=?_) rfl rfl (Or.inl ⟨by rfl,?_⟩) ⟨trivial,fun _=>C.out⟩ ?_
             rotate_left
             ·(intro wz hz;(try dsimp only at hz);go_simp;(try with_reducible rfl))
             try simp only [Act.put,sPa,sPb,sPc]
             refine takeC (i:=5) (v:=?_) rfl rfl (Or.inl ⟨by rfl,?_⟩) ⟨trivial,fun _=>C.out⟩ ?_
             rotate_left
             ·(intro wz hz;(try dsimp only at hz);go_simp;(try with_reducible rfl))
             try simp only [Act.put,sPa,sPb,sPc]
             refine takeD (i:=6) (v:=?_) rfl rfl (Or.inl ⟨by rfl,?_⟩) ⟨trivial,fun _=>C.out⟩ ?_
             rotate_left
             ·(rintro wz ⟨-,hz⟩;(try dsimp only at hz);go_simp;(try with_reducible rfl))
             try simp only [Act.put,sPa,sPb,sPc]
             refine takeC (i:=7) (v:=?_) rfl rfl (Or.inl ⟨by rfl,?_⟩) ⟨trivial,fun _=>C.out⟩ ?_
             rotate_left
             ·(intro wz hz;(try dsimp only at hz);go_simp;(try with_reducible rfl))
             try simp only [Act.put,sPa,sPb,sPc]
             refine oneG (i:=8) (by kernel_rfl) rfl (fun K hK=>?_)
             go_simp
             have hgn:=heap_alloc_new w4 (.cells #[.string T,.string V] 140)
             have hg9:=Ga w4 (.cells #[.string T,.string V] 140) none
             have hg49:=zG HG4.out hg9 (by simp)
             obtain ⟨gR,hgR⟩:∃ gR,gR=w4.heap.size:=⟨_,rfl⟩
             obtain ⟨w9,hw9⟩:∃ w9,w9=w4.alloc (.cells #[.string T,.string V] 140):=⟨_,rfl⟩
             rw [← hgR] at hgn ⊢
             rw [← hw9] at hgn hg9 hg49 ⊢
             have C9:Hid (w9.cell? ⟨o,7,none⟩=some (.slice sU8 u8 cU8)∧w9.cell? ⟨lb2,i0,none⟩=some (.string V)):=Kh ⟨yD C.out.1 hg9,yD C.out.2 hg9⟩
             refine hK.out _ _ ⟨trivial,fun _=>C9.out⟩ ?_
             clear hK K hg9 C hgR hw9
             try simp only [Act.put,sPa,sPb,sPc]
             obtain ⟨hM9,hz9,hfin9⟩:=HNEW.out w9 hg49
             have HFIN9:=Kh hfin9
             have hsrc:tD w9 2 (.slice (some ⟨gR,0,none⟩) 1 1) 1 [.string T,.string V]:=qBB hgn
             refine oneG (i:=9) (by kernel_rfl) rfl (fun K hK=>?_)
             refine oL rfl (.tmp 165) (.tmp 172) 104 rfl eN 4 _ rfl ⟨_,_,_,_,_,hM9,⟨P,140,.slice sU8 u8 cU8,u8,us8,2⟩,1,u8+1,_,HR8.out,rfl,rfl,rfl,hsrc,?z1,rfl,?z2,?z3,?z4,?_⟩
             case z1=>intro v hv;simp only [List.mem_cons,List.not_mem_nil,or_false] at hv;rcases hv with rfl|rfl <;> rfl
             case z2=>unfold maxLen;omega
             case z3=>show (u8+1) * 32≤140737488355328;omega
             case z4=>exact hz9
             intro sU' cU' wM hMM
             obtain ⟨hc7,hf7,hcs,hS9⟩:=HFIN9.out wM sU' cU' [.string T,.string V] hMM
             have CM:Hid (wM.cell? ⟨o,7,none⟩=some (.slice sU8 u8 cU8)∧wM.cell? ⟨lb2,i0,none⟩=some (.string V)):=Kh ⟨hc7,hcs i0 _ hi0l HCV.out⟩
             refine hK.out _ _ ⟨trivial,fun _=>CM.out⟩ ?_
             have HS9:=Kh hS9;have HF7:=Kh hf7
             clear hK K C9 hM9 hz9 hfin9 hsrc hgn hMM hc7 hf7 hcs hS9 hg49
             try simp only [Act.put,sPa,sPb,sPc]
             refine takeC (i:=10) (v:=?_) rfl rfl (Or.inl ⟨by rfl,?_⟩) ⟨trivial,fun _=>CM.out⟩ ?_
             rotate_left
             ·(intro wz hz;(try dsimp only at hz);go_simp;(try with_reducible rfl))
             try simp only [Act.put,sPa,sPb,sPc]
             refine oneG (i:=11) (by kernel_rfl) rfl (fun K hK=>?_)
             have q7:=CM.out.1
             have f7:=HF7.out
             go_simp
             refine hK.out _ _ ⟨trivial,fun h=>by simp at h⟩ ?_
             clear hK K q7 f7 CM
             try simp only [Act.put,sPa,sPb,sPc]
             refine nW (by kernel_rfl) ?_ _
             refine NoPanic.normal ?_
             obtain ⟨wZ,hwZ⟩:∃ wZ,wZ=wM.setCell ⟨o,7,none⟩ (.slice sU' (u8+1) cU'):=⟨_,rfl⟩
             have hS8:=HS9.out
             rw [← hwZ] at hS8 ⊢
             clear hwZ HS9
             obtain ⟨hrow,hrapp⟩:=hS8.row hP0
             have HOR:=Kh hrow;have HRA:=Kh hrapp
             have hz8:P≤wZ.heap.size:=by obtain ⟨_,_,_,_,_,_,_,_,_,_,_,_,_,_,_,_,_,_,_,_,_,_,_,_,_,_,_,_,_,_,_,hBP8,_⟩:=hS8;have:=zQ hBP8;omega
             clear hS8 hrow hrapp
             go_wp2_with (first|(at_builtin;refine dC rfl _ _ _ rfl yC P _ x (nats ro) rfl HOR.out _ rfl rfl ?r1 ?r2 ?r3 ?_)|fail)
             case r1=>unfold maxLen;omega
             case r2=>omega
             case r3=>omega
             intro sr' cr' w9' hown9 hg9' hlt9 hmv9
             have HS9:=Kh ((HRA.out i0 sr' cr' w9' hown9 hg9' hmv9).more (show u+6 * d+x+1≤u+6 * d+(x+1) by omega))
             clear hown9 hg9' hmv9
             go_wp2
             go_roundg (gN - (x+1))
             case measure=>have:=HGX.out;omega
             case rel=>exact ⟨x+1,el2,pr2,la2,ro ++ [i0],m2,some ⟨lb2,0,none⟩,cW2,sr',cr',by have:=HGX.out;omega,by first|rfl|go_num,rfl,rfl,by omega,by omega,by simp [HRO.out],HROW2.out,HS9.out⟩
        ·have HXN:Hid (x=gN):=Kh (by have:=HGX.out;omega)
         have hRo:=hMp.own ⟨P,22,.slice sR2 d cR2,d,hsR2,1⟩ (by simp)
         simp only at hRo
         have hro2:=hMp.own ⟨P,3,.slice sr x cr,x,nats ro,1⟩ (by simp)
         simp only at hro2
         have hzP:=zQ hBPp
         obtain ⟨q0,q1,q2,q3,q4,q5,q6,q7,q8⟩:=zX hBp
         have HRo:=Kh hRo;have HRo2:=Kh hro2
         have HBp:=Kh hBp;have HMp:=Kh hMp;have HEp:=Kh hEp;have HRp:=Kh hRp;have HGp:=Kh hGp;have HXp:=Kh hXp;have HMap:=Kh hMap;have HBPp:=Kh hBPp;have HGp2:=Kh hgp;have HU2:=Kh hu2;have HWs:=Kh (And.intro hwl hwz);have HLs:=Kh (And.intro hl (And.intro hpl (And.intro hll (And.intro hrl hit))))
         clear hl hpl hll hrl hit hu2 hwl hwz hMp hEp hRp hGp hXp hMap hBp hBPp hgp hRo hro2 q0 q1 q2 q3 q4 q5 q7 q8
         go_wp2_with (first|(at_builtin;refine dC rfl _ _ _ rfl vO P _ d hsR2 rfl HRo.out _ rfl rfl ?r1 ?r2 ?r3 ?_)|fail)
         case r1=>unfold maxLen;omega
         case r2=>omega
         case r3=>omega
         intro sR' cR' w11 hown11 hg11 hlt11 hmv11
         have hB11:=zE HBp.out hg11 (zS HRo.out HBp.out (by decide))
         obtain ⟨q0,q1,q2,q3,q4,q5,q6',q7,q8⟩:=zX hB11
         have f6:=zD hB11 6;have f8:=zD hB11 8
         have hs6:=heap_setCell_same w11 o 6 _ _ (.slice sR' (d+1) cR') hB11
         have hs8:=heap_setCell_same _ o 8 _ _ (.int .i64 ((d:Int)+1)) hs6
         have hgS:=zF (zH w11 ⟨o,6,none⟩ (.slice sR' (d+1) cR')) (zH (w11.setCell ⟨o,6,none⟩ (.slice sR' (d+1) cR')) ⟨o,8,none⟩ (.int .i64 ((d:Int)+1)))
         have HO11:=Kh hown11;have HG11:=Kh hg11;have HMV:=Kh hmv11;have HB11:=Kh hB11
         have HS8:=Kh hs8;have HGS:=Kh hgS
         clear hown11 hg11 hmv11 hB11 hs6 hs8 hgS q0 q1 q2 q3 q4 q5 q7 q6
         go_wp2
         go_roundg (bd - (d+1))
         case measure=>have:=HGH.out;omega
         case rel =>
          have hM1:=HMp.out.appAt (j:=3) rfl (v':=.slice sR' (d+1) cR') (n':=d+1) (us:=[Value.slice sr x cr]) HO11.out HG11.out HMV.out
          have hM2:EMem X2 w11 ([⟨P,22,.slice sE2 m2 cE2,m2,hsE2,1⟩,⟨P,3,.slice sP2 m2 cP2,m2,ints pr2,1⟩,⟨P,3,.slice sL2 m2 cL2,m2,ints la2,1⟩,⟨P,22,.slice sR' (d+1) cR',d+1,hsR2 ++ [Value.slice sr x cr],1⟩,⟨P,140,.slice sU2 u2 cU2,u2,us2,2⟩,⟨P,9,.slice sW2 m2 cW2,m2,vY ws2,1⟩] ++ [⟨P,3,.slice sr x cr,x,nats ro,1⟩]):=hM1
          have hM3:=hM2.retire
          have hrow:=hM2.own ⟨P,3,.slice sr x cr,x,nats ro,1⟩ (by simp)
          simp only at hrow hM3
          have k11:wY X2 wr w11:=wY.of_grown HMp.out.lt HG11.out (fun j e hx=>HMp.out.offX ⟨P,22,.slice sR2 d cR2,d,hsR2,1⟩ (by simp) j e hx)
          have hBP11:=zE HBPp.out HG11.out (zS HRo.out HBPp.out (by decide))
          have hMap11:=HMap.out.kept HG11.out (HMap.out.ne_own HRo.out)
          have hX':¬ (X2 o∨(Value.slice sr x cr).ownBlock=some o)∧¬ (X2 (P+1)∨(Value.slice sr x cr).ownBlock=some (P+1))∧¬ (X2 mb∨(Value.slice sr x cr).ownBlock=some mb) :=
           ⟨fun h=>h.elim HXp.out.1 (zS hrow HB11.out (by decide)),fun h=>h.elim HXp.out.2.1 (zS hrow hBP11 (by decide)),fun h=>h.elim HXp.out.2.2 (hMap11.ne_own hrow)⟩
          have kS:wY (fun j=>X2 j∨(Value.slice sr x cr).ownBlock=some j) w11 _:=wY.of_grown hM3.lt HGS.out (fun j e hx=>by have e:o=j:=Oj e;subst e;exact hX'.1 hx)
          have hs11:=HG11.out.size
          have hsS:=HGS.out.size
          have hEn:=((HEp.out.kept k11 hs11).mono (X':=fun j=>X2 j∨(Value.slice sr x cr).ownBlock=some j) (fun j h=>.inl h)).kept kS hsS
          have hRn:=(((HRp.out.kept k11 hs11).mono (X':=fun j=>X2 j∨(Value.slice sr x cr).ownBlock=some j) (fun j h=>.inl h)).snoc (RowX.of_owns hrow (fun j h=>.inr h))).kept kS hsS
          have hGn:=((HGp.out.kept k11 hs11).mono (X':=fun j=>X2 j∨(Value.slice sr x cr).ownBlock=some j) (fun j h=>.inl h)).kept kS hsS
          have hMn:=hM3.far HGS.out (fun r hr=>zS (hM3.own r hr) HB11.out (by
           simp only [List.mem_cons,List.not_mem_nil,or_false] at hr
           rcases hr with rfl|rfl|rfl|rfl|rfl|rfl <;> simp))
          refine ⟨d+1,el2,pr2,la2,ri ++ [ro],m2,sW2,cW2,by have:=HGH.out;omega,by first|rfl|go_num,rfl,hm3,by omega,?_,.mk (fun j=>X2 j∨(Value.slice sr x cr).ownBlock=some j) u2 us2 hsE2 (hsR2 ++ [Value.slice sr x cr]) ws2 sE2 cE2 sP2 cP2 sL2 cL2 sR' cR' sU2 cU2 HLs.out.1 HLs.out.2.1 HLs.out.2.2.1 (by simp [HLs.out.2.2.2.1]) HLs.out.2.2.2.2 (by have:=HU2.out;have:=HGN.out;have:=HXN.out;omega) HWs.out.1 HWs.out.2 (by rw [List.append_nil];exact hMn) hEn hRn hGn hX' (hMap11.kept HGS.out (fun e=>by have e:o=mb:=Oj e;omega)) ?_ (zE hBP11 HGS.out (by simp;omega)) ?_⟩
          ·have h1:=HROW.out
           rw [HXN.out,HGN.out] at h1
           rw [wW,h1,HPT.out]
          ·have:=HS8.out
           simpa using this
          ·exact zG (zG HGp2.out HG11.out (fun j e=>by have:=(HRo.out.lt j e).1;have:=HPE.out;omega)) HGS.out (fun j e=>by have e:o=j:=Oj e;have:=HPE.out;omega)
      ·have HDN:Hid (d=m):=Kh (by omega)
       have hdn':¬ (d:Int) < m:=by omega
       obtain ⟨p0,p1,p2,p3,p4,p5,p6,p7,p8⟩:=zX hBPp
       have f0:=zD hBPp 0;have f1:=zD hBPp 1;have f2:=zD hBPp 2;have f3:=zD hBPp 3;have f4:=zD hBPp 4;have f5:=zD hBPp 5;have f6:=zD hBPp 6;have f7:=zD hBPp 7;have f8:=zD hBPp 8
       have HM9:=Kh hMp;have HE9:=Kh hEp;have HR9:=Kh hRp;have HG9:=Kh hGp;have HX9:=Kh hXp;have HBP9:=Kh hBPp;have HGP9:=Kh hgp
       have HL9:=Kh (And.intro hl (And.intro hpl (And.intro hll (And.intro hrl hit))))
       clear hMp hEp hRp hGp hXp hMap hBp hBPp hgp hl hpl hll hrl hit hwl hwz
       go_wp2
       refine bodyPost_ret (v:=.tuple #[.agg #[.int .i64 n,.bool true,.slice gA gN gC,.slice sE m cE,.slice sP m cP,.slice sL m cL,.slice sR d cR,.slice sU u1 cU,.int .i64 d],.int .i64 0]) (by simp [results,Tryd.results105,go_sem,p0,p1,p2,p3,p4,p5,p6,p7,p8]) rfl ?_
       obtain ⟨hsZ,hgZ⟩:=pY HBP9.out (.int .i64 n) (.bool true) (.slice gA gN gC) (.slice sE m cE) (.slice sP m cP) (.slice sL m cL) (.slice sR d cR) (.slice sU u1 cU) (.int .i64 d)
       have kk:wY X1 wr _:=wY.of_grown HM9.out.lt hgZ (fun j e hx=>by have e:P+1=j:=Oj e;subst e;exact HX9.out.2.1 hx)
       refine .inr ⟨X1,el,pr,la,ri,m,d,u1,us1,hsE1,hsR1,sE,cE,sP,cP,sL,cL,sR,cR,sU,cU,rfl,HPT.out,.inl HDN.out,hm2,hdm,HL9.out.1,HL9.out.2.1,HL9.out.2.2.1,HL9.out.2.2.2.1,HL9.out.2.2.2.2,?_,HE9.out.kept kk hgZ.size,HR9.out.kept kk hgZ.size,HG9.out.kept kk hgZ.size,zG HGP9.out hgZ (fun j e=>by have e:P+1=j:=Oj e;have:=HPE.out;omega)⟩
       rw [← HPE.out]
       have h9:=HM9.out
       rw [List.append_nil] at h9
       have h8:=EMem.dropLast (rs:=[⟨P,22,.slice sE m cE,m,hsE1,1⟩,⟨P,3,.slice sP m cP,m,ints pr,1⟩,⟨P,3,.slice sL m cL,m,ints la,1⟩,⟨P,22,.slice sR d cR,d,hsR1,1⟩,⟨P,140,.slice sU u1 cU,u1,us1,2⟩]) h9
       exact h8.far hgZ (fun r hr=>zS (h8.own r hr) HBP9.out (by
        simp only [List.mem_cons,List.not_mem_nil,or_false] at hr
        rcases hr with rfl|rfl|rfl|rfl|rfl <;> simp))
     ·have hb':¬ (0:Int) < (gk:Int):=by omega
      obtain ⟨p0,p1,p2,p3,p4,p5,p6,p7,p8⟩:=zX hBPp
      have f0:=zD hBPp 0;have f1:=zD hBPp 1;have f2:=zD hBPp 2;have f3:=zD hBPp 3;have f4:=zD hBPp 4;have f5:=zD hBPp 5;have f6:=zD hBPp 6;have f7:=zD hBPp 7;have f8:=zD hBPp 8
      have HM9:=Kh hMp;have HE9:=Kh hEp;have HR9:=Kh hRp;have HG9:=Kh hGp;have HX9:=Kh hXp;have HBP9:=Kh hBPp;have HGP9:=Kh hgp
      have HL9:=Kh (And.intro hl (And.intro hpl (And.intro hll (And.intro hrl hit))))
      clear hMp hEp hRp hGp hXp hMap hBp hBPp hgp hl hpl hll hrl hit hwl hwz
      go_wp2
      refine bodyPost_ret (v:=.tuple #[.agg #[.int .i64 n,.bool true,.slice gA gN gC,.slice sE m cE,.slice sP m cP,.slice sL m cL,.slice sR d cR,.slice sU u1 cU,.int .i64 d],.int .i64 0]) (by simp [results,Tryd.results105,go_sem,p0,p1,p2,p3,p4,p5,p6,p7,p8]) rfl ?_
      obtain ⟨hsZ,hgZ⟩:=pY HBP9.out (.int .i64 n) (.bool true) (.slice gA gN gC) (.slice sE m cE) (.slice sP m cP) (.slice sL m cL) (.slice sR d cR) (.slice sU u1 cU) (.int .i64 d)
      have kk:wY X1 wr _:=wY.of_grown HM9.out.lt hgZ (fun j e hx=>by have e:P+1=j:=Oj e;subst e;exact HX9.out.2.1 hx)
      refine .inr ⟨X1,el,pr,la,ri,m,d,u1,us1,hsE1,hsR1,sE,cE,sP,cP,sL,cL,sR,cR,sU,cU,rfl,HPT.out,.inr (by have:=HGH.out;omega),hm2,hdm,HL9.out.1,HL9.out.2.1,HL9.out.2.2.1,HL9.out.2.2.2.1,HL9.out.2.2.2.2,?_,HE9.out.kept kk hgZ.size,HR9.out.kept kk hgZ.size,HG9.out.kept kk hgZ.size,zG HGP9.out hgZ (fun j e=>by have e:P+1=j:=Oj e;have:=HPE.out;omega)⟩
      rw [← HPE.out]
      have h9:=HM9.out
      rw [List.append_nil] at h9
      have h8:=EMem.dropLast (rs:=[⟨P,22,.slice sE m cE,m,hsE1,1⟩,⟨P,3,.slice sP m cP,m,ints pr,1⟩,⟨P,3,.slice sL m cL,m,ints la,1⟩,⟨P,22,.slice sR d cR,d,hsR1,1⟩,⟨P,140,.slice sU u1 cU,u1,us1,2⟩]) h9
      exact h8.far hgZ (fun r hr=>zS (h8.own r hr) HBP9.out (by
       simp only [List.mem_cons,List.not_mem_nil,or_false] at hr
       rcases hr with rfl|rfl|rfl|rfl|rfl <;> simp))
end Go.Proofs.YtdjhoadoiknaoaaDoor
