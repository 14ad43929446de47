/- Part 33 of the proof: Build12, BoxS. -/
import Derived.Test.YtdjhoadoiknaoaaDoorZC32
set_option linter.unusedVariables false
set_option linter.unusedSimpArgs false
namespace Go.Proofs.YtdjhoadoiknaoaaDoor
open Go.RowKit
theorem startTo_le (gs:List (List Nat)) (n:Nat):∀ x,(yJ gs n x).1.length≤x+1
 | 0=>by simp [yJ]
 | x+1=>by
  have:=startTo_le gs n x
  rw [yJ]
  split
  ·omega
  ·simp only [List.length_append,List.length_singleton];omega
theorem RowX.one {X:Nat→Prop} {e:TypeId} {w:World} {v:Value} {xs:List Value} (h:RowX X e w v xs):v.oneCell'=true:=by
 obtain ⟨a,c,rfl⟩:=h.1.shape
 rfl
theorem RowsX.one {α:Type} {X:Nat→Prop} {e:TypeId} {f:α→List Value} {w:World} {hs:List Value} {ts:List α} (h:RowsX X e f w hs ts):∀ v∈hs,v.oneCell'=true:=by
 intro v hv
 obtain ⟨i,hi,rfl⟩:=List.getElem_of_mem hv
 exact (h.2 i hi (by rw [← h.1];exact hi)).one
def Big (n:Nat):Prop:=∃ el:List (List Nat),el.Nodup∧400 < el.length∧∀ f∈el,IsT n f
theorem big_of_full {gs:List (List Nat)} {n:Nat} (hg:∀ g∈gs,IsT n g) (h1:1≤n) (hk:1≤gs.length) (h:jP gs (yJ gs n gs.length) n):Big n:=by
 obtain ⟨d,x,hd,hx,hl,hit⟩:=h
 have hE:=jE hg (mL hg gs.length (Nat.le_refl _)) d (proc_go h1 hk (fun f hf=>hit f ((jZ gs d _ x).subset hf)))
 have hr:=iB hg hE.en hd x hx
 exact ⟨_,hr.en.nodup,by rw [hl];decide,hit⟩
def BuildOk (gs:List (List Nat)) (n:Nat) (w:World) (e:Ending) (w':World):Prop :=
 (e=.returned (.tuple #[.agg #[.int .i64 0,.bool false,.slice none 0 0,.slice none 0 0,.slice none 0 0,.slice none 0 0,.slice none 0 0,.slice none 0 0,.int .i64 0],.int .i64 3])∧Big n∧w.grownBy w' none) ∨
 ∃ (el:List (List Nat)) (pr la:List Int) (ri:List (List Nat)) (m gN uN:Nat) (gA uA:Option Addr) (gC uC:Nat) (vP vL vR:Value) (sE:Option Addr) (cE:Nat),
  e=.returned (.tuple #[.agg #[.int .i64 n,.bool true,.slice gA gN gC,.slice sE m cE,vP,vL,vR,.slice uA uN uC,.int .i64 m],.int .i64 0])∧Enm gs n el pr la ri m∧el.length=m∧m≤2000 ∧
  TMat w'.heap.size w' (.slice sE m cE) el∧Row w'.heap.size w' vP (ints pr)∧Row w'.heap.size w' vL (ints la)∧TMat w'.heap.size w' vR ri∧w.grownBy w' none
set_option maxRecDepth 100000 in
set_option maxHeartbeats 2000000 in
theorem build12_any (B:Nat) (w:World) (v0:Value) (gs:List (List Nat)) (n:Nat) (hB:B≤w.heap.size) (h:TMat B w v0 gs) (hgs:∀ g∈gs,IsT n g) (h1:1≤n) (h32:n≤32) (hk1:1≤gs.length) (hk6:gs.length≤6) :
  Calls Tryd.prog 83 #[v0,.bool true] w (BuildOk gs n w):=by
 obtain ⟨w1,hw1⟩:∃ w1,w1=w.alloc (.cells #[.int .i64 0,.bool false,.slice none 0 0,.slice none 0 0,.slice none 0 0,.slice none 0 0,.slice none 0 0,.slice none 0 0,.int .i64 0] 106):=⟨_,rfl⟩
 have hg1:w.grownBy w1 none:=by rw [hw1];exact Ga w _ none
 have hb1:=heap_alloc_new w (.cells #[.int .i64 0,.bool false,.slice none 0 0,.slice none 0 0,.slice none 0 0,.slice none 0 0,.slice none 0 0,.slice none 0 0,.int .i64 0] 106)
 rw [← hw1] at hb1
 have HST:=Kh (start12_any B w1 v0 gs n (Nat.le_trans hB hg1.size) (h.kept hg1 (by simp)) hgs h1 h32 hk1 hk6)
 obtain ⟨P,hP⟩:∃ P,P=w.heap.size:=⟨_,rfl⟩
 have HPE:=Kh hP;have HW1:=Kh hw1;have HG1:=Kh hg1;have HGS:=Kh hgs
 rw [← hP] at hb1
 have HB1:=Kh hb1
 clear hw1 hg1 hb1 hgs h
 go_enter Tryd.func83,Tryd.ntmps83
 go_upto_region 1 with fail
 rw [← HW1.out,← HPE.out]
 clear hP
 go_wp2_with fail
 refine HST.out.mono ?_
 rintro e w2 ⟨X,els,pre,las,m,u,us,hsE,gv,sE,cE,sP,cP,sL,cL,sU,cU,rfl,hst,hl,hpl,hll,hu,hus,hM,hE,hG,hg2⟩
 have hok:=mS (gs:=gs) (n:=n) gs.length (Nat.le_refl _)
 have hle:=startTo_le gs n gs.length
 rw [hst] at hok hle
 simp only at hok hle
 obtain ⟨gA,gC,rfl⟩:=hG.tmat.shape
 have hb2:=zE HB1.out hg2 (by simp)
 have hit:=(mL HGS.out gs.length (Nat.le_refl _)).it
 rw [hst] at hit
 simp only at hit
 obtain ⟨w4,hw4⟩:∃ w4,w4=w2.alloc (.cells #[.int .i64 n,.bool true,.slice gA gs.length gC,.slice sE m cE,.slice sP m cP,.slice sL m cL,.slice none 0 0,.slice sU u cU,.int .i64 0] 106):=⟨_,rfl⟩
 have hg4:w2.grownBy w4 none:=by rw [hw4];exact Ga w2 _ none
 have hb4:=heap_alloc_new w2 (.cells #[.int .i64 n,.bool true,.slice gA gs.length gC,.slice sE m cE,.slice sP m cP,.slice sL m cL,.slice none 0 0,.slice sU u cU,.int .i64 0] 106)
 rw [← hw4] at hb4
 have k4:=hM.keep hg4
 have hpr:Calls Tryd.prog 105 #[.agg #[.int .i64 n,.bool true,.slice gA gs.length gC,.slice sE m cE,.slice sP m cP,.slice sL m cL,.slice none 0 0,.slice sU u cU,.int .i64 0],.int .i64 2001] w4 (ProcOk gs els pre las n 2001 (.slice gA gs.length gC) w4) :=
  process12_any w4 w1.heap.size X gs els pre las n m u us hsE gA gs.length gC sE cE sP cP sL cL sU cU 2001 (hM.grow hg4) (hE.kept k4 hg4.size) (hG.kept k4 hg4.size) hE.one hus hl hpl hll hit HGS.out rfl h32 (by rw [hl] at hok;exact hok.1) hk6 (by omega) (by omega) (by omega)
 have HPR:=Kh hpr
 obtain ⟨q0,q1,q2,q3,q4,q5,q6,q7,q8⟩:=zW hb4
 have hb5:=zE hb2 hg4 (by simp)
 have HB5:=Kh hb5;have HGW:=Kh (zF (zF HG1.out hg2 (by simp)) hg4 (by simp));have HW4:=Kh hw4;have HSTT:=Kh hst
 clear hok hle hl hpl hll hu hus hM hE hG hg2 hb2 hit hg4 hb4 k4 hpr hb5 hw4 hst
 go_upto_region 2 with fail
 rw [← HW4.out]
 go_wp2_with fail
 refine HPR.out.mono ?_
 rintro e w5 (⟨rfl,hfu,hg5⟩|⟨X2,el,pr,la,ri,m2,d,u2,us2,hsE2,hsR,sE2,cE2,sP2,cP2,sL2,cL2,sR2,cR2,sU2,cU2,rfl,hpt,hor,hm2,hdm,hl,hpl,hll,hrl,hit,hM,hE,hR,hG,hg5⟩)
 ·have HBIG:Hid (Big n):=Kh (big_of_full HGS.out h1 hk1 (by rw [HSTT.out];exact hfu))
  clear hfu
  have hb6:=zE HB5.out hg5 (by simp)
  have HB6:=Kh hb6;have HG5:=Kh (zF HGW.out hg5 (by simp))
  obtain ⟨p0,p1,p2,p3,p4,p5,p6,p7,p8⟩:=zW hb6
  have f0:=zD hb6 0;have f1:=zD hb6 1;have f2:=zD hb6 2;have f3:=zD hb6 3;have f4:=zD hb6 4;have f5:=zD hb6 5;have f6:=zD hb6 6;have f7:=zD hb6 7;have f8:=zD hb6 8
  clear hg5 hb6 q0 q1 q2 q3 q4 q5 q6 q7 q8
  go_wp2
  refine bodyPost_ret (v:=.tuple #[.agg #[.int .i64 0,.bool false,.slice none 0 0,.slice none 0 0,.slice none 0 0,.slice none 0 0,.slice none 0 0,.slice none 0 0,.int .i64 0],.int .i64 3]) (by simp [results,Tryd.results83,go_sem,p0,p1,p2,p3,p4,p5,p6,p7,p8]) rfl ?_
  obtain ⟨hsZ,hgZ⟩:=qS HB6.out (.int .i64 0) (.bool false) (.slice none 0 0) (.slice none 0 0) (.slice none 0 0) (.slice none 0 0) (.slice none 0 0) (.slice none 0 0) (.int .i64 0)
  exact .inl ⟨rfl,HBIG.out,zF HG5.out hgZ (fun j e=>by have e:P=j:=Oj e;have:=HPE.out;omega)⟩
 ·have hdm2:d=m2:=by rcases hor with h|h <;> omega
  subst hdm2
  have hen:=enm_of HGS.out h1 hk1 (by rw [HSTT.out];exact hpt) hit
  have hb6:=zE HB5.out hg5 (by simp)
  have HB6:=Kh hb6;have HG5:=Kh (zF HGW.out hg5 (by simp));have HEN:=Kh hen;have HM:=Kh hM;have HE:=Kh hE;have HR:=Kh hR
  have HL:=Kh hl
  obtain ⟨p0,p1,p2,p3,p4,p5,p6,p7,p8⟩:=zW hb6
  have f0:=zD hb6 0;have f1:=zD hb6 1;have f2:=zD hb6 2;have f3:=zD hb6 3;have f4:=zD hb6 4;have f5:=zD hb6 5;have f6:=zD hb6 6;have f7:=zD hb6 7;have f8:=zD hb6 8
  have hOE:OwnT w4.heap.size w5 (.slice sE2 d cE2) d el:=⟨hsE2,hM.own ⟨w4.heap.size,22,.slice sE2 d cE2,d,hsE2,1⟩ (by simp),hE.rowsT,hl⟩
  have hOR:OwnT w4.heap.size w5 (.slice sR2 d cR2) d ri:=⟨hsR,hM.own ⟨w4.heap.size,22,.slice sR2 d cR2,d,hsR,1⟩ (by simp),hR.rowsT,hrl⟩
  have HOE:=Kh hOE;have HOR:=Kh hOR
  clear hpt hor hdm hl hpl hll hrl hit hM hE hR hG hOE hOR hen hg5 hb6 q0 q1 q2 q3 q4 q5 q6 q7 q8
  go_wp2
  refine bodyPost_ret (v:=.tuple #[.agg #[.int .i64 n,.bool true,.slice gA gs.length gC,.slice sE2 d cE2,.slice sP2 d cP2,.slice sL2 d cL2,.slice sR2 d cR2,.slice sU2 u2 cU2,.int .i64 d],.int .i64 0]) (by simp [results,Tryd.results83,go_sem,p0,p1,p2,p3,p4,p5,p6,p7,p8]) rfl ?_
  obtain ⟨hsZ,hgZ⟩:=qS HB6.out (.int .i64 n) (.bool true) (.slice gA gs.length gC) (.slice sE2 d cE2) (.slice sP2 d cP2) (.slice sL2 d cL2) (.slice sR2 d cR2) (.slice sU2 u2 cU2) (.int .i64 d)
  have hoP:w5.ownsRow w4.heap.size 3 1 (.slice sP2 d cP2) d (ints pr):=HM.out.own ⟨w4.heap.size,3,.slice sP2 d cP2,d,ints pr,1⟩ (by simp)
  have hoL:w5.ownsRow w4.heap.size 3 1 (.slice sL2 d cL2) d (ints la):=HM.out.own ⟨w4.heap.size,3,.slice sL2 d cL2,d,ints la,1⟩ (by simp)
  exact .inr ⟨el,pr,la,ri,d,_,_,_,_,_,_,_,_,_,sE2,cE2,rfl,HEN.out,HL.out,hm2,(HOE.out.other hgZ HB6.out (by decide) (by decide)).tmat,Row.of_owns (hoP.kept hgZ (.inr (zS hoP HB6.out (by decide)))),Row.of_owns (hoL.kept hgZ (.inr (zS hoL HB6.out (by decide)))),(HOR.out.other hgZ HB6.out (by decide) (by decide)).tmat,zF HG5.out hgZ (fun j e=>by have e:P=j:=Oj e;have:=HPE.out;omega)⟩
theorem jA {W:World} {g e:Nat} {u:Value} {m:Nat × Nat} (h:W.heap[g]?=some (.cells #[u] e m)):uJ W 1 (.slice (some ⟨g,0,none⟩) 1 1) 1 [u]:=by
 have c0:=zI h 0 (by simp)
 simp only [List.getElem_toArray,List.getElem_cons_zero] at c0
 refine .inr ⟨g,0,1,rfl,rfl,by unfold maxLen;omega,fun j u' hj=>?_⟩
 match j,hj with
 | 0,hj=>simp at hj;subst hj;simpa using c0
theorem yM {w:World} {p e:Nat} {x0 x1 x2 x3 x4 x5:Value} (h:w.heap[p]?=some (.cells #[x0,x1,x2,x3,x4,x5] e (0,0))) :
  w.cell? ⟨p,0,none⟩=some x0∧w.cell? ⟨p,1,none⟩=some x1∧w.cell? ⟨p,2,none⟩=some x2∧w.cell? ⟨p,3,none⟩=some x3∧w.cell? ⟨p,4,none⟩=some x4∧w.cell? ⟨p,5,none⟩=some x5:=by
 have c0:=zI h 0 (by simp)
 have c1:=zI h 1 (by simp)
 have c2:=zI h 2 (by simp)
 have c3:=zI h 3 (by simp)
 have c4:=zI h 4 (by simp)
 have c5:=zI h 5 (by simp)
 exact ⟨by simpa using c0,by simpa using c1,by simpa using c2,by simpa using c3,by simpa using c4,by simpa using c5⟩
theorem uX {w:World} {p e:Nat} {z0 z1 z2 z3 z4 z5:Value} (h:w.heap[p]?=some (.cells #[z0,z1,z2,z3,z4,z5] e (0,0))) (x0 x1 x2 x3 x4 x5:Value) :
  ((((((w.setCell ⟨p,0,none⟩ x0).setCell ⟨p,1,none⟩ x1).setCell ⟨p,2,none⟩ x2).setCell ⟨p,3,none⟩ x3).setCell ⟨p,4,none⟩ x4).setCell ⟨p,5,none⟩ x5).heap[p]?=some (.cells #[x0,x1,x2,x3,x4,x5] e (0,0)) ∧
  w.grownBy ((((((w.setCell ⟨p,0,none⟩ x0).setCell ⟨p,1,none⟩ x1).setCell ⟨p,2,none⟩ x2).setCell ⟨p,3,none⟩ x3).setCell ⟨p,4,none⟩ x4).setCell ⟨p,5,none⟩ x5) (some p):=by
 have s0:=heap_setCell_same w p 0 _ _ x0 h
 have s1:=heap_setCell_same _ p 1 _ _ x1 s0
 have s2:=heap_setCell_same _ p 2 _ _ x2 s1
 have s3:=heap_setCell_same _ p 3 _ _ x3 s2
 have s4:=heap_setCell_same _ p 4 _ _ x4 s3
 have s5:=heap_setCell_same _ p 5 _ _ x5 s4
 refine ⟨by rw [s5];simp,?_⟩
 have t:=fun (W:World) (i:Nat) (u:Value)=>zH W ⟨p,i,none⟩ u
 exact zG (zG (zG (zG (zG (t _ 0 _) (t _ 1 _)) (t _ 2 _)) (t _ 3 _)) (t _ 4 _)) (t _ 5 _)
structure BoxS (B:Nat) (X:Nat→Prop) (o ty:Nat) (w0 wk:World) (rs:List RowS) (c:Array Value) (w:World):Prop where
 mem:EMem X w rs
 typ:∀ r∈rs,r.base=B∧r.e≠ty
 box:w.heap[o]?=some (.cells c ty (0,0))
 off:¬ X o
 size:w0.heap.size≤B
 old:w0.heap.size≤o
 base:B≤wk.heap.size
 grown:w0.grownBy w none
 kept:KeepX X wk w
 wk:wk.heap.size≤w.heap.size
section
variable {B:Nat} {X:Nat→Prop} {o ty:Nat} {w0 wk w:World} {rs:List RowS} {c:Array Value}
theorem BoxS.grow (h:BoxS B X o ty w0 wk rs c w) {w':World} (hg:w.grownBy w' none):BoxS B X o ty w0 wk rs c w' :=
 ⟨h.mem.grow hg,h.typ,zE h.box hg (by simp),h.off,h.size,h.old,h.base,zF h.grown hg (by simp),h.kept.trans (h.mem.keep hg),Nat.le_trans h.wk hg.size⟩
theorem BoxS.set (h:BoxS B X o ty w0 wk rs c w) (f:Nat) (u:Value):BoxS B X o ty w0 wk rs (c.setIfInBounds f u) (w.setCell ⟨o,f,none⟩ u):=by
 have hs:=heap_setCell_same w o f _ _ u h.box
 have hg:=zH w ⟨o,f,none⟩ u
 exact ⟨h.mem.far hg (fun r hr=>zS (h.mem.own r hr) h.box (h.typ r hr).2),h.typ,hs,h.off,h.size,h.old,h.base,zF h.grown hg (fun j e=>by have e:o=j:=Oj e;have:=h.old;omega),h.kept.trans (KeepX.of_grown h.mem.lt hg (fun j e hx=>by have e:o=j:=Oj e;subst e;exact h.off hx)),Nat.le_trans h.wk hg.size⟩
theorem BoxS.own (h:BoxS B X o ty w0 wk rs c w) {r:RowS} (hr:r∈rs):w.ownsRow r.base r.e r.sz r.v r.n r.xs:=h.mem.own r hr
theorem BoxS.nil (h : BoxS B X o ty w0 wk rs c w) {e sz : Nat} (he : e ≠ ty) : BoxS B X o ty w0 wk (rs ++ [⟨B, e, .slice none 0 0, 0, [], sz⟩]) c w :=
 ⟨h.mem.add (zX _ none) (World.ownsRow_nil _ _ _ _) (fun j e => by simp [Value.ownBlock] at e), fun r hr => by
  rcases List.mem_append.1 hr with hr | hr
  ·exact h.typ r hr
  ·rw [List.mem_singleton] at hr; subst hr; exact ⟨rfl, he⟩, h.box, h.off, h.size, h.old, h.base, h.grown, h.kept, h.wk⟩
theorem BoxS.add (h : BoxS B X o ty w0 wk rs c w) {w' : World} (hg : w.grownBy w' none) {e sz n : Nat} {v : Value} {xs : List Value} (ho : w'.ownsRow w.heap.size e sz v n xs) (he : e ≠ ty) : BoxS B X o ty w0 wk (rs ++ [⟨B, e, v, n, xs, sz⟩]) c w' :=
 ⟨h.mem.add hg (yK ho (Nat.le_trans h.base h.wk)) (fun k hk => (ho.lt k hk).1), fun r hr => by
  rcases List.mem_append.1 hr with hr | hr
  ·exact h.typ r hr
  ·rw [List.mem_singleton] at hr; subst hr; exact ⟨rfl, he⟩, zE h.box hg (by simp), h.off, h.size, h.old, h.base, zF h.grown hg (by simp), h.kept.trans (h.mem.keep hg), Nat.le_trans h.wk hg.size⟩
theorem BoxS.push (h:BoxS B X o ty w0 wk rs c w):Many w (sS rs) w rs [] []∧B≤w.heap.size∧∀ (wM:World) (j:Nat) (r:RowS) (v':Value) (n':Nat) (us:List Value),rs[j]?=some r→Many w (sS rs) wM (rs.set j ⟨r.base,r.e,v',n',r.xs ++ us,r.sz⟩) [] []→BoxS B X o ty w0 wk (rs.set j ⟨r.base,r.e,v',n',r.xs ++ us,r.sz⟩) c wM:=by
 refine ⟨h.mem.many _ (fun _ h=>h),Nat.le_trans h.base h.wk,fun wM j r v' n' us hr hMM=>?_⟩
 have hf:∀ k,sS rs k→B≤k∧k≠o∧¬ X k:=fun k hk=>by
  obtain ⟨r,hr,hk⟩:=hk
  have hown:=h.mem.own r hr
  refine ⟨by have:=(hown.lt k hk).1;rw [(h.typ r hr).1] at this;exact this,fun e=>?_,h.mem.offX r hr k hk⟩
  subst e;exact zS hown h.box (h.typ r hr).2 hk
 refine ⟨h.mem.after hMM (fun k hk=>(hf k hk).2.2),fun s hs=>?_,hMM.but.heap h.box (fun hj=>(hf o hj).2.1 rfl),h.off,h.size,h.old,h.base,hMM.but.grown h.grown (fun k hk=>.inr (Nat.le_trans h.size (hf k hk).1)),h.kept.trans (h.mem.keepMany hMM (fun k hk=>(hf k hk).2.2)),Nat.le_trans h.wk hMM.but.size⟩
 rcases List.mem_or_eq_of_mem_set hs with hs|rfl
 ·exact h.typ s hs
 ·exact h.typ r (List.mem_of_getElem? hr)
theorem owns_set {w:World} {b e n g cap i:Nat} {xs:List Value} (h:w.ownsRow b e 1 (.slice (some ⟨g,0,none⟩) n cap) n xs) (hi:i < n) (u:Value):(w.setCell ⟨g,i,none⟩ u).ownsRow b e 1 (.slice (some ⟨g,0,none⟩) n cap) n (xs.set i u):=by
 refine ⟨by rw [List.length_set];exact h.1,?_⟩
 rcases h.2 with ⟨hv,_⟩|⟨g',cap',cur,hv,hb,hg,hnc,hcm,hcs,htake⟩
 ·simp at hv
 ·simp only [Value.slice.injEq,Option.some.injEq,Addr.mk.injEq] at hv
  obtain ⟨⟨rfl,_⟩,_,rfl⟩:=hv
  have hs:=heap_setCell_same w g i _ _ u hg
  refine .inr ⟨g,cap,_,rfl,hb,hs,hnc,hcm,by simpa using hcs,?_⟩
  rw [← htake]
  simp [List.take_set]
theorem BoxS.put (h:BoxS B X o ty w0 wk rs c w) {j g n cap b e i:Nat} {xs:List Value} (hr:rs[j]?=some ⟨b,e,.slice (some ⟨g,0,none⟩) n cap,n,xs,1⟩) (hi:i < n) (u:Value):BoxS B X o ty w0 wk (rs.set j ⟨b,e,.slice (some ⟨g,0,none⟩) n cap,n,xs.set i u,1⟩) c (w.setCell ⟨g,i,none⟩ u):=by
 have hmem:=List.mem_of_getElem? hr
 have ho:=h.mem.own _ hmem
 have ht:=h.typ _ hmem
 simp only at ho ht
 have hg:=zH w ⟨g,i,none⟩ u
 have hgo:g≠o:=fun e1=>by subst e1;exact zS ho h.box ht.2 rfl
 obtain ⟨hjl,hje⟩:=List.getElem?_eq_some_iff.1 hr
 have hap:=List.pairwise_iff_getElem.1 h.mem.apart
 refine ⟨⟨fun r hr'=>?_,?_,fun r hr' k hk=>?_,fun k hk=>Nat.lt_of_lt_of_le (h.mem.lt k hk) hg.size⟩,fun r hr'=>?_,zE h.box hg (fun e1=>hgo (Oj e1)),h.off,h.size,h.old,h.base,zF h.grown hg (fun k e1=>?_),h.kept.trans (KeepX.of_grown h.mem.lt hg (fun k e1 hx=>?_)),Nat.le_trans h.wk hg.size⟩
 ·obtain ⟨q,hq,rfl⟩:=List.getElem_of_mem hr'
  rw [List.getElem_set]
  have hq2:q < rs.length:=by simpa using hq
  split
  ·exact owns_set ho hi u
  ·rename_i hne
   refine (h.mem.own _ (List.getElem_mem hq2)).kept hg (.inr (fun e1=>?_))
   rcases Nat.lt_or_gt_of_ne hne with hlt|hlt
   ·exact hap j q hjl hq2 hlt g (by rw [hje];rfl) e1
   ·exact hap q j hq2 hjl hlt g e1 (by rw [hje];rfl)
 ·rw [List.pairwise_iff_getElem]
  intro p q hp hq hpq
  have hp2:p < rs.length:=by simpa using hp
  have hq2:q < rs.length:=by simpa using hq
  have:=hap p q hp2 hq2 hpq
  rw [List.getElem_set,List.getElem_set]
  split <;> split
  ·omega
  ·rename_i e1 e2;subst e1;rw [hje] at this;exact this
  ·rename_i e1 e2;subst e2;rw [hje] at this;exact this
  ·exact this
 ·rcases List.mem_or_eq_of_mem_set hr' with hr'|rfl
  ·exact h.mem.offX r hr' k hk
  ·exact h.mem.offX _ hmem k hk
 ·rcases List.mem_or_eq_of_mem_set hr' with hr'|rfl
  ·exact h.typ r hr'
  ·exact ht
 ·have e1:g=k:=Oj e1
  have:=(ho.lt g rfl).1
  have:=h.size
  omega
 ·have e1:g=k:=Oj e1
  subst e1
  exact h.mem.offX _ hmem g rfl hx
end
def tabI (ts:List (List Nat)):List (List Int):=ts.map fun r=>r.map fun (x:Nat)=>(x:Int)
theorem yW (ts:List (List Nat)):(tabI ts).length=ts.length:=by simp [tabI]
theorem nats_ints (l:List Nat):nats l=ints (l.map fun (x:Nat)=>(x:Int)):=by simp [nats,ints]
theorem mE (ts:List (List Nat)) (x:Nat):(tabI ts).getD x []=(ts.getD x []).map fun (y:Nat)=>(y:Int):=by
 rcases Nat.lt_or_ge x ts.length with h|h
 ·rw [zV (by rw [yW];exact h),zV h];simp [tabI]
 ·rw [List.getD_eq_getElem?_getD,List.getD_eq_getElem?_getD,List.getElem?_eq_none (by rw [yW];exact h),List.getElem?_eq_none h];rfl
theorem lJ (ts:List (List Nat)) (x y:Nat):ent (tabI ts) x y=((ts.getD x []).getD y 0:Nat):=by
 rw [ent,mE]
 obtain ⟨r,hr⟩:∃ r,r=ts.getD x []:=⟨_,rfl⟩
 rw [← hr]
 rcases Nat.lt_or_ge y r.length with h|h
 ·rw [zV (by simpa using h),zV h];simp
 ·rw [List.getD_eq_getElem?_getD,List.getD_eq_getElem?_getD,List.getElem?_eq_none (by simpa using h),List.getElem?_eq_none h];rfl
theorem tabI_entN (ts:List (List Nat)) (x y:Nat):entN (tabI ts) x y=(ts.getD x []).getD y 0:=by rw [entN,lJ];rfl
theorem TMat.mat {B:Nat} {w:World} {v:Value} {ts:List (List Nat)} (h:TMat B w v ts):Mat B w v (tabI ts):=by
 by_cases h0:0 < ts.length
 ·obtain ⟨b,off,cap,rfl,hc,hm,hb,hbw,hhd⟩:=h.head h0
  have hsh:∀ x,∃ a c,x < ts.length→w.cell? ⟨b,off+x,none⟩=some (.slice a (ts.getD x []).length c)∧RowT B 3 w (.slice a (ts.getD x []).length c) (nats (ts.getD x [])):=by
   intro x
   by_cases hx:x < ts.length
   ·obtain ⟨a,c,h1⟩:=hhd x hx
    exact ⟨a,c,fun _=>h1⟩
   ·exact ⟨none,0,fun h=>absurd h hx⟩
  obtain ⟨A,hA⟩:=Classical.axiomOfChoice hsh
  obtain ⟨C,hC⟩:=Classical.axiomOfChoice hA
  refine .inr ⟨b,off,cap,A,C,by rw [yW],by rw [yW];exact hc,hm,hb,hbw,fun x hx=>?_,fun x hx=>?_⟩
  ·rw [yW] at hx
   rw [mE,List.length_map];exact (hC x hx).1
  ·rw [yW] at hx
   have h1:=(hC x hx).2.row
   rw [mE,List.length_map]
   rw [nats_ints] at h1;exact h1
 ·have:ts=[]:=List.eq_nil_of_length_eq_zero (by omega)
  subst this
  obtain ⟨a,c,rfl⟩:=h.shape
  exact .inl ⟨a,c,rfl,rfl⟩
end Go.Proofs.YtdjhoadoiknaoaaDoor
