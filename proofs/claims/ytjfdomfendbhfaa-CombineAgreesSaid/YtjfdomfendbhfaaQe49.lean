/- Part 49 of the proof: DgP, DiaA, DiaO, CAgP, CDfa14, DiaR. -/
import Derived.Test.YtjfdomfendbhfaaQe48
import Derived.BigRegion
set_option linter.unusedVariables false
set_option linter.unusedSimpArgs false
namespace Go.Proofs.Ytjfdomfendbhfaa
open Go.RowKit Go.Maps
section
variable {B tb k np nc pc cc:Nat} {w0 w:World} {pa ca:Option Addr} {root:Int} {L:List (List (List Int))} {cs:List ChoV}
theorem mL {letters:Int} {p:List (List Int)} (h:wQ letters p):∀ u∈p,u.length<=2:=fun u hu=>by
 obtain⟨i,hi,rfl⟩:=List.getElem_of_mem hu
 exact(h.2.2 i hi).1
theorem aP:∀ {p:List (List Int)},(∀ u∈p,u.length<=2)->(p.map List.length).sum<=2 * p.length
 | [],_=>Nat.le_refl _
 | u :: p,h=>by
  rw[List.map_cons,List.sum_cons,List.length_cons]
  have:=h u (List.mem_cons_self ..)
  have:=aP (p:=p) (fun v hv=>h v (List.mem_cons_of_mem _ hv))
  omega
theorem good_total {letters:Int} {p:List (List Int)} (h:wQ letters p):uP (p.map strOfNums)<=8:=by
 rw[famB_total]
 have:=aP (mL h)
 have:=h.1
 omega
theorem DgD.step {w':World} {row:Option Nat} (h:DgD B tb w0 w k pa ca np nc pc cc root L cs) (hg:w.grownBy w' row) (hr:∀ j,row=some j->j=tb) (htb:tb < w0.heap.size) (hT:xB B w' tb):DgD B tb w0 w' k pa ca np nc pc cc root L cs:=by
 obtain⟨svs,h2,h3⟩:=h.pats
 obtain⟨base,hb,ho⟩:=h.own
 have h1:=wO h.tape
 have h0:w.grownBy w' (some tb):=by
  rcases row with _|j
  ·exact yY hg
  ·rw[hr j rfl]at hg;exact hg
 refine⟨⟨svs,(h2.kept h0 (fun j e=>.inr (h1 j e).1)).mono h0.size,(h3.kept h0 (fun j e=>.inr (h1 j e).2)).mono h0.size⟩,h.np_,h.nc_,⟨base,hb,ho.kept h0 ?_⟩,h.good,h.few,h.val,h.root_,hT,zD h.gr h0⟩
 rcases hv:(Value.slice ca nc cc).ownBlock with _|j
 ·exact .inl rfl
 ·exact .inr (fun e=>by have e:j=tb:=Oj e;have:=(ho.lt j hv).1;omega)
theorem DgD.dia (h:DgD B tb w0 w k pa ca np nc pc cc root L cs):qG w.heap.size w (.agg #[.slice pa np pc,.slice ca nc cc,.int .i64 root]) ⟨famB L,cs,root⟩:=by
 obtain⟨svs,h0,h1⟩:=h.pats
 obtain⟨base,_,ho⟩:=h.own
 refine⟨_,_,rfl,rQ h0 h1 (fun p hp u hu=>by have:=mL (h.good p hp) u hu;omega),?_⟩
 have e:=h.nc_
 subst e
 exact pC ho (Nat.le_refl _)
theorem DgD.small (h:DgD B tb w0 w k pa ca np nc pc cc root L cs):∀ p∈famB L,uP p<=8:=fun p hp=>by
 obtain⟨q,hq,rfl⟩:=List.mem_map.1 hp
 exact good_total (h.good q hq)
theorem DgD.dE (h:DgD B tb w0 w k pa ca np nc pc cc root L cs) (h1:1<=k) (h6:k<=6):diaE ⟨famB L,cs,root⟩ (k:Int)=0:=by
 have hl:=h.np_;have hf:=h.few;have hc:=h.nc_
 refine fX (by omega) (by omega) (by show (famB L).length<=300;rw[tZ];omega) (by show cs.length<=20000;omega) (fun p hp=>?_) (by show xD (famB L).length cs cs.length;rw[tZ,<- hl];exact h.val) h.root_.1 (by show root<=1+(cs.length:Int);rw[<- hc];exact h.root_.2)
 obtain⟨q,hq,rfl⟩:=List.mem_map.1 hp
 exact wI.2 (patValidate_ofL (h.good q hq) (by omega) (by omega))
theorem ChosO.put {w':World} {g off q f:Nat} {x:Int} (h:ChosO w g off cs) (hq:q < cs.length) (hf:f < 3) (hs:∀ i,¬ i=off+q * 3+f->w'.cell? ⟨g,i,none⟩=w.cell? ⟨g,i,none⟩) (hx:w'.cell? ⟨g,off+q * 3+f,none⟩=some (.int .i64 x)) (hz:g < w'.heap.size):∃ cs':List ChoV,cs'.length=cs.length/\ChosO w' g off cs':=by
 obtain⟨c,hc⟩:∃ c:ChoV,c=⟨if f=0 then x else (cs.getD q default).p,if f=1 then x else (cs.getD q default).y,if f=2 then x else (cs.getD q default).n⟩:=⟨_,rfl⟩
 have h1:∀ i,i < cs.length->(cs.set q c).getD i default=if i=q then c else cs.getD i default:=fun i hi=>by
  by_cases e:i=q
  ·subst e;rw[if_pos rfl,zF (by rw[List.length_set];exact hi),List.getElem_set_self]
  ·rw[if_neg e,zF (by rw[List.length_set];exact hi),List.getElem_set_ne (fun h=>e h.symm),zF hi]
 have h0:(cs.set q c).length=cs.length:=List.length_set
 refine⟨cs.set q c,h0,hz,fun i hi=>?_,fun i hi=>?_,fun i hi=>?_⟩
 all_goals rw[h0]at hi;rw[h1 i hi]
 ·by_cases e:i=q
  ·subst e;rw[if_pos rfl,hc]
   by_cases e0:f=0
   ·subst e0;rw[if_pos rfl];exact hx
   ·rw[if_neg e0,hs _ (by omega)];exact h.p i hi
  ·rw[if_neg e,hs _ (by omega)];exact h.p i hi
 ·by_cases e:i=q
  ·subst e;rw[if_pos rfl,hc]
   by_cases e0:f=1
   ·subst e0;rw[if_pos rfl];exact hx
   ·rw[if_neg e0,hs _ (by omega)];exact h.y i hi
  ·rw[if_neg e,hs _ (by omega)];exact h.y i hi
 ·by_cases e:i=q
  ·subst e;rw[if_pos rfl,hc]
   by_cases e0:f=2
   ·subst e0;rw[if_pos rfl];exact hx
   ·rw[if_neg e0,hs _ (by omega)];exact h.n i hi
  ·rw[if_neg e,hs _ (by omega)];exact h.n i hi
theorem DgD.put (h:DgD B tb w0 w k pa ca np nc pc cc root L cs) {q f:Nat} (hq:q < nc) (hf:f < 3):∃ kb:Nat,ca=some ⟨kb,0,none⟩/\nc<=cc/\cc<=maxLen/\kb < w.heap.size/\w0.heap.size<=kb/\(∃ y:Int,w.cell? ⟨kb,q * 3+f,none⟩=some (.int .i64 y))/\w.frozen? ⟨kb,q * 3+f,none⟩=false /\
  ∀ x:Int,∃ cs':List ChoV,qG (w.setCell ⟨kb,q * 3+f,none⟩ (.int .i64 x)).heap.size (w.setCell ⟨kb,q * 3+f,none⟩ (.int .i64 x)) (.agg #[.slice pa np pc,.slice ca nc cc,.int .i64 root]) ⟨famB L,cs',root⟩:=by
 obtain⟨svs,h5,h6⟩:=h.pats
 obtain⟨base,h8,ho⟩:=h.own
 have e:=h.nc_
 subst e
 have h7:=pC ho (Nat.le_refl _)
 rcases ho.2 with ⟨h',h0⟩|⟨g,cap,cur,h1,hb,hg,hnc,hcm,_⟩
 ·omega
 ·simp only[Value.slice.injEq]at h1
  obtain⟨rfl,-,rfl⟩:=h1
  rcases h7 with ⟨a,c,e1,e2⟩|⟨b2,off,cap2,e1,hb2,hc1,hc2,hco⟩
  ·rw[e2]at hq;simp at hq
  ·simp only[Value.slice.injEq,Option.some.injEq,Addr.mk.injEq]at e1
   obtain⟨⟨rfl,rfl,-⟩,-,rfl⟩:=e1
   have h2:∃ y:Int,w.cell? ⟨g,q * 3+f,none⟩=some (.int .i64 y):=by
    have a0:=hco.p q hq;have a1:=hco.y q hq;have a2:=hco.n q hq
    rw[Nat.zero_add]at a0 a1 a2
    obtain rfl|rfl|rfl:f=0\/f=1\/f=2:=by omega
    ·exact⟨_,a0⟩
    ·exact⟨_,a1⟩
    ·exact⟨_,a2⟩
   refine⟨g,rfl,hc1,hc2,zH hg,by omega,h2,frozen_of_row w g _ _ _ hg,fun x=>?_⟩
   have g1:=zC w ⟨g,q * 3+f,none⟩ (.int .i64 x)
   have h4:=heap_setCell_same w g (q * 3+f) _ _ (.int .i64 x) hg
   have hi:q * 3+f < cur.size:=by
    obtain⟨y,hy⟩:=h2
    rw[cell_of_row w g _ _ _ _ hg]at hy
    rcases Nat.lt_or_ge (q * 3+f) cur.size with h|h
    ·exact h
    ·rw[Array.getElem?_eq_none h]at hy;cases hy
   obtain⟨cs',hl,h3⟩:=hco.put (w':=w.setCell ⟨g,q * 3+f,none⟩ (.int .i64 x)) hq hf (fun i hi2=>by
    rw[cell_of_row _ g _ _ _ _ h4,cell_of_row w g _ _ _ _ hg,Array.getElem?_setIfInBounds_ne (by omega)]) (by
    rw[Nat.zero_add,cell_of_row _ g _ _ _ _ h4,Array.getElem?_setIfInBounds_self_of_lt hi]) (Nat.lt_of_lt_of_le (zH hg) g1.size)
   refine⟨cs',_,_,rfl,rQ ((h5.kept g1 (fun j e=>.inr (rR hg (by decide) j e))).mono g1.size) ((h6.kept g1 (fun j e=>.inr (rR hg (by decide) j e))).mono g1.size) (fun p hp u hu=>by have:=mL (h.good p hp) u hu;omega),?_⟩
   exact .inr ⟨g,0,cc,by rw[hl],Nat.lt_of_lt_of_le (zH hg) g1.size,by show cs'.length<=cc;omega,hc2,h3⟩
end
end Go.Proofs.Ytjfdomfendbhfaa
namespace Go.Proofs.Ytjfdomfendbhfaa
def finD (g:DiaV) (ds:List DfaV) (x:List Nat):Bool:=decG g.chos (fun p=>(mtsT ds ds.length x).getD p false) g.root
def diaA (g:DiaV) (k:Nat) (L:List (List Nat)):DfaV:=bfsA (nxtT (autD g.pats (k:Int))) k (finD g (autD g.pats (k:Int))) L
theorem diaA_acc {g:DiaV} {k:Nat} {L:List (List Nat)} (hL:BfsD (nxtT (autD g.pats (k:Int))) k (st0T (autD g.pats (k:Int))) L) {u:List Nat} (hu:zX k u):acc (diaA g k L) (st0 (diaA g k L)) u=finD g (autD g.pats (k:Int)) (sR (nxtT (autD g.pats (k:Int))) (st0T (autD g.pats (k:Int))) u):=hL.acc hu
theorem bJ {g:DiaV} {k:Nat} {L:List (List Nat)} (hL:BfsD (nxtT (autD g.pats (k:Int))) k (st0T (autD g.pats (k:Int))) L) (h1:1<=k) (h6:k<=6) (hl:L.length<=4000):VD (diaA g k L) L.length k:=hL.vd h1 h6 (by omega)
end Go.Proofs.Ytjfdomfendbhfaa
namespace Go.Proofs.Ytjfdomfendbhfaa
def diaM (g:DiaV) (k:Nat) (L:List (List Nat)):DfaV:=minD (diaA g k L) k
def cY (g:DiaV) (k:Nat) (L:List (List Nat)):Prop:=BfsD (nxtT (autD g.pats (k:Int))) k (st0T (autD g.pats (k:Int))) L/\L.length<=4000
def qAG (g : DiaV) (letters : Int) (E : Int) (m : DfaV) : Prop :=
 (diaE g letters ≠ 0 ∧ E = diaE g letters ∧ m = gL) ∨ (diaE g letters = 0 ∧ ∃ k : Nat, letters = k ∧ 1 ≤ k ∧ k ≤ 6 ∧ ((Over (autD g.pats (k : Int)) k ∧ E = 3 ∧ m = gL) ∨
  ∃ L, cY g k L ∧ ((512 < minN (diaA g k L) k ∧ E = 3 ∧ m = gL) ∨ (minN (diaA g k L) k ≤ 512 ∧ E = 0 ∧ m = diaM g k L))))
theorem diaE_zero4 {g:DiaV} {letters:Int} (h:diaE g letters=0):1<=letters/\letters<=6/\g.pats.length<=300/\wW letters g.pats=0:=by
 unfold diaE at h
 split at h
 ·cases h
 ·split at h
  ·cases h
  ·split at h
   ·omega
   ·omega
theorem diaA_acc' {g:DiaV} {k:Nat} {L:List (List Nat)} (hL:cY g k L) (hc:xD g.pats.length g.chos g.chos.length) (hr:g.root<=1+(g.chos.length:Int)) {u:List Nat} (hu:zX k u):acc (diaA g k L) (st0 (diaA g k L)) u=decG g.chos (fun i=>acc (yM (g.pats.getD i []) (k:Int)) (st0 (yM (g.pats.getD i []) (k:Int))) u) g.root:=by
 rw[diaA_acc hL.1 hu,finD]
 refine mQ hc (fun i hi=>?_) hr
 rw[lY (Nat.le_refl _) u (by rw[xG];exact hi)]
 have e:(autD g.pats (k:Int)).getD i dN=yM (g.pats.getD i []) (k:Int):=by
  rw[zF (by rw[xG];exact hi),zF hi];simp[autD]
 rw[e]
theorem qAG.ok {g:DiaV} {letters:Int} {m:DfaV} (h:qAG g letters 0 m):∃ k:Nat,letters=k/\1<=k/\k<=6/\∃ L,cY g k L/\minN (diaA g k L) k<=512/\m=diaM g k L/\diaE g letters=0:=by
 rcases h with ⟨a1,a2,a3⟩|⟨a1,k,hk,h1,h6,a⟩
 ·exact absurd a2.symm a1
 ·rcases a with ⟨_,a2,_⟩|⟨L,hL,a⟩
  ·cases a2
  ·rcases a with ⟨_,a2,_⟩|⟨a2,_,a3⟩
   ·cases a2
   ·exact⟨k,hk,h1,h6,L,hL,a2,a3,a1⟩
theorem bI {g:DiaV} {k:Nat} {L:List (List Nat)} (h1:1<=k) (h6:k<=6) (hL:cY g k L):VD (diaM g k L) (minN (diaA g k L) k) k:=pY (bJ hL.1 h1 h6 hL.2)
theorem diaM_acc {g:DiaV} {k:Nat} {L:List (List Nat)} (h1:1<=k) (h6:k<=6) (hL:cY g k L) {u:List Nat} (hu:zX k u):acc (diaM g k L) (st0 (diaM g k L)) u=acc (diaA g k L) (st0 (diaA g k L)) u:=kA (bJ hL.1 h1 h6 hL.2) hu
end Go.Proofs.Ytjfdomfendbhfaa
namespace Go.Proofs.Ytjfdomfendbhfaa
open Go.RowKit
theorem oW {g:DiaV} {k:Nat} {L:List (List Nat)} (h1:1<=k) (h6:k<=6) (hL:cY g k L) (hE:diaE g (k:Int)=0) {u:List Nat} (hu:zX k u):acc (diaM g k L) (st0 (diaM g k L)) u=decG g.chos (fun i=>acc (yM (g.pats.getD i []) (k:Int)) (st0 (yM (g.pats.getD i []) (k:Int))) u) g.root:=by
 obtain⟨_,_,_,_,_,hc,_,hr⟩:=qZ hE
 rw[diaM_acc h1 h6 hL hu,diaA_acc' hL hc hr hu]
theorem jJ {g:DiaV} {k:Nat} {L:List (List Nat)} {s:ByteArray} (h1:1<=k) (h6:k<=6) (hL:cY g k L) (hE:diaE g (k:Int)=0) (hs:zP s (k:Int)=true):diaH g s=acc (diaM g k L) (st0 (diaM g k L)) (zI s):=by
 obtain⟨a1,a2,a3,a4,a5,hc,h0,hr⟩:=qZ hE
 have h3:diaE g 6=0:=fX (by omega) (by omega) a3 a4 (fun p hp=>dH (a5 p hp) (by omega)) hc h0 hr
 rw[oW h1 h6 hL hE (wV hs).1,diaH,h3,uH hs (by omega) (Int.le_refl 6)]
 simp only[decide_true,Bool.true_and]
 refine mQ hc (fun i hi=>?_) hr
 have h2:patW (g.pats.getD i []) (k:Int)=0:=by rw[zF hi];exact a5 _ (List.getElem_mem hi)
 exact(iS (wI.1 h2) hs).symm
theorem of_again {w':World} {g:DiaV} {k:Nat} {L:List (List Nat)} {v:Value} {u1 u2:ByteArray} {E:Int} (h1:1<=k) (h6:k<=6) (hL:cY g k L) (hN:minN (diaA g k L) k<=512) (hE:diaE g (k:Int)=0) (h:OfOut w' (diaM g k L) g.pats v u1 u2 E) :
  E=3\/(E=0/\∃ c:DiaV,qG w'.heap.size w' v c/\∀ s,zP s (k:Int)=true->diaH c s=diaH g s):=by
 obtain⟨a1,a2,a3,a4,a5,hc,h4,hr⟩:=qZ hE
 have h0:=bI h1 h6 hL
 have hk:=h0.hk
 have h3:(diaM g k L).letters.toNat=k:=by rw[hk];rfl
 have h2:ofE (diaM g k L) g.pats=0:=by
  unfold ofE
  rw[if_pos (qH h0 hN),if_neg (by omega),hk]
  exact vA.2 a5
 cases h with
 | bad hb=>exact absurd h2 hb
 | over _ _=>exact .inl rfl
 | conf _ hu hcf u v hu1 hv1 _ _ h5 ha hb =>
  rw[h3]at hu1 hv1
  rw[hk]at h5
  rw[oW h1 h6 hL hE hu1]at ha
  rw[oW h1 h6 hL hE hv1]at hb
  have e:=mQ hc (m:=fun i=>acc (yM (g.pats.getD i []) (k:Int)) (st0 (yM (g.pats.getD i []) (k:Int))) u) (m':=fun i=>acc (yM (g.pats.getD i []) (k:Int)) (st0 (yM (g.pats.getD i []) (k:Int))) v) (fun i hi=>h5 i hi) hr
  rw[ha,hb]at e
  cases e
 | ok v c l L' ho hL' hl4 hn hg e1 e2 e3 e4 e5 hcl e6 =>
  refine .inr ⟨rfl,c,hg,fun s hs=>?_⟩
  rw[aE ho e1 e2 e3 e4 (by have:=hcl.len_le;omega) e5 (by rw[hk];exact hs),jJ h1 h6 hL hE hs]
theorem dia_lim {g:DiaV} {letters E:Int} {m:DfaV} (h:qAG g letters E m) (h0:diaE g letters=0) (hE:E≠0):E=3:=by
 rcases h with ⟨a1,_⟩|⟨_,k,_,_,_,⟨_,a2,_⟩|⟨L,_,⟨_,a2,_⟩|⟨_,a2,_⟩⟩⟩
 ·exact absurd h0 a1
 ·exact a2
 ·exact a2
 ·exact absurd a2 hE
end Go.Proofs.Ytjfdomfendbhfaa
namespace Go.Proofs.Ytjfdomfendbhfaa
open Go.RowKit Go.Maps
set_option maxRecDepth 100000 in
set_option maxHeartbeats 1600000 in
theorem cdfa_reg14 {Q':Exit->Act->World->Prop} {v0 v1 v3 v4 v5 v6 v7 v8 v10 v13 v14 v15 v16 v17 v18 v19 v20 v21 v22 v23 v24 v25 v26 v27 v28 v29 v30 v31 v32 v33 v34 v35 v36 v37 v38 v39 v40 v41 v42 v43 v44 v45 v46 v47 v48 v49 v50 v51 v52 v53 v54 v55 v56 v57 v58 v59 v60 v61 v62 v63 v64 v65 v66 v67 v68 v69 v70 v71 v72 v73 v74 v75 v76 v77 v78 v79 v80:Value} {dd:_} {w:World} {G X M S F i n p2 p3 c2 c3:Nat} {p1 c1:Option Addr} {root:Int} {kv nv:Value} {fs:List Bool} {b:Bool}
  (hbM:w.heap[M]?=some (.cells #[kv,nv,.slice (some ⟨F,0,none⟩) n n] 113 (0,0))) (hbS:w.heap[S]?=some (.cells #[.int .i64 (i:Int)] 3 (0,0))) (hbG:w.heap[G]?=some (.cells #[.slice p1 p2 p3,.slice c1 c2 c3,.int .i64 root] 25 (0,0))) (hF:Arr w F 4 (bls fs)) (hln:fs.length=n) (hi:i < n) (hn:n<=4000) (hne:F≠M)
  (hdec:∀ W:World,w.grownBy W none->Calls Try.prog 40 #[.agg #[.slice p1 p2 p3,.slice c1 c2 c3,.int .i64 root],.func (.func 68) #[] #[.pointer (some ⟨X,0,none⟩),.pointer (some ⟨S,0,none⟩)]] W fun e w'=>e=.returned (.bool b)/\W.grownBy w' none)
  (hexit:∀ (z62 z63 z64 z65 z66 z67 z68 z69 z70:Value) (w0 w':World),w.grownBy w0 none->w0.grownBy w' (some F)->w'.heap[M]?=some (.cells #[kv,nv,.slice (some ⟨F,0,none⟩) n n] 113 (0,0))->Arr w' F 4 (bls (fs.set i b))->Q' .normal ⟨(v0 :: v1 :: (Value.pointer (some ⟨G,0,none⟩)) :: v3 :: v4 :: v5 :: v6 :: v7 :: v8 :: (Value.pointer (some ⟨X,0,none⟩)) :: v10 :: (Value.pointer (some ⟨M,0,none⟩)) :: (Value.pointer (some ⟨S,0,none⟩)) :: v13 :: v14 :: v15 :: v16 :: v17 :: v18 :: v19 :: v20 :: v21 :: v22 :: v23 :: v24 :: v25 :: v26 :: v27 :: v28 :: v29 :: v30 :: v31 :: v32 :: v33 :: v34 :: v35 :: v36 :: v37 :: v38 :: v39 :: v40 :: v41 :: v42 :: v43 :: v44 :: v45 :: v46 :: v47 :: v48 :: v49 :: v50 :: v51 :: v52 :: v53 :: v54 :: v55 :: v56 :: v57 :: v58 :: v59 :: v60 :: v61 :: z62 :: z63 :: z64 :: z65 :: z66 :: z67 :: z68 :: z69 :: z70 :: v71 :: v72 :: v73 :: v74 :: v75 :: v76 :: v77 :: v78 :: v79 :: v80 :: []).toArray,dd⟩ w') :
  Code.wp Try.prog (reg Try.f28 14) Q' ⟨(v0 :: v1 :: (Value.pointer (some ⟨G,0,none⟩)) :: v3 :: v4 :: v5 :: v6 :: v7 :: v8 :: (Value.pointer (some ⟨X,0,none⟩)) :: v10 :: (Value.pointer (some ⟨M,0,none⟩)) :: (Value.pointer (some ⟨S,0,none⟩)) :: v13 :: v14 :: v15 :: v16 :: v17 :: v18 :: v19 :: v20 :: v21 :: v22 :: v23 :: v24 :: v25 :: v26 :: v27 :: v28 :: v29 :: v30 :: v31 :: v32 :: v33 :: v34 :: v35 :: v36 :: v37 :: v38 :: v39 :: v40 :: v41 :: v42 :: v43 :: v44 :: v45 :: v46 :: v47 :: v48 :: v49 :: v50 :: v51 :: v52 :: v53 :: v54 :: v55 :: v56 :: v57 :: v58 :: v59 :: v60 :: v61 :: v62 :: v63 :: v64 :: v65 :: v66 :: v67 :: v68 :: v69 :: v70 :: v71 :: v72 :: v73 :: v74 :: v75 :: v76 :: v77 :: v78 :: v79 :: v80 :: []).toArray,dd⟩ w:=by
 conv=>arg 2;whnf
 obtain⟨w7,H1⟩:∃ w7,w7=w.drew:=⟨_,rfl⟩
 have h6:w.grownBy w7 none:=by rw[H1];exact zL w none
 have H6:=Kh H1
 have h8:=Kh h6
 have h7:=Kh (zA hbM h6 (by simp));have h9:=Kh (zA hbS h6 (by simp));have H0:=Kh (zA hbG h6 (by simp));have HF:=Kh (hF.kept h6 (by simp))
 have H4:=Kh hdec;have HE:=Kh hexit;have H7:=Kh hne;have H5:=Kh hln
 have C:Hid (w7.cell? ⟨M,2,none⟩=some (.slice (some ⟨F,0,none⟩) n n)/\w7.cell? ⟨S,0,none⟩=some (.int .i64 (i:Int))/\w7.cell? ⟨G,0,none⟩=some (.slice p1 p2 p3)/\w7.cell? ⟨G,1,none⟩=some (.slice c1 c2 c3)/\w7.cell? ⟨G,2,none⟩=some (.int .i64 root)):=Kh ⟨(zJ h7.out).2.2,by simpa using zK h9.out 0 (by simp),zJ H0.out⟩
 clear H1 h6 hbM hbS hbG hF hdec hexit hne hln
 have a0:(i:Int) < n:=by omega
 refine wp_region_noPanic ?_
 refine wN (G:=uZ 9 (fun _=>True) (fun W=>W.cell? ⟨M,2,none⟩=some (.slice (some ⟨F,0,none⟩) n n)/\W.cell? ⟨S,0,none⟩=some (.int .i64 (i:Int))/\W.cell? ⟨G,0,none⟩=some (.slice p1 p2 p3)/\W.cell? ⟨G,1,none⟩=some (.slice c1 c2 c3)/\W.cell? ⟨G,2,none⟩=some (.int .i64 root))) (by kernel_rfl) ?_
 rw[<- H6.out]
 refine uB (i:=0) (v:=?_) rfl rfl (by kernel_rfl) (by kernel_rfl) (by kernel_rfl) (by kernel_rfl) (by kernel_rfl) (fun _ _ _ h=>h) (Or.inl ⟨by rfl,?_⟩) ⟨trivial,fun _=>C.out⟩ ?_
 rotate_left
 ·(rintro wz ⟨-,hz⟩;(try dsimp only at hz);obtain⟨h1,h2,h3,h4,h5⟩:=hz;go_simp;(try with_reducible rfl))
 try simp only[Act.put,sPd,sPe,sPf,sPa,sPb,sPc]
 refine uB (i:=1) (v:=?_) rfl rfl (by kernel_rfl) (by kernel_rfl) (by kernel_rfl) (by kernel_rfl) (by kernel_rfl) (fun _ _ _ h=>h) (Or.inl ⟨by rfl,?_⟩) ⟨trivial,fun _=>C.out⟩ ?_
 rotate_left
 ·(rintro wz ⟨-,hz⟩;(try dsimp only at hz);obtain⟨h1,h2,h3,h4,h5⟩:=hz;go_simp;(try with_reducible rfl))
 try simp only[Act.put,sPd,sPe,sPf,sPa,sPb,sPc]
 refine uB (i:=2) (v:=?_) rfl rfl (by kernel_rfl) (by kernel_rfl) (by kernel_rfl) (by kernel_rfl) (by kernel_rfl) (fun _ _ _ h=>h) (Or.inl ⟨by rfl,?_⟩) ⟨trivial,fun _=>C.out⟩ ?_
 rotate_left
 ·(rintro wz ⟨-,hz⟩;(try dsimp only at hz);obtain⟨h1,h2,h3,h4,h5⟩:=hz;go_simp;(try with_reducible rfl))
 try simp only[Act.put,sPd,sPe,sPf,sPa,sPb,sPc]
 refine uB (i:=3) (v:=?_) rfl rfl (by kernel_rfl) (by kernel_rfl) (by kernel_rfl) (by kernel_rfl) (by kernel_rfl) (fun _ _ _ h=>h) (Or.inl ⟨by rfl,?_⟩) ⟨trivial,fun _=>C.out⟩ ?_
 rotate_left
 ·(rintro wz ⟨-,hz⟩;(try dsimp only at hz);obtain⟨h1,h2,h3,h4,h5⟩:=hz;go_simp;(try with_reducible rfl))
 try simp only[Act.put,sPd,sPe,sPf,sPa,sPb,sPc]
 refine uB (i:=4) (v:=?_) rfl rfl (by kernel_rfl) (by kernel_rfl) (by kernel_rfl) (by kernel_rfl) (by kernel_rfl) (fun _ _ _ h=>h) (Or.inl ⟨by rfl,?_⟩) ⟨trivial,fun _=>C.out⟩ ?_
 rotate_left
 ·(rintro wz ⟨-,hz⟩;(try dsimp only at hz);obtain⟨h1,h2,h3,h4,h5⟩:=hz;go_simp;(try with_reducible rfl))
 try simp only[Act.put,sPd,sPe,sPf,sPa,sPb,sPc]
 refine uB (i:=5) (v:=?_) rfl rfl (by kernel_rfl) (by kernel_rfl) (by kernel_rfl) (by kernel_rfl) (by kernel_rfl) (fun _ _ _ h=>h) (Or.inl ⟨by rfl,?_⟩) ⟨trivial,fun _=>C.out⟩ ?_
 rotate_left
 ·(rintro wz ⟨-,hz⟩;(try dsimp only at hz);obtain⟨h1,h2,h3,h4,h5⟩:=hz;go_simp;(try with_reducible rfl))
 try simp only[Act.put,sPd,sPe,sPf,sPa,sPb,sPc]
 refine uB (i:=6) (v:=?_) rfl rfl (by kernel_rfl) (by kernel_rfl) (by kernel_rfl) (by kernel_rfl) (by kernel_rfl) (fun _ _ _ h=>h) (Or.inl ⟨by rfl,?_⟩) ⟨trivial,fun _=>C.out⟩ ?_
 rotate_left
 ·(rintro wz ⟨-,hz⟩;(try dsimp only at hz);obtain⟨h1,h2,h3,h4,h5⟩:=hz;go_simp;(try with_reducible rfl))
 try simp only[Act.put,sPd,sPe,sPf,sPa,sPb,sPc]
 refine oneG (i:=7) (by kernel_rfl) rfl (fun K hK=>?_)
 go_simp
 go_at_call 40
 refine(H4.out w7 h8.out).mono ?_
 rintro e w8 ⟨rfl,h0⟩
 have h8:=Kh (zB h8.out h0 (by simp))
 have h7:=Kh (zA h7.out h0 (by simp));have h9:=Kh (zA h9.out h0 (by simp));have H0:=Kh (zA H0.out h0 (by simp));have HF:=Kh (HF.out.kept h0 (by simp))
 have C:Hid (w8.cell? ⟨M,2,none⟩=some (.slice (some ⟨F,0,none⟩) n n)/\w8.cell? ⟨S,0,none⟩=some (.int .i64 (i:Int))/\w8.cell? ⟨G,0,none⟩=some (.slice p1 p2 p3)/\w8.cell? ⟨G,1,none⟩=some (.slice c1 c2 c3)/\w8.cell? ⟨G,2,none⟩=some (.int .i64 root)):=Kh ⟨(zJ h7.out).2.2,by simpa using zK h9.out 0 (by simp),zJ H0.out⟩
 refine hK.out _ _ ⟨trivial,fun _=>C.out⟩ ?_
 clear hK K h0
 try simp only[Act.put,sPd,sPe,sPf,sPa,sPb,sPc]
 refine uB (i:=8) (v:=?_) rfl rfl (by kernel_rfl) (by kernel_rfl) (by kernel_rfl) (by kernel_rfl) (by kernel_rfl) (fun _ _ _ h=>h) (Or.inl ⟨by rfl,?_⟩) ⟨trivial,fun _=>C.out⟩ ?_
 rotate_left
 ·(rintro wz ⟨-,hz⟩;(try dsimp only at hz);obtain⟨h1,h2,h3,h4,h5⟩:=hz;go_simp;(try with_reducible rfl))
 try simp only[Act.put,sPd,sPe,sPf,sPa,sPb,sPc]
 obtain⟨cur,rest,H3,H2⟩:=id HF.out
 have cF:=HF.out.bool i (by rw[H5.out];exact hi)
 have fF:=zE H3 i
 have H9:=zH H3
 clear H3 H2
 have H8:=Kh (HF.out.bool_set i (by rw[H5.out];exact hi) b)
 refine oneG (i:=9) (by kernel_rfl) rfl (fun K hK=>?_)
 go_simp
 refine hK.out _ _ ⟨trivial,fun h=>by cases h⟩ ?_
 clear hK K
 try simp only[Act.put,sPd,sPe,sPf,sPa,sPb,sPc]
 refine jI (by kernel_rfl) ?_ _
 exact HE.out _ _ _ _ _ _ _ _ _ w8 _ h8.out (zC w8 ⟨F,i,none⟩ (.bool b)) (zA h7.out (zC w8 ⟨F,i,none⟩ (.bool b)) (fun e=>H7.out (Oj e))) H8.out
end Go.Proofs.Ytjfdomfendbhfaa
namespace Go.Proofs.Ytjfdomfendbhfaa
open Go.RowKit
def RDiaRet (w:World) (g:DiaV) (letters:Int) (e:Ending) (w':World):Prop:=∃ E m,bM w E m e w'/\qAG g letters E m
theorem dfaT_agg {w:World} {f nx:Value} {d:DfaV} {ml ms:Int} (h:DfaT w f nx d) (h1:ml=d.letters) (h2:ms=d.start):tE w.heap.size w (.agg #[.int .i64 ml,.int .i64 ms,f,nx]) d:=by rw[h1,h2];exact h.ok
end Go.Proofs.Ytjfdomfendbhfaa
