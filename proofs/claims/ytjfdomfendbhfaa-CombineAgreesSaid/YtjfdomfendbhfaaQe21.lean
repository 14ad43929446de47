/- Part 21 of the proof: BB, BRow, BPre. -/
import Derived.Test.YtjfdomfendbhfaaQe12
import Derived.Test.YtjfdomfendbhfaaQe20
import Derived.Laws.IdiomCopy
import Derived.Deep.RegionLaw
import Derived.BigRegion
set_option linter.unusedVariables false
set_option linter.unusedSimpArgs false
namespace Go.Proofs.Ytjfdomfendbhfaa
open Go.RowKit
def rowv (k g:Nat):Value:=.slice (some ⟨g,0,none⟩) k k
structure BB (W0 W:World) (bb k:Nat) (t:List (List Nat)) (gs:List Nat) (sn:Option Addr) (cn:Nat):Prop where
 box:W.heap[bb]?=some (.cells #[.int .i64 (k:Int),.slice sn t.length cn] 162 (0,0))
 own:W.ownsRow bb 34 1 (.slice sn t.length cn) t.length (gs.map (rowv k))
 len:gs.length=t.length
 row:∀ i,i < t.length->Arr W (gs.getD i 0) 3 (nats (t.getD i []))/\(t.getD i []).length=k
 nd:gs.Nodup
 lo:W0.heap.size<=bb
 glo:∀ g∈gs,W0.heap.size<=g
 grown:W0.grownBy W none
section
variable {W0 W W':World} {bb k:Nat} {t:List (List Nat)} {gs:List Nat} {sn:Option Addr} {cn:Nat}
theorem BB.start {bb k:Nat} (hb:W.heap[bb]?=some (.cells #[.int .i64 (k:Int),.slice none 0 0] 162 (0,0))) (h0:W0.heap.size<=bb) (hg:W0.grownBy W none):BB W0 W bb k [] [] none 0 :=
 ⟨hb,World.ownsRow_nil _ _ _ _,rfl,fun i hi=>by simp at hi,by simp,h0,by simp,hg⟩
theorem BB.cells (h:BB W0 W bb k t gs sn cn):W.cell? ⟨bb,0,none⟩=some (.int .i64 (k:Int))/\W.cell? ⟨bb,1,none⟩=some (.slice sn t.length cn)/\W.frozen? ⟨bb,1,none⟩=false:=by
 have c0:=zK h.box 0 (by simp)
 have c1:=zK h.box 1 (by simp)
 exact⟨by simpa using c0,by simpa using c1,zE h.box 1⟩
theorem BB.grow (h:BB W0 W bb k t gs sn cn) (hg:W.grownBy W' none):BB W0 W' bb k t gs sn cn where
 box:=zA h.box hg (by simp)
 own:=zQ h.own hg
 len:=h.len
 row:=fun i hi=>⟨(h.row i hi).1.kept hg (by simp),(h.row i hi).2⟩
 nd:=h.nd
 lo:=h.lo
 glo:=h.glo
 grown:=zB h.grown hg (by simp)
theorem BB.hd (h:BB W0 W bb k t gs sn cn) (h0:0 < t.length):∃ q cap,sn=some ⟨q,0,none⟩/\cn=cap/\t.length<=cap/\cap<=maxLen/\∀ i,i < t.length->W.cell? ⟨q,i,none⟩=some (rowv k (gs.getD i 0)):=by
 rcases id h.own.2 with ⟨e,_⟩|⟨q,cap,cur,e,_,_,hnc,hcm,_⟩
 ·simp only[Value.slice.injEq]at e;omega
 ·simp only[Value.slice.injEq]at e
  obtain⟨rfl,_,rfl⟩:=e
  refine⟨q,cn,rfl,rfl,hnc,hcm,fun i hi=>?_⟩
  have h1:i < gs.length:=by rw[h.len];exact hi
  rw[h.own.cellAt i (by omega),List.getElem?_map,List.getElem?_eq_getElem h1,zF h1];rfl
theorem BB.set (h:BB W0 W bb k t gs sn cn) {i:Nat} (hi:i < t.length) {r:List Nat} (hr:r.length=k) (hg:W.grownBy W' (some (gs.getD i 0))) (ha:Arr W' (gs.getD i 0) 3 (nats r)):BB W0 W' bb k (t.set i r) gs sn cn:=by
 obtain⟨cur,rest,hc,_⟩:=(h.row i hi).1
 have h1:gs.getD i 0≠bb:=fun e=>by
  rw[e,h.box]at hc
  simp only[Option.some.injEq,Obj.cells.injEq]at hc
  exact absurd hc.2.1 (by decide)
 have h0:i < gs.length:=by rw[h.len];exact hi
 refine⟨?_,?_,by rw[List.length_set];exact h.len,fun j hj=>?_,h.nd,h.lo,h.glo,zB h.grown hg (fun q e=>by have:=Oj e;subst this;exact h.glo _ (cI h0))⟩
 ·rw[List.length_set];exact zA h.box hg (fun e=>h1 (Oj e))
 ·rw[List.length_set];exact h.own.kept hg (.inr (zS h.own hc (by decide)))
 ·rw[List.length_set]at hj
  by_cases e:i=j
  ·subst e
   rw[set_getD_same hi]
   exact⟨ha,hr⟩
  ·rw[set_getD_ne e]
   exact⟨(h.row j hj).1.kept hg (fun e2=>e (nodupN_getD h.nd h0 (by rw[h.len];exact hj) (Oj e2))),(h.row j hj).2⟩
theorem BB.put (h:BB W0 W bb k t gs sn cn) {i j:Nat} (hi:i < t.length) (hj:j < k) (c:Nat):BB W0 (W.setCell ⟨gs.getD i 0,j,none⟩ (.int .i64 (c:Int))) bb k (t.set i ((t.getD i []).set j c)) gs sn cn:=by
 have hr:=h.row i hi
 exact h.set hi (by rw[List.length_set];exact hr.2) (zC W ⟨gs.getD i 0,j,none⟩ _) (hr.1.nat_set j (by rw[hr.2];exact hj) c)
theorem BB.off (h:BB W0 W bb k t gs sn cn) {g:Nat} {c:Array Value} {m:Nat × Nat} (hg:W.grownBy W' (some g)) (hc:W.heap[g]?=some (.cells c 3 m)) (hn:g ∉ gs) (h0:W0.heap.size<=g):BB W0 W' bb k t gs sn cn where
 box:=zA h.box hg (fun e=>by
  have:=Oj e
  subst this
  rw[h.box]at hc
  simp only[Option.some.injEq,Obj.cells.injEq]at hc
  exact absurd hc.2.1 (by decide))
 own:=h.own.kept hg (.inr (zS h.own hc (by decide)))
 len:=h.len
 row:=fun i hi=>⟨(h.row i hi).1.kept hg (fun e=>hn (by rw[Oj e];exact cI (by rw[h.len];exact hi))),(h.row i hi).2⟩
 nd:=h.nd
 lo:=h.lo
 glo:=h.glo
 grown:=zB h.grown hg (fun q e=>by have:=Oj e;omega)
theorem BB.lt (h:BB W0 W bb k t gs sn cn):∀ g∈gs,g < W.heap.size:=fun g hg=>by
 obtain⟨i,hi,rfl⟩:=List.getElem_of_mem hg
 have:=(h.row i (by rw[<- h.len];exact hi)).1.lt
 rwa [zF hi]at this
theorem BB.push (h:BB W0 W bb k t gs sn cn) {g:Nat} {r:List Nat} {sn':Option Addr} {cn':Nat} (hr:r.length=k) (ha:Arr W g 3 (nats r)) (hgn:∀ x∈gs,x≠g) (hg0:W0.heap.size<=g) (ho:W'.ownsRow bb 34 1 (.slice sn' (t.length+1) cn') (t.length+1) (gs.map (rowv k) ++ [rowv k g])) (hg:W.grownBy W' (Value.slice sn t.length cn).ownBlock) {W2:World} (hW2:W2=W'.setCell ⟨bb,1,none⟩ (.slice sn' (t.length+1) cn')) :
  BB W0 W2 bb k (t ++ [r]) (gs ++ [g]) sn' cn':=by
 have hb:=zA h.box hg (zS h.own h.box (by decide))
 have h1:=heap_setCell_same W' bb 1 _ _ (.slice sn' (t.length+1) cn') hb
 have g2:=zC W' ⟨bb,1,none⟩ (.slice sn' (t.length+1) cn')
 rw[<- hW2]at h1 g2
 have h0:∀ {q:Nat} {xs:List Value},Arr W q 3 xs->Arr W2 q 3 xs:=fun {q xs} hq=>by
  obtain⟨cu,rs,hc,_⟩:=id hq
  exact(hq.kept hg (zS h.own hc (by decide))).kept g2 (fun e=>by
   have e:bb=q:=Oj e
   subst e
   rw[h.box]at hc
   simp only[Option.some.injEq,Obj.cells.injEq]at hc
   exact absurd hc.2.1 (by decide))
 have e1:(t ++ [r]).length=t.length+1:=by simp
 refine⟨?_,?_,by simp[h.len],fun i hi=>?_,?_,h.lo,?_,zB (zB h.grown hg (fun j e=>Nat.le_trans h.lo (h.own.lt j e).1)) g2 (fun j e=>by have e:bb=j:=Oj e;have:=h.lo;omega)⟩
 ·rw[h1,e1];simp
 ·rw[e1,List.map_append];exact ho.kept g2 (.inr (zS ho hb (by decide)))
 ·rw[e1]at hi
  by_cases hi':i < t.length
  ·rw[yC (by rw[h.len];exact hi'),yC hi']
   exact⟨h0 (h.row i hi').1,(h.row i hi').2⟩
  ·have:i=t.length+0:=by omega
   rw[this,xM]
   rw[show (gs ++ [g]).getD (t.length+0) 0=g by rw[<- h.len,xM];rfl]
   exact⟨h0 ha,hr⟩
 ·rw[List.nodup_append]
  exact⟨h.nd,by simp,fun x hx y hy e=>by simp at hy;subst hy;exact hgn x hx e⟩
 ·intro x hx
  rcases List.mem_append.1 hx with hx|hx
  ·exact h.glo x hx
  ·simp at hx;subst hx;exact hg0
end
section
variable {W0 W W':World} {bb k:Nat} {t:List (List Nat)} {gs:List Nat} {sn:Option Addr} {cn:Nat} {r:List Nat} {g:Nat}
theorem BB.lastlen (h:BB W0 W bb k (t ++ [r]) (gs ++ [g]) sn cn):gs.length=t.length:=by have:=h.len;simp at this;exact this
theorem BB.last (h:BB W0 W bb k (t ++ [r]) (gs ++ [g]) sn cn):Arr W g 3 (nats r)/\r.length=k:=by
 have:=h.row t.length (by simp)
 rwa [qK rfl,qK h.lastlen.symm]at this
theorem BB.putLast (h:BB W0 W bb k (t ++ [r]) (gs ++ [g]) sn cn) {j:Nat} (hj:j < k) (c:Nat):BB W0 (W.setCell ⟨g,j,none⟩ (.int .i64 (c:Int))) bb k (t ++ [r.set j c]) (gs ++ [g]) sn cn:=by
 have:=h.put (i:=t.length) (by simp) hj c
 rwa [qK rfl,qK h.lastlen.symm,bW rfl]at this
end
def RowAdded (W0:World) (bb k:Nat) (t:List (List Nat)) (gs:List Nat) (u0:Nat) (e:Ending) (W':World):Prop :=
 ∃ g sn cn,e=.returned (.slice (some ⟨g,0,none⟩) k k)/\BB W0 W' bb k (t ++ [List.replicate k u0]) (gs ++ [g]) sn cn
set_option maxRecDepth 100000 in
set_option maxHeartbeats 800000 in
theorem qB (W0 W:World) (bb k:Nat) (t:List (List Nat)) (gs:List Nat) (sn:Option Addr) (cn u0:Nat) (h:BB W0 W bb k t gs sn cn) (hk1:1<=k) (hk6:k<=6) (ht:t.length<=1000) :
  Calls Try.prog 106 #[.pointer (some ⟨bb,0,none⟩),.int .i64 (u0:Int)] W (RowAdded W0 bb k t gs u0):=by
 obtain⟨c0,c1,f1⟩:=h.cells
 have H:=Kh h
 clear h
 go_enter Try.func106,Try.ntmps106
 go_wp2_with (first|(at_make;refine kZ rfl _ _ _ rfl xQ rfl .i64 .i64 _ _ k rfl rfl rfl rfl ?b1 ?b2 ?_;(case b1=>omega);(case b2=>(unfold maxLen;omega));intro w2 h0 H6 h4)|fail)
 obtain⟨g,hg⟩:∃ g,g=W.heap.size:=⟨_,rfl⟩
 rw[<- hg]at h0 h4 ⊢
 have H9:=Kh (H.out.grow H6)
 have H4:g ∉ gs:=fun hm=>by have:=H.out.lt g hm;omega
 have H7:W0.heap.size<=g:=by have:=H.out.grown.size;omega
 have H3:Hid (Arr w2 g 3 (nats (List.replicate 0 u0 ++ List.replicate (k - 0) 0))):=Kh (by
  rw[show List.replicate 0 u0 ++ List.replicate (k - 0) 0=List.replicate k 0 by simp,yR];exact h0)
 have H8:=Kh H4
 clear h0 H6 hg H4 c0 c1 f1 h4
 go_loopg [6,14] k (fun gh a6 i wr=>∃ x:Nat,gh+x=k/\i=.int .i64 x/\Arr wr g 3 (nats (List.replicate x u0 ++ List.replicate (k - x) 0))/\w2.grownBy wr (some g))
 case atStart=>exact⟨0,rfl,rfl,H3.out,zN _ _⟩
 case round =>
  obtain⟨x,H5,rfl,h0,h9⟩:=hrel
  have h6:=Kh H5;have HA:=Kh h0;have a7:=Kh h9
  clear H5
  have h7:(List.replicate x u0 ++ List.replicate (k - x) 0).length=k:=by
   have:=h6.out;simp;omega
  by_cases hx:x < k
  ·have b0:(x:Int) < k:=by omega
   have cx:=h0.nat x (by omega)
   have fx:=h0.frozen x
   have h3:(List.replicate x u0 ++ List.replicate (k - x) 0).set x u0=List.replicate (x+1) u0 ++ List.replicate (k - (x+1)) 0:=by
    rw[List.set_append_right _ _ (by simp),List.length_replicate,Nat.sub_self,show k - x=(k - (x+1))+1 by omega,List.replicate_succ,List.set_cons_zero,List.replicate_succ',List.append_assoc]
    rfl
   have H2:=Kh h3
   have a4:=Kh h7
   clear h0 h9 h3 h7
   go_wp2
   go_roundg (k - (x+1))
   case measure=>have:=h6.out;omega
   case rel=>exact⟨x+1,by have:=h6.out;omega,by go_num,by rw[<- H2.out];exact HA.out.nat_set x (by rw[a4.out];exact hx) u0,zD a7.out (zC wr ⟨g,x,none⟩ _)⟩
  ·have a0:x=k:=by have:=h6.out;omega
   subst a0
   have hr:List.replicate x u0 ++ List.replicate (x - x) 0=List.replicate x u0:=by simp
   rw[hr]at HA
   obtain⟨cur,rest,h5,_⟩:=H3.out
   have h2:=Kh (H9.out.off h9 h5 H8.out H7)
   obtain⟨c0,c1,f1⟩:=h2.out.cells
   clear h5 h7 hr h0 H3 H9
   have b5:=zH h2.out.box
   go_wp2_with (first|(at_builtin;refine qBW rfl _ _ _ rfl kD bb (.slice sn t.length cn) t.length (gs.map (rowv x)) rfl h2.out.own (rowv x g) rfl rfl ?a1 ?a2 ?a3 ?_;(case a1=>(unfold maxLen;omega));(case a2=>omega);(case a3=>omega);intro sn6 cn6 w6 h1 H0 a9 h8;(have a5:=Kh h1);(have a8:=Kh H0);(have H1:=zA h2.out.box H0 (zS h2.out.own h2.out.box (by decide)));(have b4:w6.cell? ⟨bb,1,none⟩=some (.slice sn t.length cn):=by simpa using zK H1 1 (by simp));(have b3:=zE H1 1);clear h1 H0 h8 H1)|fail)
   go_ret
   exact⟨g,sn6,cn6,rfl,h2.out.push (by simp) HA.out (fun y hy e=>H8.out (e ▸ hy)) H7 a5.out a8.out rfl⟩
def preN (k:Nat) (b:List Nat) (j:Nat):List Nat:=(List.range k).map fun a=>if b.getD j 0=a then 2+j else 0
def sE (k:Nat) (b:List Nat) (m:Nat):List (List Nat):=(List.range m).map (preN k b)
theorem set_replicate {k a c:Nat}:(List.replicate k 0).set a c=(List.range k).map fun i=>if a=i then c else 0:=by
 refine List.ext_getElem (by simp) fun i h1 h2=>?_
 rw[List.getElem_set];simp
theorem preNs_succ (k:Nat) (b:List Nat) (m:Nat):sE k b (m+1)=sE k b m ++ [preN k b m]:=by
 simp[sE,List.range_succ]
def qAF (W0:World) (bb k:Nat) (t:List (List Nat)) (e:Ending) (W':World):Prop:=∃ gs sn cn,e=.returned (.tuple #[])/\BB W0 W' bb k t gs sn cn
set_option maxRecDepth 100000 in
set_option maxHeartbeats 800000 in
theorem bprefix_any (W0 W:World) (bb k:Nat) (t:List (List Nat)) (gs:List Nat) (sn:Option Addr) (cn:Nat) (u:ByteArray) (h:BB W0 W bb k t gs sn cn) (ht:t.length=1) (hk1:1<=k) (hk6:k<=6) (hu:zP u (k:Int)=true) (hl:u.size<=64) :
  Calls Try.prog 107 #[.pointer (some ⟨bb,0,none⟩),.string u] W (qAF W0 bb k (t ++ sE k (zI u) u.size)):=by
 have H:=Kh h
 have HU:=Kh (wV hu)
 have H5:t.length<=1:=by omega
 have HT:=Kh ht
 clear h hu ht
 go_enter Try.func107,Try.ntmps107
 go_wp2_with fail
 go_loopg [4,5,8] u.size (fun gh a4 a5 i wr=>∃ (j:Nat) (gs:List Nat) (sn:Option Addr) (cn:Nat),gh+j=u.size/\i=.int .i64 j/\BB W0 wr bb k (t ++ sE k (zI u) j) gs sn cn)
 case atStart=>exact⟨0,gs,sn,cn,rfl,rfl,by simpa [sE] using H.out⟩
 case round =>
  clear H
  obtain⟨j,gs,sn,cn,h7,rfl,h2⟩:=hrel
  have h6:=Kh h7;have H8:=Kh h2
  clear h7
  by_cases hj:j < u.size
  ·have H6:(j:Int) < u.size:=by omega
   have h4:(t ++ sE k (zI u) j).length=j+1:=by have:=HT.out;simp[sE];omega
   have H7:=Kh h4
   go_wp2_with fail
   refine(qB W0 wr bb k _ gs sn cn 0 h2 hk1 hk6 (by omega)).mono ?_
   rintro e w1 ⟨g,sn1,cn1,rfl,h3⟩
   obtain⟨c0,c1,f1⟩:=h3.cells
   have hr:=h3.last
   rw[List.length_append,h4]at c1
   have hb:=HU.out.2.1 j hj
   obtain⟨by0,h1⟩:∃ b,b=u[j].toNat:=⟨_,rfl⟩
   have h5:by0 < 256:=by rw[h1];exact u[j].toNat_lt
   rw[<- h1]at hb
   obtain⟨a,ha⟩:∃ a,a=by0 - 97:=⟨_,rfl⟩
   have h9:=qAJ hb.1 h5
   rw[<- ha]at h9
   have h8:((by0:Int) - 97) % 256=(a:Int):=by omega
   have H3:a < k:=by omega
   have H2:(a:Int) < k:=by omega
   have ca:=hr.1.nat a (by simp;omega)
   have fa:=hr.1.frozen a
   have h0:(zI u).getD j 0=a:=by rw[rY hj,<- h1,ha]
   have HL:=Kh h0;have H4:=Kh h3;have HR:=Kh hr; 
   have H1:(u[j].toNat:Int)=(by0:Int):=by rw[h1]
   clear hb h1 ha hr h2 h3 h0 h4
   go_wp2_with fail
   go_region
   all_goals (try go_frame)
   all_goals go_wp2
   all_goals
    go_roundg (u.size - (j+1))
    case measure=>have:=h6.out;omega
    case rel =>
     have hp:=(H4.out.putLast H3 (2+j)).grow (zL _ none)
     have e:((2+j:Nat):Int)=(j:Int)+1+1:=by omega
     rw[e,set_replicate,<- HL.out,List.append_assoc]at hp
     rw[<- HL.out]
     exact⟨j+1,gs ++ [g],sn1,cn1,by have:=h6.out;omega,by go_num,by rw[preNs_succ];exact hp⟩
  ·have H0:j=u.size:=by have:=h6.out;omega
   subst H0
   go_wp2
   exact bodyPost_ret (v:=.tuple #[]) (by simp[results,Try.results107,go_sem]) rfl ⟨gs,sn,cn,rfl,h2⟩
end Go.Proofs.Ytjfdomfendbhfaa
