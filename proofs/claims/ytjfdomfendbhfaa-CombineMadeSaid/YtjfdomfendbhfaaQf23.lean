/- Part 23 of the proof. -/
import Derived.Test.YtjfdomfendbhfaaQf21
set_option linter.unusedVariables false
set_option linter.unusedSimpArgs false
set_option maxRecDepth 100000
set_option maxHeartbeats 16000000
namespace Go.Proofs.Ytjfdomfendbhfaa
open Go.RowKit Go.Maps
structure PrV (w:World)(v pv:Value)(L T:List (List Nat))(sb sc:Nat)(nv:Value):Prop where
 val:v=.agg #[pv,.slice (some ⟨sb,0,none⟩) L.length sc,nv]
 cap:L.length<=sc/\sc<=maxLen
 row:∀ i,i<L.length->L.getD i []≠[]->LRow w sb i (L.getD i [])
theorem PrV.grow {w w':World}{v pv nv:Value}{L T:List (List Nat)}{sb sc:Nat}(h:PrV w v pv L T sb sc nv)(hg:w.grownBy w' none):PrV w' v pv L T sb sc nv:=⟨h.val,h.cap,fun i hi hn=>(h.row i hi hn).grow hg⟩
theorem qIF.view {B:Nat}{w:World}{v pv:Value}{L T:List (List Nat)}(h:qIF B w v pv L T)(h0:0<L.length):∃ sb sc nv,PrV w v pv L T sb sc nv:=by
 obtain⟨sS,sN,cS,cN,hs,hn,rfl,ho,_,hr,_⟩:=h;obtain⟨sb,rfl,h1,h2,ha⟩:=wQ ho h0;refine⟨sb,cS,_,rfl,⟨h1,h2⟩,fun i hi hne=>?_⟩;have h4:i<hs.length:=by have:=hr.1;omega
 have h7:=hr.2 i h4 hi;have h6:L.getD i []=L[i]:=zG hi;rw[h6];have h3:0<(nats L[i]).length:=by rw[zT,<- h6];exact List.length_pos_iff.2 hne
 obtain⟨g,off,cap,e,H0,h5,h9,h8⟩:=h7.row.some_ h3;rw[zT]at e h5;exact⟨g,off,cap,by rw[ha.cell i h4,e],h5,h9,fun j hj=>h8.nat j hj⟩
theorem rfinals_any (Bd:Nat)(w:World)(k0:Nat)(v pv nv:Value)(ds:List DfaV)(L T:List (List Nat))(sb sc i:Nat)(hB:Bd<=w.heap.size)(h:PrV w v pv L T sb sc nv)(hd:DsIn Bd w pv ds)(hok:OkT ds k0)(hi:i<L.length)(hin:InT ds (L.getD i []))(hl:ds.length<=400)(hl0:0<ds.length)(hL:L.length<=4000):
  Calls Try.prog 53 #[v,.int .i64 (i:Int)] w fun e w'=>∃ sa sc,e=.returned (.slice sa ds.length sc)/\w'.ownsRow w.heap.size 4 1 (.slice sa ds.length sc) ds.length (bls (mtsT ds ds.length (L.getD i [])))/\w.grownBy w' none:=by
 obtain⟨rfl,h4,h1⟩:=h;obtain⟨b,off,cap,rfl,d6,c0,b9⟩:=hd.head hl0;obtain⟨g,ro,rc,H8,b5,b4,H7⟩:=h1 i hi (fun e=>by have:=hin.1;rw[e]at this;simp at this;omega);rw[hin.1]at H8 b5 H7;obtain⟨np,a1⟩:∃ n,n=ds.length:=⟨_,rfl⟩;obtain⟨m,hm⟩:∃ m,m=L.length:=⟨_,rfl⟩;have H2:=Kh a1;have f0:=Kh b9;have e6:=Kh hok;have e7:=Kh hin;have c9:=Kh H7;have a7:=Kh H8;rw[<- a1]at d6 hl hl0 a7 b5 ⊢;rw[<- hm]at h4 hi hL ⊢;have k1:cap<=9223372036854775807:=by unfold maxLen at c0;omega
 have k2:sc<=9223372036854775807:=by have:=h4.2;unfold maxLen at this;omega
 have k3:rc<=9223372036854775807:=by unfold maxLen at b4;omega
 obtain⟨wA,a5⟩:∃ wA,wA=w.alloc (.cells #[.slice (some ⟨b,off,none⟩) np cap,.slice (some ⟨sb,0,none⟩) m sc,nv] 88):=⟨_,rfl⟩;have a3:=Ga w (.cells #[.slice (some ⟨b,off,none⟩) np cap,.slice (some ⟨sb,0,none⟩) m sc,nv] 88) none;have h8:=heap_alloc_new w (.cells #[.slice (some ⟨b,off,none⟩) np cap,.slice (some ⟨sb,0,none⟩) m sc,nv] 88);obtain⟨P,hP⟩:∃ P,P=w.heap.size:=⟨_,rfl⟩;rw[<- a5]at a3 h8;rw[<- hP]at h8;obtain⟨p0,p1,p2⟩:=zH h8;have d8:=Kh a5;have e3:=Kh hP;have b0:=Kh a3;have d2:=Kh h8;clear a1 hm b9 hok hin H7 H8 a5 a3 h8 hP h1 h4 c0 b4 hd;go_enter Try.func53,Try.ntmps53;go_upto_region 1 with fail;rw[<- d8.out,<- e3.out];go_wp2;clear p0 p1 p2
 go_loopg [5,6,11] np (fun gh v5 v6 v11 wr=>∃ (k:Nat) (sa:Option Addr) (sd:Nat),gh+k=np/\v11=.int .i64 k/\v5=.slice sa k sd/\wr.ownsRow wA.heap.size 4 1 (.slice sa k sd) k (bls (mtsT ds k (L.getD i [])))/\wA.grownBy wr none)
 case atStart=>exact⟨0,none,0,rfl,rfl,rfl,World.ownsRow_nil _ _ _ _,zM _ _⟩
 case round =>
  obtain⟨k,sa,sd,b7,rfl,rfl,h0,hg⟩:=hrel;have a9:=Kh b7;have HO:=Kh h0;have HG:=Kh hg;have H3:=Kh (zB b0.out hg (by simp));clear b7 h0;by_cases hk:k<np
  ·have d5:(k:Int)<np:=by omega
   obtain⟨n,gb,go,gc,nb2,no2,nc2,RB,RO,RC,hv,h5,c1,c2,c3,c4,H1⟩:=(f0.out.kept H3.out (by simp)).dfa e6.out (by rw[<- H2.out];exact hk);have hq:=e7.out.2 k (by rw[<- H2.out];exact hk);rw[hv.hn]at hq;have r5:=xG (c9.out k (by rw[<- H2.out];exact hk)) H3.out;have r1:=xG a7.out H3.out;obtain⟨q,H9⟩:∃ q,q=(L.getD i []).getD k 0:=⟨_,rfl⟩;rw[<- H9]at hq r5;have c5:=H1.fin (q:=q) hq;have b8:=H1.fcap
   have c8:Hid (bls (mtsT ds (k+1) (L.getD i []))=bls (mtsT ds k (L.getD i []))++[.bool ((ds.getD k dN).final.getD q false)]):=Kh (by
    rw[mtsT,List.range_succ,List.map_append,List.map_singleton,accT,<- H9];simp[bls,mtsT])
   obtain⟨bo,c6⟩:∃ x,x=(ds.getD k dN).final.getD q false:=⟨_,rfl⟩;rw[<- c6]at c5 c8;obtain⟨x0,b2⟩:∃ x:Int,x=((st0 (ds.getD k dN):Nat):Int):=⟨_,rfl⟩;rw[<- b2]at c2;have k4:gc<=9223372036854775807:=by have:=b8.2;unfold maxLen at this;omega
   have f5:(q:Int)<n:=(by omega);have f6:(i:Int)<m:=(by omega);have H0:=heap_alloc_new wr (.cells #[.int .i64 (k0:Int),.int .i64 x0,.slice (some ⟨gb,go,none⟩) n gc,.slice (some ⟨nb2,no2,none⟩) n nc2] 42);have h3:=Ga wr (.cells #[.int .i64 (k0:Int),.int .i64 x0,.slice (some ⟨gb,go,none⟩) n gc,.slice (some ⟨nb2,no2,none⟩) n nc2] 42) none;obtain⟨wR,H5⟩:∃ wR,wR=wr.alloc (.cells #[.int .i64 (k0:Int),.int .i64 x0,.slice (some ⟨gb,go,none⟩) n gc,.slice (some ⟨nb2,no2,none⟩) n nc2] 42):=⟨_,rfl⟩;obtain⟨R,hR⟩:∃ R,R=wr.heap.size:=⟨_,rfl⟩;rw[<- H5]at H0 h3;rw[<- hR]at H0;have d7:=Kh H5;have e0:=Kh hR;have f2:=Kh H0;have d0:=Kh (zB HG.out h3 (by simp));have e4:=Kh (zQ HO.out h3);have f3:=Kh (zA d2.out d0.out (by simp));have e9:Hid (gb<w.heap.size):=Kh (Nat.lt_of_lt_of_le H1.flt hB);have f1:=Kh (xG c5 h3);have e1:=Kh (xG r5 h3);have a6:=Kh (xG r1 h3);clear hv H1 H9 c6 b2 b8 H5 hR H0 h3 r5 r1 c5 hg;go_upto_region 5 with fail;rw[<- d7.out,<- e0.out];clear c1 c2 c3 c4;obtain⟨w5,H6⟩:∃ w5,w5=wR.drew:=⟨_,rfl⟩;have h2:wR.grownBy w5 none:=(by rw[H6];exact zP wR none);have d9:=Kh H6;have d1:=Kh (zB d0.out h2 (by simp));have a8:=Kh (zQ e4.out h2)
   have b1:Hid (∀ (W:World) (row:Option Nat),w5.grownBy W row->(∀ j,row=some j->(Value.slice sa k sd).ownBlock=some j)->W.cell? ⟨R,2,none⟩=some (.slice (some ⟨gb,go,none⟩) n gc)/\W.cell? ⟨P,1,none⟩=some (.slice (some ⟨sb,0,none⟩) m sc)/\W.cell? ⟨sb,i,none⟩=some (.slice (some ⟨g,ro,none⟩) np rc)/\W.cell? ⟨g,ro+k,none⟩=some (.int .i64 (q:Int))/\W.cell? ⟨gb,go+q,none⟩=some (.bool bo)):=Kh (fun W row hW h1=>by
    have b6:∀ (p:Addr) (u:Value),w5.cell? p=some u->(∀ j,(Value.slice sa k sd).ownBlock=some j->p.block≠j)->W.cell? p=some u:=fun p u hp hj=>by
     refine(World.cell?_of_block (hW.block p.block (World.block_lt_of_cell? w5 p hp) (fun e=>?_))).trans hp;exact hj p.block (h1 _ e.symm) rfl
    have hold:∀ (p:Addr) (u:Value),w5.cell? p=some u->p.block<wA.heap.size->W.cell? p=some u:=fun p u hp hlt=>b6 p u hp (fun j hj e=>by have:=(a8.out.lt j hj).1;omega);have hz:w.heap.size<=wA.heap.size:=b0.out.size;have h7:=zA f2.out h2 (by simp);have a4:=zA f3.out h2 (by simp);have e2:=zJ h7 2 (by simp);simp only[List.getElem_toArray,List.getElem_cons_zero,List.getElem_cons_succ]at e2;refine⟨b6 _ _ e2 (fun j hj e=>?_),hold _ _ (zH a4).2.1 ?_,?_,?_,?_⟩
    ·exact zS a8.out h7 (by decide) (by rw[hj];exact congrArg some e.symm)
    ·exact zI d2.out
    ·exact hold _ _ (xG a6.out h2) (Nat.lt_of_lt_of_le (World.block_lt_of_cell? w _ a7.out) hz)
    ·exact hold _ _ (xG e1.out h2) (Nat.lt_of_lt_of_le (World.block_lt_of_cell? w _ (c9.out k (by rw[<- H2.out];exact hk))) hz)
    ·exact hold _ _ (xG f1.out h2) (Nat.lt_of_lt_of_le e9.out hz))
   have C5:=Kh (b1.out w5 none (zM _ _) (by simp));have f4:=d1.out.size;clear h2 H6;refine wp_region_noPanic ?_;refine xZ (G:=tG 100 (fun W=>W.cell? ⟨R,2,none⟩=some (.slice (some ⟨gb,go,none⟩) n gc)/\W.cell? ⟨P,1,none⟩=some (.slice (some ⟨sb,0,none⟩) m sc)/\W.cell? ⟨sb,i,none⟩=some (.slice (some ⟨g,ro,none⟩) np rc)/\W.cell? ⟨g,ro+k,none⟩=some (.int .i64 (q:Int))/\W.cell? ⟨gb,go+q,none⟩=some (.bool bo)) (fun _=>True)) (by kernel_rfl) ?_;rw[<- d9.out];refine yK 0 ⟨C5.out,fun _=>trivial⟩ ?_;refine yK 1 ⟨C5.out,fun _=>trivial⟩ ?_;refine yK 2 ⟨C5.out,fun _=>trivial⟩ ?_;refine yK 3 ⟨C5.out,fun _=>trivial⟩ ?_;refine yK 4 ⟨C5.out,fun _=>trivial⟩ ?_;refine yK 5 ⟨C5.out,fun _=>trivial⟩ ?_;refine yK 6 ⟨C5.out,fun _=>trivial⟩ ?_;refine yK 7 ⟨C5.out,fun _=>trivial⟩ ?_;refine yK 8 ⟨C5.out,fun _=>trivial⟩ ?_;refine yK 9 ⟨C5.out,fun _=>trivial⟩ ?_;refine yK 10 ⟨C5.out,fun _=>trivial⟩ ?_;refine yK 11 ⟨C5.out,fun _=>trivial⟩ ?_;refine yK 12 ⟨C5.out,fun _=>trivial⟩ ?_;refine oneG (i:=13) (by kernel_rfl) rfl (fun K hK=>?_);go_simp;have h9:=heap_alloc_new w5 (.cells #[Value.bool bo] 4);have h6:=Ga w5 (.cells #[Value.bool bo] 4) none;have H4:=zO w5 (.cells #[Value.bool bo] 4);obtain⟨R6,c7⟩:∃ R,R=w5.heap.size:=⟨_,rfl⟩;obtain⟨w6,b3⟩:∃ w6,w6=w5.alloc (.cells #[Value.bool bo] 4):=⟨_,rfl⟩;rw[<- b3]at h9 h6 H4 ⊢;rw[<- c7]at h9 ⊢;refine hK.out _ _ ⟨b1.out w6 none h6 (by simp),fun _=>trivial⟩ ?_;clear hK K
   try simp only[Act.put,sPa,sPb,sPc]
   have a0:=zQ a8.out h6;refine oneG (i:=14) (by kernel_rfl) rfl (fun K hK=>?_);refine tQ rfl (.tmp 16) (.tmp 29) 39 rfl wU.toN wA.heap.size (.slice sa k sd) k _ rfl a0 [.bool bo] R6 rfl (0,0) rfl h9 ?z1 ?z2 ?z3 ?z4 ?_
   case z1=>intro v hv;simp only[List.mem_cons,List.not_mem_nil,or_false]at hv;subst hv;rfl
   case z2=>unfold maxLen;omega
   case z3=>show (k+1) * 1<=140737488355328;omega
   case z4=>rw[H4];omega
   intro sN cN wM h0 a2 d3;have e5:Hid (wM.ownsRow wA.heap.size 4 1 (.slice sN (k+1) cN) (k+1) (bls (mtsT ds (k+1) (L.getD i [])))):=Kh (by rw[c8.out];exact h0);have e8:=Kh (zB (zB d1.out h6 (by simp)) a2 (fun j e=>(a0.lt j e).1));have CM:=b1.out wM _ (xF h6 a2 (.inl rfl) (.inr (.inl rfl))) (fun j e=>e);refine hK.out _ _ ⟨CM,fun _=>trivial⟩ ?_;clear hK K h0 a2 d3 a0 h9 h6 H4 b3 c7 C5
   try simp only[Act.put,sPa,sPb,sPc]
   refine oneG (i:=15) (by kernel_rfl) rfl (fun K hK=>?_);go_simp;refine hK.out _ _ ⟨CM,fun _=>trivial⟩ ?_;clear hK K
   try simp only[Act.put,sPa,sPb,sPc]
   refine nE (by kernel_rfl) ?_ _;refine NoPanic.normal ?_;go_wp2;go_roundg (np - (k+1))
   case measure=>have:=a9.out;omega
   case rel=>exact⟨k+1,sN,cN,by have:=a9.out;omega,by go_num,rfl,e5.out,e8.out⟩
  ·have d4:k=np:=by have:=a9.out;omega
   have d5:¬ (k:Int)<np:=(by omega);subst d4;go_wp2;go_ret;refine⟨sa,sd,rfl,?_,H3.out⟩;exact xN HO.out b0.out.size
end Go.Proofs.Ytjfdomfendbhfaa
namespace Go.Proofs.Ytjfdomfendbhfaa
open Go.RowKit
theorem kV (B : Nat)(w : World)(v : Value)(bs : List ByteArray)(letters : Int)(h : Row B w v (txtV bs))(hs : ∀ i (hi : i < bs.length), bs[i].size ≤ maxLen):
    Calls Try.prog 33 #[.agg #[v], .int .i64 letters] w fun e w' => e = .returned (.int .i64 (patW bs letters)) ∧ w.grownBy w' none := by
  have hlm := h.len_le
  rw [yB] at hlm
  have hlm' : bs.length ≤ 9223372036854775807 := by unfold maxLen at hlm; omega
  have H := Kh h; have HS := Kh hs
  obtain ⟨a, cap, rfl⟩ := h.shape
  rw [yB] at H ⊢
  clear h hs hlm
  by_cases h1 : letters < 1 ∨ 6 < letters
  · have e1 : decide (1 ≤ letters ∧ letters ≤ 6) = false := by rw [decide_eq_false_iff_not]; omega
    have H1 := Kh h1
    clear h1
    go_enter Try.func33, Try.ntmps33
    go_wp2_with fail
    refine (xU _ letters).mono ?_
    rintro e w' ⟨rfl, rfl⟩
    rw [e1]
    go_wp2
    go_ret
    exact ⟨yC (by rw [patW, if_pos H1.out]), Ga _ _ _⟩
  have e1 : decide (1 ≤ letters ∧ letters ≤ 6) = true := by rw [decide_eq_true_eq]; omega
  go_enter Try.func33, Try.ntmps33
  go_wp2_with fail
  refine (xU _ letters).mono ?_
  rintro e w' ⟨rfl, rfl⟩
  rw [e1]
  go_wp2
  go_loopg [5, 7, 16] bs.length (fun gh t a7 i wr => w.alloc (.cells #[.slice a bs.length cap] 28) = wr ∧ ∃ k : Nat, gh + k = bs.length ∧ i = .int .i64 k ∧ t = .int .i64 (totW (bs.take k)))
  case atStart => exact ⟨rfl, 0, rfl, rfl, rfl⟩
  case round =>
    obtain ⟨hw, k, hgh, rfl, rfl⟩ := hrel
    have HGH := Kh hgh
    clear hgh
    by_cases hlt : k < bs.length
    · have hlt' : (k : Int) < bs.length := by omega
      obtain ⟨kb, off, kc, e, _, hk1, hk2, hkr⟩ := (H.out.kept (Ga w (.cells #[.slice a bs.length cap] 28) none) (by simp)).some_ (by rw [yB]; omega)
      rw [hw] at hkr
      rw [yB] at e hk1
      simp only [Value.slice.injEq] at e
      obtain ⟨rfl, _, rfl⟩ := e
      have hc := vD hkr k hlt
      have HS2 := Kh (fH bs k hlt)
      obtain ⟨u, hu⟩ : ∃ u, u = bs.getD k ⟨#[]⟩ := ⟨_, rfl⟩
      have hus : u.size ≤ 9223372036854775807 := by
        rw [hu, zG hlt]; have := HS.out k hlt; unfold maxLen at this; omega
      rw [← hu] at hc HS2
      have HW := Kh hw
      clear hkr hu hw
      go_wp2
      go_roundg (bs.length - (k + 1))
      case measure => have := HGH.out; omega
      case rel => exact ⟨HW.out, k + 1, by have := HGH.out; omega, by go_num, by rw [HS2.out]⟩
    · have hkn : k = bs.length := by have := HGH.out; omega
      have HT : Hid (totW (bs.take k) = totW bs) := Kh (by rw [hkn, List.take_length])
      rw [HT.out]
      have hkn' : ¬ (k : Int) < bs.length := by omega
      have HG : Hid (w.grownBy wr none) := Kh (by rw [← hw]; exact Ga _ _ _)
      have hb := heap_alloc_new w (.cells #[.slice a bs.length cap] 28)
      rw [hw] at hb
      have c0 : wr.cell? ⟨w.heap.size, 0, none⟩ = some (.slice a bs.length cap) := by simpa using zJ hb 0 (by simp)
      have HR : Hid (Row B wr (.slice a bs.length cap) (txtV bs)) := Kh (H.out.kept HG.out (by simp))
      clear hkn hw hb HGH
      obtain ⟨tw, htw⟩ : ∃ tw, tw = totW bs := ⟨_, rfl⟩
      rw [← htw]
      have HTW := Kh htw
      clear htw
      by_cases h3 : 8 < bs.length
      · have h3' : (8 : Int) < bs.length := by omega
        go_wp2
        go_ret
        exact ⟨yC (by rw [patW, if_neg (by omega), if_pos h3]), HG.out⟩
      have h3' : ¬ (8 : Int) < bs.length := by omega
      by_cases h4 : 64 < tw
      · go_wp2
        go_ret
        exact ⟨yC (by rw [patW, if_neg (by omega), if_neg (by omega), if_pos (by rw [← HTW.out]; exact h4)]), HG.out⟩
      by_cases h5 : bs.length = 0
      · have h5' : ((bs.length : Int) == 0) = true := by simp [h5]
        have H5 := Kh h5; clear h5
        go_wp2
        go_ret
        exact ⟨yC (by rw [patW, if_neg (by omega), if_neg (by omega), if_neg (by rw [← HTW.out]; omega), if_pos H5.out]), HG.out⟩
      have h5' : ((bs.length : Int) == 0) = false := by rw [beq_eq_false_iff_ne]; omega
      go_wp2
      go_loopg [8, 9, 40] bs.length (fun gh a8 a9 i wq => wr = wq ∧ ∃ k : Nat, gh + k = bs.length ∧ i = .int .i64 k ∧ vH bs.length letters k (bs.drop k) = vH bs.length letters 0 bs)
      case atStart => exact ⟨rfl, 0, rfl, rfl, rfl⟩
      case round =>
        obtain ⟨rfl, j, hgh, rfl, hok⟩ := hrel
        have HGH := Kh hgh; have HOK := Kh hok
        clear hgh hok
        by_cases hj : j < bs.length
        · have hj' : (j : Int) < bs.length := by omega
          obtain ⟨kb, off, kc, e, _, hk1, hk2, hkr⟩ := HR.out.some_ (by rw [yB]; omega)
          rw [yB] at e hk1
          simp only [Value.slice.injEq] at e
          obtain ⟨rfl, _, rfl⟩ := e
          have hc := vD hkr j hj
          obtain ⟨u, hu⟩ : ∃ u, u = bs.getD j ⟨#[]⟩ := ⟨_, rfl⟩
          have hus : u.size ≤ maxLen := by rw [hu, zG hj]; exact HS.out j hj
          rw [← hu] at hc
          have HU : Hid (u = bs[j]) := Kh (by rw [hu, zG hj])
          clear hkr hu
          go_wp2_with (go_at_call 43; refine (lO u letters _ hus).mono ?_; rintro e w' ⟨rfl, rfl⟩)
          all_goals first
            | (go_ret
               exact ⟨yC (by rw [fZ (by omega) (by omega) (by rw [← HTW.out]; omega) (by omega), bN hj (by rw [← HU.out]; first | exact eI (by assumption) (by assumption) (List.isEmpty_iff.2 (by assumption)) | exact eJ (by assumption)) HOK.out]; rfl), HG.out⟩)
            | (go_roundg (bs.length - (j + 1))
               case rel => exact ⟨rfl, j + 1, by have := HGH.out; omega, by go_num, eE hj (eH (by rw [← HU.out]; assumption) (by rw [← HU.out]; first | (left; omega) | (right; exact Bool.eq_false_iff.2 (fun e => absurd (List.isEmpty_iff.1 e) (by assumption))))) HOK.out⟩
               case measure => have := HGH.out; omega)
        · have hj' : ¬ (j : Int) < bs.length := by omega
          have e : vH bs.length letters j (bs.drop j) = true := by rw [List.drop_eq_nil_of_le (by omega)]; rfl
          have HE := Kh e
          clear e
          go_wp2
          go_ret
          exact ⟨yC (by rw [fZ (by omega) (by omega) (by rw [← HTW.out]; omega) (by omega), ← HOK.out, HE.out]; rfl), HG.out⟩
theorem nK (B:Nat)(w:World)(v:Value)(g:DiaV)(letters:Int)(hB:B<=w.heap.size)(h:qM B w v g):
  Calls Try.prog 10 #[v,.int .i64 letters] w fun e w'=>e=.returned (.int .i64 (diaE g letters))/\w.grownBy w' none:=by
 obtain⟨pv,cv,rfl,hp,hc⟩:=h;obtain⟨pa,pc,rfl⟩:=hp.shape;obtain⟨ca,cc,rfl⟩:=hc.shape;have b5:=hp.len_le;have d5:=hc.len_le;unfold maxLen at b5 d5;obtain⟨ps,cs,root⟩:=g;simp only at hp hc b5 d5 ⊢;obtain⟨np,c9⟩:∃ n,n=ps.length:=⟨_,rfl⟩;obtain⟨nc,d0⟩:∃ n,n=cs.length:=⟨_,rfl⟩;rw[<- c9]at hp b5 ⊢;rw[<- d0]at hc d5 ⊢;have H0:=Ga w (.cells #[.slice pa np pc,.slice ca nc cc,.int .i64 root] 25) none;have b2:=heap_alloc_new w (.cells #[.slice pa np pc,.slice ca nc cc,.int .i64 root] 25);obtain⟨wA,d7⟩:∃ w1,w1=w.alloc (.cells #[.slice pa np pc,.slice ca nc cc,.int .i64 root] 25):=⟨_,rfl⟩;obtain⟨P,hP⟩:∃ P,P=w.heap.size:=⟨_,rfl⟩;rw[<- d7]at H0 b2;rw[<- hP]at b2;have f2:=hp.kept H0 (by simp);have f4:=hc.kept H0 (by simp);obtain⟨p0,p1,p2⟩:=zH b2;have f7:=H0.size;have H4:=Kh c9;have h9:=Kh d0;have i4:=Kh f2;have i6:=Kh f4;have c5:=Kh b2;have g7:=Kh d7;have i5:=Kh hP;have h8:=Kh H0;have j5:Hid (B<=wA.heap.size):=Kh (by omega);clear hp hc f2 f4 H0 b2 d7 hP c9 d0 f7;go_enter Try.func10,Try.ntmps10;go_upto_region 1 with fail;rw[<- g7.out,<- i5.out];by_cases h1:letters<1\/6<letters
 ·have e1:decide (1<=letters/\letters<=6)=false:=by rw[decide_eq_false_iff_not];omega
  have H1:=Kh h1;clear h1;go_wp2_with fail;refine(xU _ letters).mono ?_;rintro e w' ⟨rfl,rfl⟩;rw[e1];go_wp2;go_ret;exact⟨yC (qAK H1.out).symm,h8.out⟩
 have e1:decide (1<=letters/\letters<=6)=true:=by rw[decide_eq_true_eq];omega
 have H1:Hid (¬ (letters<1\/6<letters)):=Kh h1;clear h1;go_upto_region 1 with fail;go_wp2_with fail;refine(xU _ letters).mono ?_;rintro e w' ⟨rfl,rfl⟩;rw[e1];by_cases h3:300<np
 ·have g6:(300:Int)<np:=by omega
  go_wp2;go_ret;exact⟨yC (gW H1.out (.inl (by rw[<- H4.out];exact h3))).symm,h8.out⟩
 have g6:¬ (300:Int)<np:=by omega
 by_cases h4:20000<nc
 ·have g5:(20000:Int)<nc:=by omega
  go_wp2;go_ret;exact⟨yC (gW H1.out (.inr (by rw[<- h9.out];exact h4))).symm,h8.out⟩
 have g5:¬ (20000:Int)<nc:=by omega
 have H3:Hid (¬ (300<ps.length\/20000<cs.length)):=Kh (by rw[<- H4.out,<- h9.out];omega);go_wp2
 go_loopg [6,7,28] np (fun gh s6 s7 i wr=>∃ k:Nat,gh+k=np/\i=.int .i64 k/\vM letters (ps.drop k)=vM letters ps/\wA.grownBy wr none)
 case atStart=>exact⟨0,rfl,rfl,rfl,zM _ _⟩
 case round =>
  obtain⟨k,a9,rfl,f1,hg⟩:=hrel;have H9:=Kh a9;have HG:=Kh hg;have H8:=Kh f1;clear a9 f1;by_cases hk:k<np
  ·have g0:(k:Int)<np:=by omega
   have f0:=i4.out.kept hg (by simp);obtain⟨b,off,cap,e,g4,H2,d6,h7⟩:=f0.at_ (by rw[<- H4.out];omega);rw[<- H4.out]at e H2 h7;simp only[Value.slice.injEq,true_and]at e;obtain⟨rfl,rfl⟩:=e;obtain⟨sa,sc,c1,H7,c8⟩:=h7 k hk;obtain⟨q,hq⟩:∃ q,q=ps.getD k []:=⟨_,rfl⟩;rw[<- hq]at c1 H7 c8;have f8:pc<=9223372036854775807:=by unfold maxLen at d6;omega
   have HV:Hid (∀ W:World,wr.grownBy W none->Calls Try.prog 33 #[.agg #[.slice sa q.length sc],.int .i64 letters] W fun e w'=>e=.returned (.int .i64 (patW q letters))/\wA.grownBy w' none):=Kh (fun W hW=>(kV B W _ q letters (H7.kept hW (by simp)) c8).mono fun e w' ⟨he,hg'⟩=>⟨he,zB HG.out (zD hW hg') (by simp)⟩);have HQ:=Kh hq;obtain⟨E,hE⟩:∃ E,E=patW q letters:=⟨_,rfl⟩;rw[<- hE]at HV;have HE:=Kh hE;obtain⟨ql,e9⟩:∃ n,n=q.length:=⟨_,rfl⟩;rw[<- e9]at c1 HV;clear f0 h7 H7 c8 hq hg hE e9;go_wp2_with fail;refine(HV.out _ (Ga wr _ none)).mono ?_;rintro e w1 ⟨rfl,H0⟩;have f5:=Kh H0;clear H0 HV;by_cases hE:E=0
   ·have e1:(E != 0)=false:=by simp[hE]
    have e4:=Kh hE;clear hE;go_wp2;go_roundg (np - (k+1))
    case measure=>have:=H9.out;omega
    case rel=>exact⟨k+1,by have:=H9.out;omega,by go_num,(mO (by rw[<- H4.out];exact hk) (by rw[<- HQ.out,<- HE.out];exact e4.out)).trans H8.out,f5.out⟩
   ·have e1:(E != 0)=true:=by rw[bne_iff_ne];exact hE
    have e4:=Kh hE;clear hE;go_wp2;go_ret;exact⟨yC (by rw[qFJ (g:=⟨ps,cs,root⟩) H1.out H3.out (k:=k) (by rw[<- H4.out];exact hk) H8.out (by rw[<- HQ.out,<- HE.out];exact e4.out)];show E=patW (ps.getD k []) letters;rw[<- HQ.out,<- HE.out]),zB h8.out (f5.out) (by simp)⟩
  ·have f9:k=np:=by have:=H9.out;omega
   have i3:Hid (vM letters ps=0):=Kh (by rw[<- H8.out];exact jA (by rw[<- H4.out];exact hk));have H6:Hid (diaE ⟨ps,cs,root⟩ letters=dH ps.length cs root):=Kh (qFK H1.out H3.out i3.out);have a7:¬ (k:Int)<np:=(by omega);obtain⟨p0,p1,p2⟩:=zH (zA c5.out hg (by simp));clear f9 hg H9 b5;go_wp2;clear p0 p1 p2
   go_loopg [8,9,11,42,64] nc (fun gh s8 s9 s11 i s64 wr=>∃ k:Nat,gh+k=nc/\i=.int .i64 k/\wE ps.length cs k/\wA.grownBy wr none)
   case atStart=>exact⟨0,rfl,rfl,dF _ _,HG.out⟩
   case round =>
    clear HG a7 hk;obtain⟨k,a9,rfl,f3,hg⟩:=hrel;have H9:=Kh a9;have HG:=Kh hg;have f6:=Kh f3;clear a9 f3;by_cases hk:k<nc
    ·have g0:(k:Int)<nc:=by omega
     have d4:=i6.out.kept hg (by simp);have j4:=Kh d4;obtain⟨b,off,cap,e,g4,H2,d6,b1⟩:=d4.at_ (by rw[<- h9.out];omega);rw[<- h9.out]at e H2;simp only[Value.slice.injEq,true_and]at e;obtain⟨rfl,rfl⟩:=e;have f8:cc<=9223372036854775807:=by unfold maxLen at d6;omega
     have b6:k<cs.length:=(by rw[<- h9.out];exact hk);have c1:=b1.p k b6;have c2:=b1.y k b6;have c3:=b1.n k b6;have e6:=Kh (b1);obtain⟨c,b8⟩:∃ c,c=cs.getD k default:=⟨_,rfl⟩;rw[<- b8]at c1 c2 c3;have HC:=Kh b8
     have a6:Hid (choB ps.length cs k=(decide (0<=c.p/\c.p<np) && (refB cs k c.p c.y && refB cs k c.p c.n))):=Kh (by
      rw[b8,H4.out];rfl)
     clear d4 b1 b6 b8;obtain⟨x,y,n⟩:=c;simp only at c1 c2 c3 a6;have H2:=heap_alloc_new wr (.cells #[.int .i64 x,.int .i64 y,.int .i64 n] 45);have b7:=Ga wr (.cells #[.int .i64 x,.int .i64 y,.int .i64 n] 45) none;obtain⟨w2,c7⟩:∃ w2,w2=wr.alloc (.cells #[.int .i64 x,.int .i64 y,.int .i64 n] 45):=⟨_,rfl⟩;obtain⟨R,hR⟩:∃ R,R=wr.heap.size:=⟨_,rfl⟩;rw[<- c7]at H2 b7;rw[<- hR]at H2;have g9:=Kh c7;have i1:=Kh hR;have i8:=Kh H2;have c0:=Kh b7;have e7:=Kh (zA (zA c5.out hg (by simp)) b7 (by simp));obtain⟨p0,p1,p2⟩:=zH e7.out;obtain⟨r0,r1,r2⟩:=zH H2;clear c7 hR H2 b7 hg;go_upto_region 15 with fail;rw[<- g9.out,<- i1.out];clear c1 c2 c3;by_cases hx0:x<0
     ·have HF:Hid (choB ps.length cs k=false):=Kh (by rw[a6.out,show decide (0<=x/\x<(np:Int))=false by simp;omega];rfl)
      go_wp2;go_ret;exact⟨yC (by rw[H6.out,sC (by rw[<- h9.out];exact hk) HF.out]),zB h8.out (zB HG.out c0.out (by simp)) (by simp)⟩
     by_cases hx1:(np:Int)<=x
     ·have HF:Hid (choB ps.length cs k=false):=Kh (by rw[a6.out,show decide (0<=x/\x<(np:Int))=false by simp;omega];rfl)
      go_wp2;go_ret;exact⟨yC (by rw[H6.out,sC (by rw[<- h9.out];exact hk) HF.out]),zB h8.out (zB HG.out c0.out (by simp)) (by simp)⟩
     have e8:decide (0<=x/\x<(np:Int))=true:=by simp;omega
     rw[e8,Bool.true_and]at a6;clear e8;go_upto_region 17 with fail;have b9:=heap_alloc_new w2 (.cells #[.int .i64 y,.int .i64 n] 3);have d2:=Ga w2 (.cells #[.int .i64 y,.int .i64 n] 3) none;obtain⟨w5,c6⟩:∃ w5,w5=w2.alloc (.cells #[.int .i64 y,.int .i64 n] 3):=⟨_,rfl⟩;obtain⟨R5,d8⟩:∃ R,R=w2.heap.size:=⟨_,rfl⟩;rw[<- c6]at b9 d2;rw[<- d8]at b9;have g8:=Kh c6;have i2:=Kh d8;have i7:=Kh b9;have e0:=Kh d2;clear c6 d8 b9 d2;go_upto_region 18 with fail;rw[<- g8.out,<- i2.out];clear p0 p1 p2 r0 r1 r2;obtain⟨wo,rfl⟩:∃ wo:World,wo=wr:=⟨_,rfl⟩
     go_loopg [11,64] 2 (fun gh s11 i wq=>∃ j:Nat,gh+j=2/\i=.int .i64 j/\(∀ i,i<j->refB cs k x ([y,n].getD i 0)=true)/\w5.grownBy wq none)
     case atStart=>exact⟨0,rfl,rfl,fun i hi=>by omega,zM _ _⟩
     case round =>
      obtain⟨j,a8,rfl,h7,a5⟩:=hrel;have b3:=Kh a8;have a4:=Kh h7;have b4:=Kh (zB (zB (zB HG.out c0.out (by simp)) e0.out (by simp)) a5 (by simp));have a0:=Kh a5;obtain⟨p0,p1,p2⟩:=zH (zA c5.out b4.out (by simp));obtain⟨r0,r1,r2⟩:=zH (zA (zA i8.out e0.out (by simp)) a5 (by simp));have d1:=zA i7.out a5 (by simp);clear a8 h7;by_cases hj:j<2
      ·have g2:(j:Int)<2:=by omega
       obtain⟨r,hr⟩:∃ r,r=[y,n].getD j 0:=⟨_,rfl⟩
       have cj:wr.cell? ⟨R5,j,none⟩=some (.int .i64 r):=by
        have:=zJ d1 j (by simpa using hj);rw[this,hr];rcases (by omega:j=0\/j=1) with rfl|rfl<;>rfl
       have i0:=Kh hr
       have a3:Hid (refB cs k x r=false->choB ps.length cs k=false):=Kh (fun e=>by
        rw[a6.out];rcases (by omega:j=0\/j=1) with rfl|rfl
        ·have h1:r=y:=hr
         rw[<- h1,e];rfl
        ·have h1:r=n:=hr
         rw[<- h1,e,Bool.and_false])
       have H5:Hid (refB cs k x r=true->∀ i,i<j+1->refB cs k x ([y,n].getD i 0)=true):=Kh (fun e i hi=>by
        rcases Nat.lt_succ_iff_lt_or_eq.1 hi with hi|rfl
        ·exact a4.out i hi
        ·rw[<- i0.out];exact e)
       have d9:Hid (k<cs.length):=Kh (by rw[<- h9.out];exact hk);have j0:(0:Int)<=k:=by omega
       clear d1 hr a5;by_cases h0:r<0
       ·have HR:Hid (refB cs k x r=false):=Kh (by simp[refB];omega)
        have hd:decide (r<0)=true:=by simpa using h0
        go_wp2
        go_quiet (fail)
        go_wp2;go_ret;exact⟨yC (by rw[H6.out,sC d9.out (a3.out HR.out)]),zB h8.out (zB b4.out (by first|exact zP _ none|exact zN _ _ none) (by simp)) (by simp)⟩
       have j2:decide (r<0)=false:=by simpa using h0
       by_cases h1:1+(k:Int)<r
       ·have HR:Hid (refB cs k x r=false):=Kh (by simp[refB];omega)
        have hd:decide (1+(k:Int)<r)=true:=by simpa using h1
        go_wp2
        go_quiet (fail)
        go_wp2;go_ret;exact⟨yC (by rw[H6.out,sC d9.out (a3.out HR.out)]),zB h8.out (zB b4.out (by first|exact zP _ none|exact zN _ _ none) (by simp)) (by simp)⟩
       have j1:decide (1+(k:Int)<r)=false:=by simpa using h1
       by_cases h2:r<2
       ·have HR:Hid (refB cs k x r=true):=Kh (by simp[refB];omega)
        have j3:¬ 2<=r:=by omega
        have g3:decide (2<=r)=false:=by simpa using h2
        go_wp2
        go_quiet (fail)
        go_wp2;go_roundg (2 - (j+1))
        case measure=>have:=b3.out;omega
        case rel=>exact⟨j+1,by have:=b3.out;omega,by go_num,H5.out HR.out,zB a0.out (by first|exact zP _ none|exact zN _ _ none) (by simp)⟩
       ·have g3:decide (2<=r)=true:=by simp;omega
        obtain⟨q,hq⟩:∃ q:Nat,r=(q:Int)+2:=⟨(r - 2).toNat,by omega⟩;subst hq;have b0:=((e6.out.kept c0.out (by simp)).kept e0.out (by simp)).kept a0.out (by simp);have c2:=b0.p q (by have:=h9.out;omega);have e2:IntKind.i64.wrap ((q:Int)+2 - 2)=(q:Int):=by rw[show (q:Int)+2 - 2=q by omega];exact wG (by omega)
        have e3:(q:Int)+2 - 2=(q:Int):=by omega
        have hq:q<nc:=(by omega);have i9:(q:Int)<nc:=(by omega);obtain⟨z,hz⟩:∃ z,z=(cs.getD q default).p:=⟨_,rfl⟩;rw[<- hz]at c2
        have HR:Hid (refB cs k x ((q:Int)+2) = !decide (z<=x)):=Kh (by
         have e:((q:Int)+2).toNat - 2=q:=by omega
         simp only[refB,e,<- hz];rw[Bool.eq_iff_iff];simp only[Bool.and_eq_true,Bool.not_eq_true',decide_eq_true_eq,decide_eq_false_iff_not]
         omega)
        clear hz b0;by_cases hzx:z<=x
        ·have d3:decide (z<=x)=true:=by simpa using hzx
         rw[d3]at HR;go_wp2
         go_quiet (fail)
         go_wp2;go_ret;exact⟨yC (by rw[H6.out,sC d9.out (a3.out HR.out)]),zB h8.out (zB b4.out (by first|exact zP _ none|exact zN _ _ none) (by simp)) (by simp)⟩
        ·have d3:decide (z<=x)=false:=by simpa using hzx
         rw[d3]at HR;go_wp2
         go_quiet (fail)
         go_wp2;go_roundg (2 - (j+1))
         case measure=>have:=b3.out;omega
         case rel=>exact⟨j+1,by have:=b3.out;omega,by go_num,H5.out HR.out,zB a0.out (by first|exact zP _ none|exact zN _ _ none) (by simp)⟩
      ·have g1:j=2:=by have:=b3.out;omega
       have e5:Hid (choB ps.length cs k=true):=Kh (by
        have a1:=a4.out 0 (by omega);have a2:=a4.out 1 (by omega);rw[a6.out]
        rw[show refB cs k x y=true from a1,show refB cs k x n=true from a2];rfl)
       have g2:¬ (j:Int)<2:=(by omega);clear g1 d1 a5;go_wp2;go_roundg (nc - (k+1))
       case measure=>have:=H9.out;omega
       case rel=>exact⟨k+1,by have:=H9.out;omega,by go_num,oP f6.out e5.out,b4.out⟩
    ·have a7:¬ (k:Int)<nc:=by omega
     have c4:=Kh (dG (root:=root) (by rw[<- h9.out];exact hk) f6.out);rw[<- h9.out]at c4;obtain⟨p0,p1,p2⟩:=zH (zA c5.out hg (by simp));clear hg;by_cases h5:root<0
     ·go_wp2
      go_ret;exact⟨yC (by rw[H6.out,c4.out,if_neg (by omega)]),zB h8.out (HG.out) (by simp)⟩
     by_cases h6:1+(nc:Int)<root
     ·go_wp2
      go_ret;exact⟨yC (by rw[H6.out,c4.out,if_neg (by omega)]),zB h8.out (HG.out) (by simp)⟩
     go_wp2;go_ret;exact⟨yC (by rw[H6.out,c4.out,if_pos (by omega)]),zB h8.out (HG.out) (by simp)⟩
def tl (s:ByteArray):List UInt8:=s.data.toList
theorem xO (s:ByteArray):(tl s).length=s.size:=by simp[tl]
theorem mI (s:ByteArray)(i j:Nat):tl (s.extract i j)=((tl s).drop i).take (j - i):=by
 unfold tl;rw[ByteArray.data_extract,Array.toList_extract,List.extract_eq_take_drop]
theorem qFG (s:ByteArray){i j:Nat}(h:j<=s.size):(s.extract i j).size=j - i:=by
 rw[<- xO,mI,List.length_take,List.length_drop,xO];omega
theorem bZ (s:ByteArray)(i j:Nat):(s.extract i j).toList=((tl s).drop i).take (j - i):=by
 rw[ByteArray.toList_eq];exact mI s i j
theorem fI (s:ByteArray):s.toList=tl s:=ByteArray.toList_eq s
def NoB (r u:List UInt8)(p:Nat):Prop:=∀ i,i<p->Lib.occAt r u i=false
theorem qGS {r u:ByteArray}{p:Nat}(h:p+u.size<=r.size):((r.extract p (p+u.size)).toList == u.toList)=Lib.occAt (tl r) (tl u) p:=by
 rw[bZ,fI,Lib.occAt,Bool.eq_iff_iff,beq_iff_eq,List.isPrefixOf_iff_prefix,List.prefix_iff_eq_take,xO,Nat.add_sub_cancel_left];exact eq_comm
theorem fit_occ {us:List (List UInt8)}{u v r:List UInt8}{f:Nat}(hno:NoB r u f)(hocc:Lib.occAt r u f=true)(hf:f+u.length<=r.length):Fit (u::us) v r ↔ Fit us v (r.drop (f+u.length)):=by
 constructor
 ·rintro ⟨p,r',hr,h0⟩
  have h1:f<=p.length:=by
   rcases Nat.lt_or_ge p.length f with hlt|hge
   ·have:=hno p.length hlt
    rw[gP hr]at this;cases this
   ·exact hge
  have hd:r.drop (p.length+u.length)=r':=by
   rw[hr,<- List.length_append,List.drop_left]
  have he:r.drop (f+u.length)=(r.drop (f+u.length)).take (p.length - f)++r':=by
   have e:r'=(r.drop (f+u.length)).drop (p.length - f):=by rw[List.drop_drop,<- hd];congr 1;omega
   rw[e,List.take_append_drop]
  rw[he];exact h0.more _
 ·intro h
  exact⟨_,_,qER hocc (by omega),h⟩
theorem fit_none {us:List (List UInt8)}{u v r:List UInt8}{p:Nat}(hno:NoB r u p)(hp:¬ p+u.length<=r.length):¬ Fit (u::us) v r:=by
 rintro ⟨q,r',hr,_⟩;have hl:=congrArg List.length hr;simp only[List.length_append]at hl;have:=hno q.length (by omega);rw[gP hr]at this;cases this
def cA (bs:List ByteArray):List UInt8:=tl (bs.getD (bs.length - 1) ⟨#[]⟩)
theorem qFE {bs:List ByteArray}{s:List UInt8}(h:bs.length=1):qL (bs.map (·.data.toList)) s ↔ s=tl (bs.getD 0 ⟨#[]⟩):=by
 match bs,h with
 | [b],_=>exact Iff.rfl
theorem qCX {bs:List ByteArray}{s:List UInt8}(h:2<=bs.length):qL (bs.map (·.data.toList)) s ↔ ∃ r,s=tl (bs.getD 0 ⟨#[]⟩)++r/\Fit (mid bs) (cA bs) r:=by
 match bs,h with
 | b::c::rest,_ =>
  have e:((c::rest).map (·.data.toList)).getLastD []=cA (b::c::rest):=by
   rw[List.getLastD_eq_getLast?,List.getLast?_eq_getElem?,cA];simp only[List.length_map,List.length_cons,List.getElem?_map];rw[show rest.length+1+1 - 1=rest.length+1 by omega,show rest.length+1 - 1=rest.length by omega];have h2:rest.length<(c::rest).length:=(by simp);rw[List.getElem?_eq_getElem h2,zG (show rest.length+1<(b::c::rest).length by simp)];rfl
  show (∃ r,s=b.data.toList++r/\Fit ((c::rest).map (·.data.toList)).dropLast (((c::rest).map (·.data.toList)).getLastD []) r) ↔ _;rw[e];rfl
theorem mid_drop {bs:List ByteArray}{q:Nat}(h1:1<=q)(h2:q<bs.length - 1):(mid bs).drop (q - 1)=tl (bs.getD q ⟨#[]⟩)::(mid bs).drop q:=by
 have hl:q - 1<(mid bs).length:=by rw[rW];omega
 rw[List.drop_eq_getElem_cons hl,show q - 1+1=q by omega,qDQ bs (q - 1) (by omega),zG (by omega)];congr 1;simp only[tl,show 1+(q - 1)=q by omega]
theorem rmatch_any (w:World)(kb off cap:Nat)(bs:List ByteArray)(s:ByteArray)(h:vW w kb off (txtV bs))(hc1:bs.length<=cap)(hc2:cap<=maxLen)(h0:0<bs.length)(hs:∀ i (hi:i<bs.length),bs[i].size<=4096)(hss:s.size<=4096):
  Calls Try.prog 88 #[.slice (some ⟨kb,off,none⟩) bs.length cap,.string s] w fun e w'=>e=.returned (.bool (wK (bs.map (·.data.toList)) s.data.toList))/\w.grownBy w' none:=by
 have cF:=vD h 0 h0;rw[Nat.add_zero]at cF;obtain⟨b0,h7⟩:∃ u,u=bs.getD 0 ⟨#[]⟩:=⟨_,rfl⟩;rw[<- h7]at cF;have e0:b0.size<=4096:=by rw[h7,zG h0];exact hs 0 h0
 have d9:cap<=9223372036854775807:=by unfold maxLen at hc2;omega
 have h8:Hid (∀ c:Bool,(c=true ↔ qL (bs.map (·.data.toList)) (tl s))->c=wK (bs.map (·.data.toList)) s.data.toList):=Kh (fun c hc=>by
  rw[Bool.eq_iff_iff,lK];exact hc)
 have H:=Kh h;have c2:=Kh h7;have HS:=Kh hs
 have H4:Hid (qL (bs.map (·.data.toList)) (tl s)->tl b0 <+: tl s):=Kh (fun hf=>by
  by_cases h1:bs.length=1
  ·rw[qFE h1,<- h7]at hf
   rw[hf];exact List.prefix_refl _
  ·obtain⟨r,hr,_⟩:=(qCX (by omega)).1 hf
   rw[<- h7]at hr
   rw[hr];exact List.prefix_append _ _)
 clear h h7 hs hc2;by_cases hlt:s.size<b0.size
 ·have h9:decide ((s.size:Int)<(b0.size:Int))=true:=by rw[decide_eq_true_eq];omega
  go_enter Try.func88,Try.ntmps88;go_wp2;go_ret;refine⟨zY (h8.out _ ⟨fun h=>(by cases h),fun h=>?_⟩),zM _ _⟩;have:=(H4.out h).length_le;rw[xO,xO]at this;omega
 have h9:decide ((s.size:Int)<(b0.size:Int))=false:=by rw[decide_eq_false_iff_not];omega
 have d7:b0.size<=s.size:=by omega
 have h3:=qGS (r:=s) (u:=b0) (p:=0) (by omega);rw[Nat.zero_add]at h3;by_cases hp:Lib.occAt (tl s) (tl b0) 0=true
 case neg =>
  have b1:(!((s.extract 0 b0.size).toList == b0.toList))=true:=by rw[h3];simpa using hp
  have HP:=Kh hp;clear hp h3;go_enter Try.func88,Try.ntmps88;go_wp2;go_ret;refine⟨zY (h8.out _ ⟨fun h=>(by cases h),fun h=>absurd ?_ HP.out⟩),zM _ _⟩;rw[Lib.occAt,List.isPrefixOf_iff_prefix];exact H4.out h
 have b1:(!((s.extract 0 b0.size).toList == b0.toList))=false:=by rw[h3,hp];rfl
 obtain⟨r0,H6⟩:∃ r,r=s.extract b0.size s.size:=⟨_,rfl⟩;have a1:r0.size<=4096:=by rw[H6,qFG s (Nat.le_refl _)];omega
 have h4:tl s=tl b0++tl r0:=by
  rw[Lib.occAt,List.isPrefixOf_iff_prefix]at hp;obtain⟨t,ht⟩:=hp;rw[List.drop_zero]at ht;rw[H6,mI,List.take_of_length_le (by rw[List.length_drop,xO];omega),<- xO b0,<- ht,List.drop_left]
 have b9:=Kh H6;have b7:=Kh h4;clear hp h3 h4 H6;by_cases h1:bs.length=1
 ·have c7:((bs.length:Int) == 1)=true:=by simp[h1]
  have H1:=Kh h1;clear h1;go_enter Try.func88,Try.ntmps88;go_wp2;rw[<- b9.out];go_ret;refine⟨zY (h8.out _ ?_),zM _ _⟩;rw[qFE H1.out,<- c2.out,b7.out,List.isEmpty_iff,fI];constructor
  ·intro h;rw[h,List.append_nil]
  ·intro h;simpa using h
 ·have c7:((bs.length:Int) == 1)=false:=by rw[beq_eq_false_iff_ne];omega
  have h2:2<=bs.length:=by omega
  obtain⟨R1,b6⟩:∃ R1,R1=bs.length - 1:=⟨_,rfl⟩;have e71:(bs.length:Int) - 1=(R1:Int):=by omega
  have h6:R1<bs.length:=by omega
  have c6:(R1:Int)<bs.length:=by omega
  have a5:1<=R1:=by omega
  have a6:=Kh b6
  have c0:Hid (qL (bs.map (·.data.toList)) (tl s) ↔ Fit (mid bs) (cA bs) (tl r0)):=Kh (by
   rw[qCX h2,<- c2.out,b7.out];constructor
   ·rintro ⟨r,hr,hf⟩
    have:=List.append_cancel_left hr;rw[this];exact hf
   ·intro hf;exact⟨_,rfl,hf⟩)
  clear h1 b6;go_enter Try.func88,Try.ntmps88;go_wp2;rw[<- b9.out];clear cF b1 h9
  go_loopg [1,6,7,8,9] R1 (fun gh s1 i s7 s8 s9 wr=>∃ (q:Nat) (r:ByteArray),gh+q=R1+1/\i=.int .i64 q/\1<=q/\q<=R1/\s1=.string r/\r.size<=4096/\(Fit ((mid bs).drop (q - 1)) (cA bs) (tl r) ↔ Fit (mid bs) (cA bs) (tl r0))/\w=wr)
  case atStart=>exact⟨1,r0,rfl,rfl,Nat.le_refl _,a5,rfl,a1,Iff.rfl,rfl⟩
  case round =>
   obtain⟨q,r,b3,rfl,c3,d5,rfl,d2,H2,rfl⟩:=hrel;have H9:=Kh b3;have a8:=Kh H2;clear b3 H2;by_cases hq:q<R1
   ·have c4:(q:Int)<R1:=by omega
    have d4:(q:Int)<bs.length:=(by omega);have cu:=vD H.out q (by omega);obtain⟨u,hu⟩:∃ u,u=bs.getD q ⟨#[]⟩:=⟨_,rfl⟩;rw[<- hu]at cu;have d1:u.size<=4096:=by rw[hu,zG (show q<bs.length by omega)];exact HS.out q (by omega)
    have a7:=Kh (mid_drop (bs:=bs) c3 (by have:=a6.out;omega));rw[<- hu]at a7;clear hu;go_wp2
    go_loopg [8,9] (r.size+1) (fun gh s8 s9 wr=>∃ p:Nat,gh+p=r.size+1/\s9=.int .i64 p/\w=wr/\((s8=.int .i64 (-1)/\NoB (tl r) (tl u) p)\/(∃ f:Nat,f+1=p/\s8=.int .i64 f/\NoB (tl r) (tl u) f/\Lib.occAt (tl r) (tl u) f=true/\f+u.size<=r.size)))
    case atStart=>exact⟨0,rfl,rfl,rfl,.inl ⟨rfl,fun i hi=>by omega⟩⟩
    case round =>
     clear cu;obtain⟨p,H0,rfl,rfl,H3⟩:=hrel;have H8:=Kh H0;have d6:p<=4097:=by omega
     clear H0;rcases H3 with ⟨rfl,hno⟩|⟨f,hfp,rfl,hno,h3,hfu⟩
     ·have H7:=Kh hno
      clear hno;by_cases hpu:p+u.size<=r.size
      ·have h5:decide ((p:Int)+(u.size:Int)<=(r.size:Int))=true:=by rw[decide_eq_true_eq];omega
       have b2:=qGS (r:=r) (u:=u) (p:=p) hpu;by_cases ho:Lib.occAt (tl r) (tl u) p=true
       ·rw[ho]at b2
        have HO:=Kh ho;clear ho;go_wp2;go_roundg (r.size+1 - (p+1))
        case measure=>have:=H8.out;omega
        case rel=>exact⟨p+1,by have:=H8.out;omega,by go_num,rfl,.inr ⟨p,rfl,rfl,H7.out,HO.out,hpu⟩⟩
       ·have a2:Lib.occAt (tl r) (tl u) p=false:=by simpa using ho
        rw[a2]at b2;have HO:=Kh a2;clear ho a2;go_wp2;go_roundg (r.size+1 - (p+1))
        case measure=>have:=H8.out;omega
        case rel =>
         refine⟨p+1,by have:=H8.out;omega,by go_num,rfl,.inl ⟨rfl,fun i hi=>?_⟩⟩;by_cases e:i=p
         ·rw[e];exact HO.out
         ·exact H7.out i (by omega)
      ·have h5:decide ((p:Int)+(u.size:Int)<=(r.size:Int))=false:=by rw[decide_eq_false_iff_not];omega
       go_wp2;go_ret;refine⟨zY (h8.out _ ⟨fun h=>(by cases h),fun h=>?_⟩),zM _ _⟩;rw[c0.out,<- a8.out,a7.out]at h;exact absurd h (fit_none H7.out (by rw[xO,xO];exact hpu))
     ·have e2:=Kh hfp;have H7:=Kh hno;have e1:=Kh h3
      have d8:((f:Int) == -1)=false:=by rw[beq_eq_false_iff_ne];omega
      have d3:(f:Int)+u.size<=r.size:=by omega
      have b4:=qFG r (i:=f+u.size) (j:=r.size) (Nat.le_refl _);have c1:=Kh b4
      have b8:Hid (Fit ((mid bs).drop (q+1 - 1)) (cA bs) (tl (r.extract (f+u.size) r.size)) ↔ Fit (mid bs) (cA bs) (tl r0)):=Kh (by
       rw[<- a8.out,a7.out,Nat.add_sub_cancel,fit_occ hno h3 (by rw[xO,xO];exact hfu),mI,List.take_of_length_le (by rw[List.length_drop,xO];omega),xO])
      clear hfp hno h3 b4;by_cases hpu:p+u.size<=r.size
      ·have h5:decide ((p:Int)+(u.size:Int)<=(r.size:Int))=true:=by rw[decide_eq_true_eq];omega
       go_wp2;go_roundg (R1+1 - (q+1))
       case measure=>have:=H9.out;omega
       case rel=>exact⟨q+1,_,by have:=H9.out;omega,by go_num,by omega,by omega,rfl,by rw[c1.out];omega,b8.out,rfl⟩
      ·have h5:decide ((p:Int)+(u.size:Int)<=(r.size:Int))=false:=by rw[decide_eq_false_iff_not];omega
       go_wp2;go_roundg (R1+1 - (q+1))
       case measure=>have:=H9.out;omega
       case rel=>exact⟨q+1,_,by have:=H9.out;omega,by go_num,by omega,by omega,rfl,by rw[c1.out];omega,b8.out,rfl⟩
   ·have a9:q=R1:=by omega
    have c4:¬ (q:Int)<R1:=(by omega);have cl:=vD H.out R1 h6;obtain⟨v,hv⟩:∃ u,u=bs.getD R1 ⟨#[]⟩:=⟨_,rfl⟩;rw[<- hv]at cl;have d0:v.size<=4096:=by rw[hv,zG h6];exact HS.out R1 h6
    have c8:Hid (cA bs=tl v):=Kh (by rw[cA,<- a6.out,<- hv])
    have H5:Hid (qL (bs.map (·.data.toList)) (tl s) ↔ ∃ q,tl r=q++tl v):=Kh (by
     rw[c0.out,<- a8.out,c8.out,List.drop_eq_nil_of_le (by rw[rW,a9];have:=a6.out;omega)]
     exact Iff.rfl)
    clear hv a9;by_cases hge:v.size<=r.size
    ·have a4:decide ((v.size:Int)<=(r.size:Int))=true:=by rw[decide_eq_true_eq];omega
     have a3:decide ((r.size:Int) ≥ (v.size:Int))=true:=by rw[decide_eq_true_eq];omega
     obtain⟨dd,b5⟩:∃ dd,dd=r.size - v.size:=⟨_,rfl⟩;have edd:(r.size:Int) - (v.size:Int)=(dd:Int):=by omega
     have c5:(dd:Int)<=r.size:=by omega
     have c9:=Kh b5;clear b5;go_wp2;go_ret;refine⟨zY (h8.out _ ?_),zM _ _⟩;rw[H5.out,beq_iff_eq,bZ,fI,List.take_of_length_le (by rw[List.length_drop,xO];omega)];constructor
     ·intro h
      exact⟨(tl r).take dd,by rw[<- h,List.take_append_drop]⟩
     ·rintro ⟨y,hy⟩
      have a0:=congrArg List.length hy;rw[List.length_append,xO,xO]at a0;rw[hy,show dd=y.length by have:=c9.out;omega,List.drop_left]
    ·have a4:decide ((v.size:Int)<=(r.size:Int))=false:=by rw[decide_eq_false_iff_not];omega
     have a3:decide ((r.size:Int) ≥ (v.size:Int))=false:=by rw[decide_eq_false_iff_not];omega
     go_wp2;go_ret;refine⟨zY (h8.out _ ⟨fun h=>(by cases h),fun h=>?_⟩),zM _ _⟩;obtain⟨y,hy⟩:=H5.out.1 h;have a0:=congrArg List.length hy;rw[List.length_append,xO,xO]at a0;omega
theorem rMatch_any (B:Nat)(w:World)(v:Value)(bs:List ByteArray)(s:ByteArray)(h:Row B w v (txtV bs))(hs:∀ i (hi:i<bs.length),bs[i].size<=maxLen)(hss:s.size<=maxLen):
  Calls Try.prog 65 #[.agg #[v],.string s] w fun e w'=>e=.returned (.bool (yG bs s))/\w.grownBy w' none:=by
 obtain⟨a,cap,rfl⟩:=h.shape;rw[yB]at h ⊢;have H:=Kh h;have h2:=Ga w (.cells #[.slice a bs.length cap] 28) none;have h1:=heap_alloc_new w (.cells #[.slice a bs.length cap] 28);obtain⟨w1,h5⟩:∃ w1,w1=w.alloc (.cells #[.slice a bs.length cap] 28):=⟨_,rfl⟩;obtain⟨P,hP⟩:∃ P,P=w.heap.size:=⟨_,rfl⟩;rw[<- h5]at h2 h1;rw[<- hP]at h1;have c0:w1.cell? ⟨P,0,none⟩=some (.slice a bs.length cap):=by simpa using zJ h1 0 (by simp)
 have H3:=Kh (kV B w1 _ bs 6 (h.kept h2 (by simp)) hs);have H5:=Kh h5;have HP:=Kh hP;have H8:=Kh h2;have H9:=Kh h1;clear h h2 h1 h5 hP hs;go_enter Try.func65,Try.ntmps65;go_upto_region 1 with fail;rw[<- H5.out,<- HP.out];go_wp2_with fail;refine H3.out.mono ?_;rintro e w2 ⟨rfl,h6⟩;have h3:=Kh (zB H8.out h6 (by simp));have c2:w2.cell? ⟨P,0,none⟩=some (.slice a bs.length cap):=by simpa using zJ (zA H9.out h6 (by simp)) 0 (by simp)
 clear h6 H3 c0;by_cases hE:patW bs 6=0
 case neg =>
  have hM:Hid (yG bs s=false):=Kh (by
   have:¬ yN bs 6=0:=fun e=>hE (vG.2 e)
   simp[yG,this])
  obtain⟨E,H2⟩:∃ E,E=patW bs 6:=⟨_,rfl⟩;rw[<- H2]at hE ⊢;have e1:(E == 0)=false:=by rw[beq_eq_false_iff_ne];exact hE
  clear hE H2;go_wp2;go_ret;exact⟨zY hM.out.symm,h3.out⟩
 rw[hE];have hV:=vG.1 hE;have HV:=Kh hV;obtain⟨_,_,h0,h8,_,h4,_⟩:=qBO hV;clear hE hV;go_wp2_with fail;refine(lO s 6 _ hss).mono ?_;rintro e w3 ⟨rfl,rfl⟩;by_cases hW:zW s 6=true
 ·obtain⟨b,off,_,ea,a0,H1,H4,h9⟩:=(H.out.kept h3.out (by simp)).some_ (by rw[yB];exact h0)
  rw[yB]at ea H1;simp only[Value.slice.injEq]at ea;obtain⟨rfl,_,rfl⟩:=ea
  have HM:=Kh (rmatch_any w2 b off cap bs s h9 H1 H4 h0 (fun i hi=>by
   have:=h4 i hi;simp[zW]at this
   omega) (by simp[zW]at hW;omega))
  have H6:Hid (yG bs s=wK (bs.map (·.data.toList)) s.data.toList):=Kh (by
   rw[yG,HV.out,hW];simp)
  rw[hW];clear h9 h4;go_wp2_with fail;refine HM.out.mono ?_;rintro e w3 ⟨rfl,H0⟩;have H7:=Kh (zB h3.out H0 (by simp));clear H0;go_wp2;go_ret;exact⟨zY H6.out.symm,H7.out⟩
 ·have h7:zW s 6=false:=by simpa using hW
  have hM:Hid (yG bs s=false):=Kh (by simp[yG,h7]);rw[h7];clear hW h7 h4;go_wp2;go_ret;exact⟨zY hM.out.symm,h3.out⟩
def mtsW (ps:List (List ByteArray))(s:ByteArray):List Bool:=ps.map fun p=>yG p s
theorem eL (ps:List (List ByteArray))(s:ByteArray):(mtsW ps s).length=ps.length:=by simp[mtsW]
theorem mtsW_take {ps:List (List ByteArray)}{s:ByteArray}{k:Nat}(hk:k<ps.length):mtsW (ps.take (k+1)) s=mtsW (ps.take k) s++[yG (ps.getD k []) s]:=by
 rw[List.take_succ_eq_append_getElem hk,mtsW,List.map_append,zG hk];rfl
theorem mtsW_get {ps:List (List ByteArray)}{s:ByteArray}{p:Nat}(hp:p<ps.length):(mtsW ps s).getD p false=yG (ps.getD p []) s:=by
 rw[zG (by rw[eL];exact hp),zG hp];simp[mtsW]
theorem rmatched_any (B:Nat)(w:World)(v:Value)(ps:List (List ByteArray))(s:ByteArray)(hB:B<=w.heap.size)(h:uJ B w v ps)(hl:ps.length<=4096)(hs:s.size<=maxLen):
  Calls Try.prog 24 #[v,.string s] w fun e w'=>∃ sa sc,e=.returned (.slice sa ps.length sc)/\w'.ownsRow w.heap.size 4 1 (.slice sa ps.length sc) ps.length (bls (mtsW ps s))/\w.grownBy w' none:=by
 obtain⟨a,c,rfl⟩:=h.shape;obtain⟨n,hn⟩:∃ n,n=ps.length:=⟨_,rfl⟩;have HN:=Kh hn;have H:=Kh h;rw[<- hn]at hl H ⊢;clear h hn;go_enter Try.func24,Try.ntmps24;go_wp2
 go_loopg [5,7,10] n (fun gh v5 s7 i wr=>∃ (k:Nat) (sa:Option Addr) (sc:Nat),gh+k=n/\i=.int .i64 k/\v5=.slice sa k sc/\wr.ownsRow w.heap.size 4 1 (.slice sa k sc) k (bls (mtsW (ps.take k) s))/\w.grownBy wr none)
 case atStart=>exact⟨0,none,0,rfl,rfl,rfl,World.ownsRow_nil _ _ _ _,zM _ _⟩
 case round =>
  obtain⟨k,sa,sc,H0,rfl,rfl,h4,hg⟩:=hrel;have h7:=Kh H0;have HG:=Kh hg;have HO:=Kh h4;have hz:=hg.size;clear H0 h4;by_cases hk:k<n
  ·have H6:(k:Int)<n:=by omega
   obtain⟨b,off,cap,e,a4,H8,H7,h3⟩:=(H.out.kept hg (by simp)).at_ (by rw[<- HN.out];omega);rw[<- HN.out]at e H8 h3;simp only[Value.slice.injEq,true_and]at e;obtain⟨rfl,rfl⟩:=e;obtain⟨ea,ec,c1,h2,h5⟩:=h3 k hk;have h6:Hid (mtsW (ps.take (k+1)) s=mtsW (ps.take k) s++[yG (ps.getD k []) s]):=Kh (mtsW_take (by rw[<- HN.out];exact hk));obtain⟨q,hq⟩:∃ q,q=ps.getD k []:=⟨_,rfl⟩;rw[<- hq]at c1 h2 h5 h6;have a3:c<=9223372036854775807:=by unfold maxLen at H7;omega
   have HM:Hid (∀ W:World,wr.grownBy W none->Calls Try.prog 65 #[.agg #[.slice ea q.length ec],.string s] W fun e w'=>e=.returned (.bool (yG q s))/\W.grownBy w' none):=Kh (fun W hW=>rMatch_any B W _ q s (h2.kept hW (by simp)) h5 hs);obtain⟨ql,h8⟩:∃ n,n=q.length:=⟨_,rfl⟩;obtain⟨mm,h9⟩:∃ m,m=yG q s:=⟨_,rfl⟩;rw[<- h8]at c1 HM;rw[<- h9]at HM h6;clear h3 h2 h5 hq h8 h9 hg;go_wp2_with fail;refine(HM.out _ (Ga wr _ none)).mono ?_;rintro e w1 ⟨rfl,H2⟩;have h0:=zB (Ga wr (.cells #[.slice ea ql ec] 28) none) H2 (by simp);have a1:=Kh h0;have H3:=Kh (zQ HO.out h0);have a2:=h0.size;clear H2 h0 HM c1;go_wp2_with (first|(at_builtin;refine app1 rfl _ _ _ rfl wU w.heap.size (.slice sa k sc) k _ rfl H3.out (.bool mm) rfl rfl ?c1 ?c2 ?c3 ?_)|fail)
   case c1=>unfold maxLen;omega
   case c2=>omega
   case c3=>omega
   intro sa' sc' w2 h1 H1 H4;have H9:Hid (w2.ownsRow w.heap.size 4 1 (.slice sa' (k+1) sc') (k+1) (bls (mtsW (ps.take (k+1)) s))):=Kh (by rw[h6.out];simpa [bls] using h1);have a0:Hid (w.grownBy w2 none):=Kh (zB (zB HG.out a1.out (by simp)) H1 (fun x e=>(H3.out.lt x e).1));clear h1 H1;go_wp2;go_roundg (n - (k+1))
   case measure=>have:=h7.out;omega
   case rel=>exact⟨k+1,sa',sc',by have:=h7.out;omega,by go_num,rfl,H9.out,a0.out⟩
  ·have H5:k=n:=by have:=h7.out;omega
   have HE:Hid (ps.take k=ps):=Kh (List.take_of_length_le (by rw[<- HN.out];omega));rw[HE.out]at HO;have H6:¬ (k:Int)<n:=(by omega);subst H5;clear hg;go_wp2;go_ret;exact⟨sa,sc,rfl,HO.out,HG.out⟩
theorem fU (B:Nat)(w:World)(v:Value)(g:DiaV)(mv:Value)(ms:List Bool)(h:qM B w v g)(hc:wE g.pats.length g.chos g.chos.length)(h0:0<=g.root)(h1:g.root<=1+(g.chos.length:Int))(hl:g.pats.length<=ms.length)(hm:Row B w mv (bls ms)):
  Calls Try.prog 44 #[v,mv] w fun e w'=>e=.returned (.bool (decG g.chos (fun p=>ms.getD p false) g.root))/\w.grownBy w' none:=by
 obtain⟨pv,cv,rfl,hp,h5⟩:=h;obtain⟨ca,cc,rfl⟩:=h5.shape;have a0:=h5.len_le;obtain⟨ma,mc,rfl⟩:=hm.shape;have H8:=hm.len_le;unfold maxLen at a0 H8;obtain⟨ps,cs,root⟩:=g;simp only at hp hc h5 a0 h0 h1 hl ⊢;rw[xE]at H8;obtain⟨r0,rfl⟩:∃ n:Nat,root=(n:Int):=⟨root.toNat,by omega⟩;obtain⟨nc,H7⟩:∃ n,n=cs.length:=⟨_,rfl⟩;obtain⟨nm,H2⟩:∃ n,n=ms.length:=⟨_,rfl⟩;rw[<- H7]at h5 a0 h1 ⊢;rw[xE,<- H2]at hm ⊢;rw[<- H2]at hl H8;have h8:=Ga w (.cells #[pv,.slice ca nc cc,.int .i64 (r0:Int)] 25) none;have H1:=heap_alloc_new w (.cells #[pv,.slice ca nc cc,.int .i64 (r0:Int)] 25);obtain⟨wA,a2⟩:∃ w1,w1=w.alloc (.cells #[pv,.slice ca nc cc,.int .i64 (r0:Int)] 25):=⟨_,rfl⟩;obtain⟨P,hP⟩:∃ P,P=w.heap.size:=⟨_,rfl⟩;rw[<- a2]at h8 H1;rw[<- hP]at H1;have b0:=h5.kept h8 (by simp);obtain⟨p0,p1,p2⟩:=zH H1;have a4:=Kh H7;have H5:=Kh H2;have d0:=Kh b0;have d1:=Kh H1;have b1:=Kh hc;have c0:=Kh a2;have c7:=Kh hP;have c9:=Kh h8;have HM:=Kh (hm.kept h8 (by simp));have c6:=Kh h1;obtain⟨m,H9⟩:∃ m:Nat->Bool,m=fun p=>ms.getD p false:=⟨_,rfl⟩;have c8:Hid (∀ p,m p=ms.getD p false):=Kh (fun p=>by rw[H9]);rw[<- H9];obtain⟨ans,h2⟩:∃ b,b=decG cs m (r0:Int):=⟨_,rfl⟩;rw[<- h2];have a5:=Kh h2;clear hp h5 b0 h8 H1 a2 hP H7 hc h1 h0 h2 H2 hm H9;go_enter Try.func44,Try.ntmps44;go_upto_region 1 with fail;rw[<- c0.out,<- c7.out];go_wp2;clear p0 p1 p2
 go_loopg [5,6] r0 (fun gh r s6 wr=>∃ q:Nat,gh=q/\r=.int .i64 q/\q<=1+nc/\decG cs m q=ans/\wA.grownBy wr none)
 case atStart=>exact⟨r0,rfl,rfl,by have:=c6.out;omega,a5.out.symm,zM _ _⟩
 case round =>
  obtain⟨q,a8,rfl,b5,h9,hg⟩:=hrel;have b2:=Kh a8;clear a8;have HG:=Kh hg;have h3:=Kh h9;clear h9;by_cases hq:2<=q
  ·have b6:(2:Int)<=q:=by omega
   obtain⟨i,rfl⟩:∃ i,q=i+2:=⟨q - 2,by omega⟩;have hi:i<nc:=(by omega);have H0:=d0.out.kept hg (by simp);obtain⟨b,off,cap,e,d7,h6,b9,H4⟩:=H0.at_ (by rw[<- a4.out];omega);rw[<- a4.out]at e h6;simp only[Value.slice.injEq,true_and]at e;obtain⟨rfl,rfl⟩:=e;have d4:cc<=9223372036854775807:=by unfold maxLen at b9;omega
   have h7:i<cs.length:=(by rw[<- a4.out];exact hi);have c1:=H4.p i h7;have c2:=H4.y i h7;have c3:=H4.n i h7;have h4:=jP (m:=m) b1.out (r:=((i+2:Nat):Int)) (by omega) (by omega);have e0:((i+2:Nat):Int).toNat - 2=i:=by omega
   rw[e0]at h4;have a1:=qJ (b1.out i h7);obtain⟨c,a9⟩:∃ c,c=cs.getD i default:=⟨_,rfl⟩;rw[<- a9]at c1 c2 c3 h4 a1;clear H0 H4 h7 a9;obtain⟨x,y,n⟩:=c;simp only at c1 c2 c3 h4 a1;obtain⟨xn,rfl⟩:∃ k:Nat,x=(k:Int):=⟨x.toNat,by omega⟩;obtain⟨yn,rfl⟩:∃ k:Nat,y=(k:Int):=⟨y.toNat,by omega⟩;obtain⟨nn,rfl⟩:∃ k:Nat,n=(k:Int):=⟨n.toNat,by omega⟩;rw[Int.toNat_natCast]at h4;have a6:xn<nm:=(by omega);have b4:(xn:Int)<nm:=(by omega);have d2:yn<i+2:=(by omega);have d3:nn<i+2:=(by omega);have a3:=Kh h4;obtain⟨kb,ko,kc,e,_,b8,b7,a7⟩:=(HM.out.kept hg (by simp)).some_ (by rw[xE,<- H5.out];omega);rw[xE,<- H5.out]at e b8;simp only[Value.slice.injEq,true_and]at e;obtain⟨rfl,rfl⟩:=e;have d5:mc<=9223372036854775807:=by unfold maxLen at b7;omega
   have cm:wr.cell? ⟨kb,ko+xn,none⟩=some (.bool (m xn)):=by
    have:=a7.map (f:=Value.bool) (xs:=ms) xn (by rw[<- H5.out];exact a6);rw[this,c8.out,zG (by rw[<- H5.out];exact a6)]
   obtain⟨b,hb⟩:∃ b,b=m xn:=⟨_,rfl⟩;rw[<- hb]at a3 cm;obtain⟨p0,p1,p2⟩:=zH (zA d1.out hg (by simp));have h6:=heap_alloc_new wr (.cells #[.int .i64 (xn:Int),.int .i64 (yn:Int),.int .i64 (nn:Int)] 45);have H3:=Ga wr (.cells #[.int .i64 (xn:Int),.int .i64 (yn:Int),.int .i64 (nn:Int)] 45) none;obtain⟨w2,H6⟩:∃ w2,w2=wr.alloc (.cells #[.int .i64 (xn:Int),.int .i64 (yn:Int),.int .i64 (nn:Int)] 45):=⟨_,rfl⟩;obtain⟨R,hR⟩:∃ R,R=wr.heap.size:=⟨_,rfl⟩;rw[<- H6]at h6 H3;rw[<- hR]at h6;have cm2:=xG cm H3;have c4:=Kh H6;have c5:=Kh hR;have b3:=Kh H3;obtain⟨r0,r1,r2⟩:=zH h6;have e2:IntKind.i64.wrap ((i+2:Nat) - 2:Int)=(i:Int):=by rw[show ((i+2:Nat) - 2:Int)=i by omega];exact wG (by omega)
   have e3:((i+2:Nat) - 2:Int)=(i:Int):=by omega
   have d6:(i:Int)<nc:=(by omega);clear hb H6 hR h6 H3 hg h4 a1 b5 a7 cm;go_upto_region 4 with fail;rw[<- c4.out,<- c5.out];clear c1 c2 c3 p0 p1 p2;cases b with
   | true =>
    go_wp2;go_roundg yn
    case measure=>have:=b2.out;omega
    case rel=>exact⟨yn,rfl,rfl,by omega,by rw[<- h3.out];exact a3.out.symm,zB HG.out b3.out (by simp)⟩
   | false =>
    go_wp2;go_roundg nn
    case measure=>have:=b2.out;omega
    case rel=>exact⟨nn,rfl,rfl,by omega,by rw[<- h3.out];exact a3.out.symm,zB HG.out b3.out (by simp)⟩
  ·have b6:¬ (2:Int)<=q:=by omega
   have HA:Hid (decide ((q:Int)=1)=ans):=Kh (by rw[<- h3.out,qAL _ _ (by omega)]);clear hg;go_wp2;go_ret;exact⟨zY (by rw[<- HA.out];first|rfl|simp|decide),zB c9.out HG.out (by simp)⟩
end Go.Proofs.Ytjfdomfendbhfaa
