/- Part 32 of the proof: DgR14. -/
import Derived.Test.YtjfdomfendbhfaaQe31
set_option linter.unusedVariables false
set_option linter.unusedSimpArgs false
namespace Go.Proofs.Ytjfdomfendbhfaa
open Go.RowKit Go.Maps
set_option maxRecDepth 100000 in
set_option maxHeartbeats 1600000 in
theorem dg_reg14 {Q':Exit->Act->World->Prop} {v1 v2 v3 v4 v6 v7 v10 v11 v12 v13 v14 v15 v16 v17 v18 v19 v20 v21 v22 v23 v24 v25 v26 v27 v28 v29 v30 v31 v32 v33 v34 v35 v36 v37 v38 v39 v40 v41 v42 v43 v44 v45 v46 v47 v48 v49 v50 v51 v52 v53 v54 v55 v56 v57 v58 v59 v60 v61 v62 v63 v64 v65 v66 v67 v68 v69 v70 v71 v72:Value} {dd:_} {w:World} {P tb B base m:Nat} {sc:Option Addr} {cc:Nat} {cs:List ChoV} {i:Int} {pv rv:Value} {low:Int}
  (hb:w.heap[P]?=some (.cells #[pv,.slice sc m cc,rv] 25 (0,0))) (ho:w.ownsRow base 45 3 (.slice sc m cc) m (wJ cs)) (hT:xB B w tb) (hlt:tb < base/\P < base) (hne:P≠tb) (hbase:base<=w.heap.size) (hm:m<=1000) (hBP:B<=P) (hlow:0<=low/\low<=1000)
  (hexit:∀ (z42 z43 z44 z45 z46 z47 z48 z49 z50 z51 z52 z53 z54 z55 z56:Value) (sc':Option Addr) (cc':Nat) (y n:Int) (w0 w1 w':World),w.grownBy w0 (some tb)->w0.ownsRow base 45 3 (.slice sc m cc) m (wJ cs)->w0.grownBy w1 (Value.slice sc m cc).ownBlock->w1.grownBy w' (some P)->0<=y->y < 2+low->0<=n->n < 2+low->w'.heap[P]?=some (.cells #[pv,.slice sc' (m+1) cc',rv] 25 (0,0))->w'.ownsRow base 45 3 (.slice sc' (m+1) cc') (m+1) (wJ (cs ++ [⟨i,y,n⟩]))->xB B w' tb->Q' .normal ⟨((Value.pointer (some ⟨tb,0,none⟩)) :: v1 :: v2 :: v3 :: v4 :: (Value.pointer (some ⟨P,0,none⟩)) :: v6 :: v7 :: (Value.int .i64 i) :: (Value.int .i64 low) :: v10 :: v11 :: v12 :: v13 :: v14 :: v15 :: v16 :: v17 :: v18 :: v19 :: v20 :: v21 :: v22 :: v23 :: v24 :: v25 :: v26 :: v27 :: v28 :: v29 :: v30 :: v31 :: v32 :: v33 :: v34 :: v35 :: v36 :: v37 :: v38 :: v39 :: v40 :: v41 :: z42 :: z43 :: z44 :: z45 :: z46 :: z47 :: z48 :: z49 :: z50 :: z51 :: z52 :: z53 :: z54 :: z55 :: z56 :: v57 :: v58 :: v59 :: v60 :: v61 :: v62 :: v63 :: v64 :: v65 :: v66 :: v67 :: v68 :: v69 :: v70 :: v71 :: v72 :: []).toArray,dd⟩ w') :
  Code.wp Try.prog (reg Try.f26 14) Q' ⟨((Value.pointer (some ⟨tb,0,none⟩)) :: v1 :: v2 :: v3 :: v4 :: (Value.pointer (some ⟨P,0,none⟩)) :: v6 :: v7 :: (Value.int .i64 i) :: (Value.int .i64 low) :: v10 :: v11 :: v12 :: v13 :: v14 :: v15 :: v16 :: v17 :: v18 :: v19 :: v20 :: v21 :: v22 :: v23 :: v24 :: v25 :: v26 :: v27 :: v28 :: v29 :: v30 :: v31 :: v32 :: v33 :: v34 :: v35 :: v36 :: v37 :: v38 :: v39 :: v40 :: v41 :: v42 :: v43 :: v44 :: v45 :: v46 :: v47 :: v48 :: v49 :: v50 :: v51 :: v52 :: v53 :: v54 :: v55 :: v56 :: v57 :: v58 :: v59 :: v60 :: v61 :: v62 :: v63 :: v64 :: v65 :: v66 :: v67 :: v68 :: v69 :: v70 :: v71 :: v72 :: []).toArray,dd⟩ w:=by
 conv=>arg 2;whnf
 obtain⟨w7,H0⟩:∃ w7,w7=w.drew:=⟨_,rfl⟩
 have h4:w.grownBy w7 none:=by rw[H0];exact zL w none
 have a6:=Kh H0
 have HB:=Kh (zA hb h4 (by simp));have HO:=Kh (zQ ho h4);have h1:Hid (w.grownBy w7 (some tb)):=Kh (yY h4);have HT:=Kh (hT.kept h4 (by simp))
 have H1:=Kh hne;have h7:=Kh hlt;have HE:=Kh hexit;have b1:=Kh hbase;have b2:=Kh hBP
 have C:Hid (w7.cell? ⟨P,1,none⟩=some (.slice sc m cc)):=Kh ((zJ HB.out).2.1)
 clear H0 h4 hb ho hT hexit hbase hne hlt
 have e8:IntKind.i64.wrap (2+low)=2+low:=xX (by omega)
 have H9:=Kh hlow
 refine wp_region_noPanic ?_
 refine wN (G:=uZ 15 (fun _=>True) (fun W=>W.cell? ⟨P,1,none⟩=some (.slice sc m cc))) (by kernel_rfl) ?_
 rw[<- a6.out]
 refine uB (i:=0) (v:=?_) rfl rfl (by kernel_rfl) (by kernel_rfl) (by kernel_rfl) (by kernel_rfl) (by kernel_rfl) (fun _ _ _ h=>h) (Or.inl ⟨by rfl,?_⟩) ⟨trivial,fun _=>C.out⟩ ?_
 rotate_left
 ·(rintro wz ⟨-,hz⟩;(try dsimp only at hz);go_simp;(try with_reducible rfl))
 try simp only[Act.put,sPd,sPe,sPf,sPa,sPb,sPc]
 refine uB (i:=1) (v:=?_) rfl rfl (by kernel_rfl) (by kernel_rfl) (by kernel_rfl) (by kernel_rfl) (by kernel_rfl) (fun _ _ _ h=>h) (Or.inl ⟨by rfl,?_⟩) ⟨trivial,fun _=>C.out⟩ ?_
 rotate_left
 ·(rintro wz ⟨-,hz⟩;(try dsimp only at hz);go_simp;(try with_reducible rfl))
 try simp only[Act.put,sPd,sPe,sPf,sPa,sPb,sPc]
 refine uB (i:=2) (v:=?_) rfl rfl (by kernel_rfl) (by kernel_rfl) (by kernel_rfl) (by kernel_rfl) (by kernel_rfl) (fun _ _ _ h=>h) (Or.inl ⟨by rfl,?_⟩) ⟨trivial,fun _=>C.out⟩ ?_
 rotate_left
 ·(rintro wz ⟨-,hz⟩;(try dsimp only at hz);go_simp;(try with_reducible rfl))
 try simp only[Act.put,sPd,sPe,sPf,sPa,sPb,sPc]
 refine uB (i:=3) (v:=?_) rfl rfl (by kernel_rfl) (by kernel_rfl) (by kernel_rfl) (by kernel_rfl) (by kernel_rfl) (fun _ _ _ h=>h) (Or.inl ⟨by rfl,?_⟩) ⟨trivial,fun _=>C.out⟩ ?_
 rotate_left
 ·(rintro wz ⟨-,hz⟩;(try dsimp only at hz);go_simp;(try with_reducible rfl))
 try simp only[Act.put,sPd,sPe,sPf,sPa,sPb,sPc]
 refine uB (i:=4) (v:=?_) rfl rfl (by kernel_rfl) (by kernel_rfl) (by kernel_rfl) (by kernel_rfl) (by kernel_rfl) (fun _ _ _ h=>h) (Or.inl ⟨by rfl,?_⟩) ⟨trivial,fun _=>C.out⟩ ?_
 rotate_left
 ·(rintro wz ⟨-,hz⟩;(try dsimp only at hz);go_simp;(try with_reducible rfl))
 try simp only[Act.put,sPd,sPe,sPf,sPa,sPb,sPc]
 refine uB (i:=5) (v:=?_) rfl rfl (by kernel_rfl) (by kernel_rfl) (by kernel_rfl) (by kernel_rfl) (by kernel_rfl) (fun _ _ _ h=>h) (Or.inl ⟨by rfl,?_⟩) ⟨trivial,fun _=>C.out⟩ ?_
 rotate_left
 ·(rintro wz ⟨-,hz⟩;(try dsimp only at hz);go_simp;(try with_reducible rfl))
 try simp only[Act.put,sPd,sPe,sPf,sPa,sPb,sPc]
 refine uB (i:=7) (v:=?_) rfl rfl (by kernel_rfl) (by kernel_rfl) (by kernel_rfl) (by kernel_rfl) (by kernel_rfl) (fun _ _ _ h=>h) (Or.inl ⟨by rfl,?_⟩) ⟨trivial,fun _=>C.out⟩ ?_
 rotate_left
 ·(rintro wz ⟨-,hz⟩;(try dsimp only at hz);go_simp;(try with_reducible rfl))
 try simp only[Act.put,sPd,sPe,sPf,sPa,sPb,sPc]
 refine uB (i:=8) (v:=?_) rfl rfl (by kernel_rfl) (by kernel_rfl) (by kernel_rfl) (by kernel_rfl) (by kernel_rfl) (fun _ _ _ h=>h) (Or.inl ⟨by rfl,?_⟩) ⟨trivial,fun _=>C.out⟩ ?_
 rotate_left
 ·(rintro wz ⟨-,hz⟩;(try dsimp only at hz);go_simp;(try with_reducible rfl))
 try simp only[Act.put,sPd,sPe,sPf,sPa,sPb,sPc]
 refine uB (i:=9) (v:=?_) rfl rfl (by kernel_rfl) (by kernel_rfl) (by kernel_rfl) (by kernel_rfl) (by kernel_rfl) (fun _ _ _ h=>h) (Or.inl ⟨by rfl,?_⟩) ⟨trivial,fun _=>C.out⟩ ?_
 rotate_left
 ·(rintro wz ⟨-,hz⟩;(try dsimp only at hz);go_simp;(try with_reducible rfl))
 try simp only[Act.put,sPd,sPe,sPf,sPa,sPb,sPc]
 refine oneG (i:=6) (by kernel_rfl) rfl (fun K hK=>?_)
 go_simp
 go_at_call 15
 refine(uK B tb w7 (2+low) (by omega) HT.out).mono ?_
 rintro e w8 ⟨y,rfl,H3,H2,h6,h0⟩
 have Hy:Hid (0<=y/\y < 2+low):=Kh ⟨H3,H2 (by omega)⟩
 have HT:=Kh h6
 have HB:=Kh (zA HB.out h0 (fun e=>H1.out (Oj e).symm));have HO:=Kh (HO.out.kept h0 (by rcases hv:(Value.slice sc m cc).ownBlock with _|j;exact .inl rfl;exact .inr (fun e=>by have e:j=tb:=Oj e;have:=(HO.out.lt j hv).1;have:=h7.out.1;omega)));have h1:=Kh (zD h1.out h0)
 have C:Hid (w8.cell? ⟨P,1,none⟩=some (.slice sc m cc)):=Kh ((zJ HB.out).2.1)
 have a3:Hid (w7.heap.size<=w8.heap.size):=Kh h0.size
 refine hK.out _ _ ⟨trivial,fun _=>C.out⟩ ?_
 clear hK K h6 h0 H3 H2
 try simp only[Act.put,sPd,sPe,sPf,sPa,sPb,sPc]
 refine oneG (i:=10) (by kernel_rfl) rfl (fun K hK=>?_)
 go_simp
 go_at_call 15
 refine(uK B tb w8 (2+low) (by omega) HT.out).mono ?_
 rintro e w9 ⟨n,rfl,H8,H7,h6,h0⟩
 have Hn:Hid (0<=n/\n < 2+low):=Kh ⟨H8,H7 (by omega)⟩
 have HT:=Kh h6
 have HB:=Kh (zA HB.out h0 (fun e=>H1.out (Oj e).symm));have HO:=Kh (HO.out.kept h0 (by rcases hv:(Value.slice sc m cc).ownBlock with _|j;exact .inl rfl;exact .inr (fun e=>by have e:j=tb:=Oj e;have:=(HO.out.lt j hv).1;have:=h7.out.1;omega)));have h1:=Kh (zD h1.out h0)
 have C:Hid (w9.cell? ⟨P,1,none⟩=some (.slice sc m cc)):=Kh ((zJ HB.out).2.1)
 have a2:Hid (w8.heap.size<=w9.heap.size):=Kh h0.size
 refine hK.out _ _ ⟨trivial,fun _=>C.out⟩ ?_
 clear hK K h6 h0 H8 H7
 try simp only[Act.put,sPd,sPe,sPf,sPa,sPb,sPc]
 refine uB (i:=11) (v:=?_) rfl rfl (by kernel_rfl) (by kernel_rfl) (by kernel_rfl) (by kernel_rfl) (by kernel_rfl) (fun _ _ _ h=>h) (Or.inl ⟨by rfl,?_⟩) ⟨trivial,fun _=>C.out⟩ ?_
 rotate_left
 ·(rintro wz ⟨-,hz⟩;(try dsimp only at hz);go_simp;(try with_reducible rfl))
 try simp only[Act.put,sPd,sPe,sPf,sPa,sPb,sPc]
 have h2:=Ga w9 (.cells #[.int .i64 i,.int .i64 y,.int .i64 n] 45) none
 have h5:=heap_alloc_new w9 (.cells #[.int .i64 i,.int .i64 y,.int .i64 n] 45)
 obtain⟨X,hX⟩:∃ X,X=w9.heap.size:=⟨_,rfl⟩
 obtain⟨wl,h9⟩:∃ wl,wl=w9.alloc (.cells #[.int .i64 i,.int .i64 y,.int .i64 n] 45):=⟨_,rfl⟩
 rw[<- h9]at h2 h5
 rw[<- hX]at h5
 have a5:=Kh h9;have a4:=Kh hX
 have HB:=Kh (zA HB.out h2 (by simp));have HO:=Kh (zQ HO.out h2);have h1:=Kh (zD h1.out (yY h2));have HT:=Kh (HT.out.kept h2 (by simp))
 have b3:=Kh h5
 have C:Hid (wl.cell? ⟨P,1,none⟩=some (.slice sc m cc)):=Kh ((zJ HB.out).2.1)
 clear h2 h5 hX h9
 refine oneG (i:=12) (by kernel_rfl) rfl (fun K hK=>?_)
 go_simp
 rw[<- a5.out,<- a4.out]
 refine hK.out _ _ ⟨trivial,fun _=>C.out⟩ ?_
 clear hK K
 try simp only[Act.put,sPd,sPe,sPf,sPa,sPb,sPc]
 have hz:=Nat.le_trans b1.out h1.out.size
 refine oneG (i:=13) (by kernel_rfl) rfl (fun K hK=>?_)
 refine qJ rfl (.tmp 43) (.tmp 54) 23 rfl aS base (.slice sc m cc) m _ rfl HO.out [.int .i64 i,.int .i64 y,.int .i64 n] X rfl (0,0) rfl b3.out ?z1 ?z2 ?z3 hz ?_
 case z1=>intro v hv;simp only[List.mem_cons,List.not_mem_nil,or_false]at hv;rcases hv with rfl|rfl|rfl <;> rfl
 case z2=>unfold maxLen;omega
 case z3=>omega
 intro sc' cc' wp h3 h8 a1
 have b0:=Kh h8
 have a0:=Kh h3
 have HB:=Kh (zA HB.out h8 (fun e=>by have:=(HO.out.lt P e).1;have:=h7.out;omega));have HT:=Kh (HT.out.kept h8 (fun k e=>by have:=(HO.out.lt k e).1;have:=h7.out;have:=HT.out.ge;omega))
 have C:Hid (wp.cell? ⟨P,1,none⟩=some (.slice sc m cc)):=Kh ((zJ HB.out).2.1)
 refine hK.out _ _ ⟨trivial,fun _=>C.out⟩ ?_
 clear hK K h3 h8 a1
 try simp only[Act.put,sPd,sPe,sPf,sPa,sPb,sPc]
 refine uB (i:=14) (v:=?_) rfl rfl (by kernel_rfl) (by kernel_rfl) (by kernel_rfl) (by kernel_rfl) (by kernel_rfl) (fun _ _ _ h=>h) (Or.inl ⟨by rfl,?_⟩) ⟨trivial,fun _=>C.out⟩ ?_
 rotate_left
 ·(rintro wz ⟨-,hz⟩;(try dsimp only at hz);go_simp;(try with_reducible rfl))
 try simp only[Act.put,sPd,sPe,sPf,sPa,sPb,sPc]
 have c1:=C.out
 have f1:=zE HB.out 1
 have h5:=zH HB.out
 have H5:=heap_setCell_same wp P 1 _ _ (.slice sc' (m+1) cc') HB.out
 have H6:=a0.out.kept (zC wp ⟨P,1,none⟩ (.slice sc' (m+1) cc')) (.inr (fun e=>by have:=(a0.out.lt P e).1;have:=h7.out;omega))
 have H4:=HT.out.kept (zC wp ⟨P,1,none⟩ (.slice sc' (m+1) cc')) (fun k e=>by have e:P=k:=Oj e;have:=H1.out;have:=b2.out;omega)
 have a8:=Kh H5;have a9:=Kh H6;have a7:=Kh H4
 clear H5 H6 H4
 refine oneG (i:=15) (by kernel_rfl) rfl (fun K hK=>?_)
 go_simp
 refine hK.out _ _ ⟨trivial,fun h=>by cases h⟩ ?_
 clear hK K
 try simp only[Act.put,sPd,sPe,sPf,sPa,sPb,sPc]
 refine jI (by kernel_rfl) ?_ _
 exact HE.out _ _ _ _ _ _ _ _ _ _ _ _ _ _ _ sc' cc' y n wl wp _ h1.out HO.out b0.out (zC wp ⟨P,1,none⟩ (.slice sc' (m+1) cc')) Hy.out.1 Hy.out.2 Hn.out.1 Hn.out.2 a8.out (by rw[jP];exact a9.out) a7.out
end Go.Proofs.Ytjfdomfendbhfaa
