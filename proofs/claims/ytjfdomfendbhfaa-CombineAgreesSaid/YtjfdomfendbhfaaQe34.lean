/- Part 34 of the proof: CDr. -/
import Derived.Test.YtjfdomfendbhfaaQe31
set_option linter.unusedVariables false
set_option linter.unusedSimpArgs false
namespace Go.Proofs.Ytjfdomfendbhfaa
open Go.RowKit Go.Maps
set_option maxRecDepth 100000 in
set_option maxHeartbeats 8000000 in
theorem bd_put {Q:Exit->Act->World->Prop} {v1 v2 v3 v4 v5 v6 v7 v8 v9 v10 v13 v14 v15 v16 v17 v18 v19 v20 v21 v22 v23 v24 v25 v26 v27 v28 v29 v30 v31 v32 v33 v34 v35 v36 v37 v38 v39 v40 v41 v42 v43 v44 v45 v46 v47 v48 v49 v50 v51 v52 v53 v54 v55 v56 v57 v58 v59 v60 v61 v62 v63 v64 v65 v66 v67 v68 v69 v70 v71 v72 v73 v74 v75 v76 v77 v78 v79 v80 v81 v82 v83 v84 v85 v86 v87 v88:Value} {dd:_} {w:World} {o mb R q a b m2 u c:Nat} {f:ChoV->Option Nat} {x:ChoV} (hc:w.cell? ⟨o,1,none⟩=some (.map (some mb))/\w.cell? ⟨R,0,none⟩=some (.int .i64 (q:Int))/\w.cell? ⟨R,1,none⟩=some (.int .i64 (a:Int))/\w.cell? ⟨R,2,none⟩=some (.int .i64 (b:Int))) (hM:MapK 45 eJ choW w mb u c f) (hu:u < maxLen) (hxo:eJ x) (hxw:choW x=.agg #[.int .i64 (q:Int),.int .i64 (a:Int),.int .i64 (b:Int)]) (hm2:m2 < 4611686018427387904)
  (hexit:∀ (z71 z72 z73 z74 z75 z76:Value) (w':World),MapK 45 eJ choW w' mb (u+1) (if (f x).isSome then c else c+1) (fun q=>if q=x then some m2 else f q)->w.grownBy w' (some mb)->Q .normal ⟨((Value.pointer (some ⟨o,0,none⟩)) :: v1 :: v2 :: v3 :: v4 :: v5 :: v6 :: v7 :: v8 :: v9 :: v10 :: (Value.pointer (some ⟨R,0,none⟩)) :: (Value.int .i64 (m2:Int)) :: v13 :: v14 :: v15 :: v16 :: v17 :: v18 :: v19 :: v20 :: v21 :: v22 :: v23 :: v24 :: v25 :: v26 :: v27 :: v28 :: v29 :: v30 :: v31 :: v32 :: v33 :: v34 :: v35 :: v36 :: v37 :: v38 :: v39 :: v40 :: v41 :: v42 :: v43 :: v44 :: v45 :: v46 :: v47 :: v48 :: v49 :: v50 :: v51 :: v52 :: v53 :: v54 :: v55 :: v56 :: v57 :: v58 :: v59 :: v60 :: v61 :: v62 :: v63 :: v64 :: v65 :: v66 :: v67 :: v68 :: v69 :: v70 :: z71 :: z72 :: z73 :: z74 :: z75 :: z76 :: v77 :: v78 :: v79 :: v80 :: v81 :: v82 :: v83 :: v84 :: v85 :: v86 :: v87 :: v88 :: []).toArray,dd⟩ w') :
  Code.wp Try.prog (reg Try.f86 13) Q ⟨((Value.pointer (some ⟨o,0,none⟩)) :: v1 :: v2 :: v3 :: v4 :: v5 :: v6 :: v7 :: v8 :: v9 :: v10 :: (Value.pointer (some ⟨R,0,none⟩)) :: (Value.int .i64 (m2:Int)) :: v13 :: v14 :: v15 :: v16 :: v17 :: v18 :: v19 :: v20 :: v21 :: v22 :: v23 :: v24 :: v25 :: v26 :: v27 :: v28 :: v29 :: v30 :: v31 :: v32 :: v33 :: v34 :: v35 :: v36 :: v37 :: v38 :: v39 :: v40 :: v41 :: v42 :: v43 :: v44 :: v45 :: v46 :: v47 :: v48 :: v49 :: v50 :: v51 :: v52 :: v53 :: v54 :: v55 :: v56 :: v57 :: v58 :: v59 :: v60 :: v61 :: v62 :: v63 :: v64 :: v65 :: v66 :: v67 :: v68 :: v69 :: v70 :: v71 :: v72 :: v73 :: v74 :: v75 :: v76 :: v77 :: v78 :: v79 :: v80 :: v81 :: v82 :: v83 :: v84 :: v85 :: v86 :: v87 :: v88 :: []).toArray,dd⟩ w:=by
 conv=>arg 2;whnf
 obtain⟨w6,h6⟩:∃ w6,w6=w.drew:=⟨_,rfl⟩
 have h0:w.grownBy w6 none:=by rw[h6];exact zL w none
 have H0:=Kh h6;have H1:=Kh h0
 have HM:=Kh (hM.kept h0 (by simp))
 have C:Hid (w6.cell? ⟨o,1,none⟩=some (.map (some mb))/\w6.cell? ⟨R,0,none⟩=some (.int .i64 (q:Int))/\w6.cell? ⟨R,1,none⟩=some (.int .i64 (a:Int))/\w6.cell? ⟨R,2,none⟩=some (.int .i64 (b:Int))):=Kh ⟨xI hc.1 h0,xI hc.2.1 h0,xI hc.2.2.1 h0,xI hc.2.2.2 h0⟩
 have h9:=Kh hxw
 clear h6 h0 hc hM hxw
 refine wp_region_noPanic ?_
 refine wN (G:=uZ 6 (fun _=>True) (fun W=>W.cell? ⟨o,1,none⟩=some (.map (some mb))/\W.cell? ⟨R,0,none⟩=some (.int .i64 (q:Int))/\W.cell? ⟨R,1,none⟩=some (.int .i64 (a:Int))/\W.cell? ⟨R,2,none⟩=some (.int .i64 (b:Int)))) (by kernel_rfl) ?_
 rw[<- H0.out]
 refine takeC (i:=0) (v:=?_) rfl rfl (Or.inl ⟨by rfl,?_⟩) ⟨trivial,fun _=>C.out⟩ ?_
 rotate_left
 ·(intro wz hz;(try dsimp only at hz);go_simp;(try with_reducible rfl))
 try simp only[Act.put,sPa,sPb,sPc]
 refine takeC (i:=1) (v:=?_) rfl rfl (Or.inl ⟨by rfl,?_⟩) ⟨trivial,fun _=>C.out⟩ ?_
 rotate_left
 ·(intro wz hz;(try dsimp only at hz);go_simp;(try with_reducible rfl))
 try simp only[Act.put,sPa,sPb,sPc]
 refine takeC (i:=2) (v:=?_) rfl rfl (Or.inl ⟨by rfl,?_⟩) ⟨trivial,fun _=>C.out⟩ ?_
 rotate_left
 ·(intro wz hz;(try dsimp only at hz);go_simp;(try with_reducible rfl))
 try simp only[Act.put,sPa,sPb,sPc]
 refine uB (i:=3) (v:=.map (some mb)) rfl rfl (by kernel_rfl) (by rfl) (by kernel_rfl) (by kernel_rfl) (by kernel_rfl) (fun _ _ _ h=>h) (Or.inl ⟨by rfl,?_⟩) ⟨trivial,fun _=>C.out⟩ ?_
 ·(rintro wz ⟨-,hz⟩;obtain⟨h1,h2,h3,h4⟩:=hz;go_simp;(try with_reducible rfl))
 try simp only[Act.put,sPa,sPb,sPc]
 refine uB (i:=4) (v:=.agg #[.int .i64 (q:Int),.int .i64 (a:Int),.int .i64 (b:Int)]) rfl rfl (by kernel_rfl) (by rfl) (by kernel_rfl) (by kernel_rfl) (by kernel_rfl) (fun _ _ _ h=>h) (Or.inl ⟨by rfl,?_⟩) ⟨trivial,fun _=>C.out⟩ ?_
 ·(rintro wz ⟨-,hz⟩;obtain⟨h1,h2,h3,h4⟩:=hz;go_simp;(try with_reducible rfl))
 try simp only[Act.put,sPa,sPb,sPc]
 refine takeC (i:=5) (v:=?_) rfl rfl (Or.inl ⟨by rfl,?_⟩) ⟨trivial,fun _=>C.out⟩ ?_
 rotate_left
 ·(intro wz hz;(try dsimp only at hz);go_simp;(try with_reducible rfl))
 try simp only[Act.put,sPa,sPb,sPc]
 obtain⟨w7,r7,h5,h8,h7⟩:=HM.out.upd qBL (z:=x) (y:=m2) hu hxo hm2
 rw[h9.out]at h5
 refine oneG (i:=6) (by kernel_rfl) rfl (fun K hK=>?_)
 go_simp
 clear h5
 refine hK.out _ _ ⟨trivial,fun h=>by simp at h⟩ ?_
 clear hK K
 try simp only[Act.put,sPa,sPb,sPc]
 refine jI (by kernel_rfl) ?_ _
 refine NoPanic.normal ?_
 exact hexit _ _ _ _ _ _ _ h8 (yW H1.out h7 (.inl rfl) (.inr (.inl rfl)))
set_option maxRecDepth 100000 in
set_option maxHeartbeats 8000000 in
theorem bd_app {Q : Exit → Act → World → Prop} {v1 v2 v3 v4 v5 v6 v7 v8 v9 v10 v12 v13 v14 v15 v16 v17 v18 v19 v20 v21 v22 v23 v24 v25 v26 v27 v28 v29 v30 v31 v32 v33 v34 v35 v36 v37 v38 v39 v40 v41 v42 v43 v44 v45 v46 v47 v48 v49 v50 v51 v52 v53 v54 v55 v56 v57 v58 v59 v60 v61 v62 v63 v64 v65 v66 v67 v68 v69 v70 v71 v72 v73 v74 v75 v76 v77 v78 v79 v80 v81 v82 v83 v84 v85 v86 v87 v88 : Value} {dd : _} {w : World} {B o R q a b m2 cap : Nat} {sa : Option Addr} {xs : List Value} {P : World → Prop} (hc : w.cell? ⟨o, 0, none⟩ = some (.slice sa m2 cap) ∧ w.cell? ⟨R, 0, none⟩ = some (.int .i64 (q : Int)) ∧ w.cell? ⟨R, 1, none⟩ = some (.int .i64 (a : Int)) ∧ w.cell? ⟨R, 2, none⟩ = some (.int .i64 (b : Int))) (ho : w.ownsRow B 45 3 (.slice sa m2 cap) m2 xs) (hB : B ≤ w.heap.size) (hm2 : m2 ≤ 1000000) (hol : o < w.heap.size)
  (hE : ∀ wg, w.grownBy wg none → ∀ w2 s' c', w2.ownsRow B 45 3 (.slice s' (m2 + 1) c') (m2 + 1) (xs ++ [.int .i64 (q : Int), .int .i64 (a : Int), .int .i64 (b : Int)]) → wg.grownBy w2 (Value.slice sa m2 cap).ownBlock → mA wg w2 (.slice sa m2 cap) (.slice s' (m2 + 1) c') →
   w2.cell? ⟨o, 0, none⟩ = some (.slice sa m2 cap) ∧ w2.frozen? ⟨o, 0, none⟩ = false ∧ P (w2.setCell ⟨o, 0, none⟩ (.slice s' (m2 + 1) c')))
  (hexit : ∀ (z77 z78 z79 z80 z81 z82 z83 z84 z85 z86 : Value) (w' : World), P w' → Q .normal ⟨((Value.pointer (some ⟨o, 0, none⟩)) :: v1 :: v2 :: v3 :: v4 :: v5 :: v6 :: v7 :: v8 :: v9 :: v10 :: (Value.pointer (some ⟨R, 0, none⟩)) :: v12 :: v13 :: v14 :: v15 :: v16 :: v17 :: v18 :: v19 :: v20 :: v21 :: v22 :: v23 :: v24 :: v25 :: v26 :: v27 :: v28 :: v29 :: v30 :: v31 :: v32 :: v33 :: v34 :: v35 :: v36 :: v37 :: v38 :: v39 :: v40 :: v41 :: v42 :: v43 :: v44 :: v45 :: v46 :: v47 :: v48 :: v49 :: v50 :: v51 :: v52 :: v53 :: v54 :: v55 :: v56 :: v57 :: v58 :: v59 :: v60 :: v61 :: v62 :: v63 :: v64 :: v65 :: v66 :: v67 :: v68 :: v69 :: v70 :: v71 :: v72 :: v73 :: v74 :: v75 :: v76 :: z77 :: z78 :: z79 :: z80 :: z81 :: z82 :: z83 :: z84 :: z85 :: z86 :: v87 :: v88 :: []).toArray, dd⟩ w') :
  Code.wp Try.prog (reg Try.f86 14) Q ⟨((Value.pointer (some ⟨o, 0, none⟩)) :: v1 :: v2 :: v3 :: v4 :: v5 :: v6 :: v7 :: v8 :: v9 :: v10 :: (Value.pointer (some ⟨R, 0, none⟩)) :: v12 :: v13 :: v14 :: v15 :: v16 :: v17 :: v18 :: v19 :: v20 :: v21 :: v22 :: v23 :: v24 :: v25 :: v26 :: v27 :: v28 :: v29 :: v30 :: v31 :: v32 :: v33 :: v34 :: v35 :: v36 :: v37 :: v38 :: v39 :: v40 :: v41 :: v42 :: v43 :: v44 :: v45 :: v46 :: v47 :: v48 :: v49 :: v50 :: v51 :: v52 :: v53 :: v54 :: v55 :: v56 :: v57 :: v58 :: v59 :: v60 :: v61 :: v62 :: v63 :: v64 :: v65 :: v66 :: v67 :: v68 :: v69 :: v70 :: v71 :: v72 :: v73 :: v74 :: v75 :: v76 :: v77 :: v78 :: v79 :: v80 :: v81 :: v82 :: v83 :: v84 :: v85 :: v86 :: v87 :: v88 :: []).toArray, dd⟩ w := by
 conv => arg 2; whnf
 obtain ⟨w8, hw8⟩ : ∃ w8, w8 = w.drew := ⟨_, rfl⟩
 have hg8 : w.grownBy w8 none := by rw [hw8]; exact zL w none
 have HW8 := Kh hw8; have HG8 := Kh hg8
 have HO := Kh ho; have HE := Kh hE
 have C : Hid (w8.cell? ⟨o, 0, none⟩ = some (.slice sa m2 cap) ∧ w8.cell? ⟨R, 0, none⟩ = some (.int .i64 (q : Int)) ∧ w8.cell? ⟨R, 1, none⟩ = some (.int .i64 (a : Int)) ∧ w8.cell? ⟨R, 2, none⟩ = some (.int .i64 (b : Int))) := Kh ⟨xI hc.1 hg8, xI hc.2.1 hg8, xI hc.2.2.1 hg8, xI hc.2.2.2 hg8⟩
 have hz8 : B ≤ w8.heap.size := Nat.le_trans hB hg8.size
 have HOL : Hid (o < w8.heap.size) := Kh (Nat.lt_of_lt_of_le hol hg8.size)
 clear hw8 hg8 hc ho hE hB hol
 refine wp_region_noPanic ?_
 refine wN (G := uZ 7 (fun _ => True) (fun W => W.cell? ⟨o, 0, none⟩ = some (.slice sa m2 cap) ∧ W.cell? ⟨R, 0, none⟩ = some (.int .i64 (q : Int)) ∧ W.cell? ⟨R, 1, none⟩ = some (.int .i64 (a : Int)) ∧ W.cell? ⟨R, 2, none⟩ = some (.int .i64 (b : Int)))) (by kernel_rfl) ?_
 rw [← HW8.out]
 refine takeC (i := 0) (v := ?_) rfl rfl (Or.inl ⟨by rfl, ?_⟩) ⟨trivial, fun _ => C.out⟩ ?_
 rotate_left
 ·(intro wz hz; (try dsimp only at hz); go_simp; (try with_reducible rfl))
 try simp only [Act.put, sPa, sPb, sPc]
 refine takeC (i := 1) (v := ?_) rfl rfl (Or.inl ⟨by rfl, ?_⟩) ⟨trivial, fun _ => C.out⟩ ?_
 rotate_left
 ·(intro wz hz; (try dsimp only at hz); go_simp; (try with_reducible rfl))
 try simp only [Act.put, sPa, sPb, sPc]
 refine takeC (i := 2) (v := ?_) rfl rfl (Or.inl ⟨by rfl, ?_⟩) ⟨trivial, fun _ => C.out⟩ ?_
 rotate_left
 ·(intro wz hz; (try dsimp only at hz); go_simp; (try with_reducible rfl))
 try simp only [Act.put, sPa, sPb, sPc]
 refine takeC (i := 3) (v := ?_) rfl rfl (Or.inl ⟨by rfl, ?_⟩) ⟨trivial, fun _ => C.out⟩ ?_
 rotate_left
 ·(intro wz hz; (try dsimp only at hz); go_simp; (try with_reducible rfl))
 try simp only [Act.put, sPa, sPb, sPc]
 refine uB (i := 4) (v := .slice sa m2 cap) rfl rfl (by kernel_rfl) (by rfl) (by kernel_rfl) (by kernel_rfl) (by kernel_rfl) (fun _ _ _ h => h) (Or.inl ⟨by rfl, ?_⟩) ⟨trivial, fun _ => C.out⟩ ?_
 ·(rintro wz ⟨-, hz⟩; obtain ⟨h1, h2, h3, h4⟩ := hz; go_simp; (try with_reducible rfl))
 try simp only [Act.put, sPa, sPb, sPc]
 obtain ⟨k1, k2, k3, k4⟩ := C.out
 refine oneG (i := 5) (by kernel_rfl) rfl (fun K hK => ?_)
 go_simp
 refine hK.out _ _ ⟨trivial, fun _ => C.out⟩ ?_
 clear hK K k1 k2 k3 k4
 try simp only [Act.put, sPa, sPb, sPc]
 refine oneG (i := 6) (by kernel_rfl) rfl (fun K hK => ?_)
 go_simp
 have hgn := heap_alloc_new w8 (.cells #[.int .i64 (q : Int), .int .i64 (a : Int), .int .i64 (b : Int)] 45)
 have hg9 := Ga w8 (.cells #[.int .i64 (q : Int), .int .i64 (a : Int), .int .i64 (b : Int)] 45) none
 have hz9 := zM w8 (.cells #[.int .i64 (q : Int), .int .i64 (a : Int), .int .i64 (b : Int)] 45)
 obtain ⟨w9, hw9⟩ : ∃ w9, w9 = w8.alloc (.cells #[.int .i64 (q : Int), .int .i64 (a : Int), .int .i64 (b : Int)] 45) := ⟨_, rfl⟩
 obtain ⟨R9, hR9⟩ : ∃ R9, R9 = w8.heap.size := ⟨_, rfl⟩
 rw [← hw9] at hgn hg9 hz9 ⊢
 rw [← hR9] at hgn ⊢
 have HOL9 : Hid (o < w9.heap.size) := Kh (Nat.lt_of_lt_of_le HOL.out hg9.size)
 refine hK.out _ _ ⟨trivial, fun _ => ⟨xI C.out.1 hg9, xI C.out.2.1 hg9, xI C.out.2.2.1 hg9, xI C.out.2.2.2 hg9⟩⟩ ?_
 clear hK K
 try simp only [Act.put, sPa, sPb, sPc]
 have ho9 := zQ HO.out (zD HG8.out hg9)
 refine oneG (i := 7) (by kernel_rfl) rfl (fun K hK => ?_)
 refine qJ rfl (.tmp 81) (.tmp 83) 23 rfl aS B _ _ _ rfl ho9 [.int .i64 (q : Int), .int .i64 (a : Int), .int .i64 (b : Int)] _ rfl (0, 0) rfl hgn ?g0 ?g1 ?g2 ?g3 ?_
 case g0 => intro v hv; simp only [List.mem_cons, List.not_mem_nil, or_false] at hv; rcases hv with rfl | rfl | rfl <;> rfl
 case g1 => unfold maxLen; omega
 case g2 => show (m2 + 1) * 24 ≤ 140737488355328; omega
 case g3 => rw [hz9]; omega
 intro s2 cap2 wM hownM hgM hmM
 obtain ⟨k0, f0, hbl⟩ := HE.out w9 (zD HG8.out hg9) wM s2 cap2 hownM hgM hmM
 have hol2 : o < wM.heap.size := Nat.lt_of_lt_of_le HOL9.out hgM.size
 refine hK.out _ _ ⟨trivial, fun h => by simp at h⟩ ?_
 clear hK K hownM hgM hmM ho9 hgn hg9 hz9 hw9 hR9 C
 try simp only [Act.put, sPa, sPb, sPc]
 have HBL := Kh hbl
 clear hbl
 refine oneG (i := 8) (by kernel_rfl) rfl (fun K hK => ?_)
 go_simp
 refine hK.out _ _ ⟨trivial, fun h => by simp at h⟩ ?_
 clear hK K
 try simp only [Act.put, sPa, sPb, sPc]
 refine oneG (i := 9) (by kernel_rfl) rfl (fun K hK => ?_)
 go_simp
 refine hK.out _ _ ⟨trivial, fun h => by simp at h⟩ ?_
 clear hK K
 try simp only [Act.put, sPa, sPb, sPc]
 refine oneG (i := 10) (by kernel_rfl) rfl (fun K hK => ?_)
 go_simp
 refine hK.out _ _ ⟨trivial, fun h => by simp at h⟩ ?_
 clear hK K
 try simp only [Act.put, sPa, sPb, sPc]
 refine jI (by kernel_rfl) ?_ _
 refine NoPanic.normal ?_
 exact hexit _ _ _ _ _ _ _ _ _ _ _ HBL.out
end Go.Proofs.Ytjfdomfendbhfaa
