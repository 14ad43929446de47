/- Part 23 of the proof: MPerm. -/
import Derived.Test.YtdjhoadoiknaoaaDoorZD22
set_option linter.unusedVariables false
set_option linter.unusedSimpArgs false
namespace Go.Proofs.YtdjhoadoiknaoaaDoor
open Go.RowKit
def qDN (m:DfaV) (n:Nat):Prop:=∀ k:Nat,m.letters=k→∀ a,a < k→∀ q q',q < n→q' < n→ent m.next q a=ent m.next q' a→q=q'
theorem owns_keptF {w w':World} {F:Nat→Prop} {base n:Nat} {v:Value} {xs:List Value} (h:w.ownsRow base 3 1 v n xs) (hg:GrownBut w w' F) (hF:∀ k,F k→wK w 3 k):w'.ownsRow base 3 1 v n xs:=by
 obtain ⟨h1,h2⟩:=h
 refine ⟨h1,?_⟩
 rcases h2 with h2|⟨g,cap,cur,e1,e2,e3,e4⟩
 ·exact .inl h2
 ·refine .inr ⟨g,cap,cur,e1,e2,hg.heap e3 (fun hf=>?_),e4⟩
  obtain ⟨c,e',m,hp,hne⟩:=hF g hf
  rw [e3] at hp
  simp at hp
  exact hne hp.2.1.symm
theorem Half.ofMany {base o q:Nat} {w5 w:World} {L S:Int} {fs:List Bool} {t:List (List Int)} {hs:List Value} {sf sn sa sa2:Option Addr} {cf cn sc sc2:Nat} {FF:Nat→Prop} {b:Bool} {row:List Int} {rv:Value} {k:Nat} {ls:List (Nat × Obj)} (h:Half base w5 o L S fs t hs sf cf sn cn) (hfl:fs.length=q) (htl:t.length=q) (hk:row.length=k)
  (hM:Many w5 FF w [⟨base,4,.slice sa (q+1) sc,q+1,bls fs ++ [.bool b],1⟩,⟨base,22,.slice sa2 (q+1) sc2,q+1,hs ++ [rv],1⟩,⟨base,3,rv,k,ints row,1⟩] ls []) (hF:∀ k,FF k→wK w5 3 k)
  (hB:w.heap[o]?=some (.cells #[.int .i64 L,.int .i64 S,.slice sa (q+1) sc,.slice sa2 (q+1) sc2] 28 (0,0))):Half base w o L S (fs ++ [b]) (t ++ [row]) (hs ++ [rv]) sa sc sa2 sc2:=by
 have e1:(fs ++ [b]).length=q+1:=by simp [hfl]
 have e2:(t ++ [row]).length=q+1:=by simp [htl]
 have o0:=hM.own 0 _ rfl
 have o1:=hM.own 1 _ rfl
 have o2:=hM.own 2 _ rfl
 simp only at o0 o1 o2
 refine ⟨by rw [e1,e2];exact hB,by rw [e1,show bls (fs ++ [b])=bls fs ++ [.bool b] by simp [bls]];exact o0,by rw [e2];exact o1,?_⟩
 refine OwnsT.snoc ⟨h.rows.len,fun i h1 h2=>owns_keptF (h.rows.own i h1 h2) hM.but hF,h.rows.dis⟩ (by rw [hk];exact o2) (fun i hi j hj e=>?_)
 have hlt:=(h.rows.lt hi hj).2
 rcases hM.mine 2 _ rfl j e with hf|hf
 ·obtain ⟨c,e',m,hp,hne⟩:=hF j hf
  exact zS (h.rows.own i hi (by rw [← h.rows.len];exact hi)) hp (Ne.symm hne) hj
 ·omega
structure PermTo (t:List (List Int)) (n q a:Nat) (L:List Int):Prop where
 done:∀ a',a' < a→∀ q1 q2,q1 < n→q2 < n→ent t q1 a'=ent t q2 a'→q1=q2
 col:∀ q1 q2,q1 < q→q2 < q→ent t q1 a=ent t q2 a→q1=q2
 out:∀ q1,q1 < q→ent t q1 a ∉ L
 nodup:L.Nodup
 rng:∀ x∈L,0≤x∧x < n
 len:L.length+q=n
theorem PermTo.step {t:List (List Int)} {n q a k:Nat} {L:List Int} (h:PermTo t n q a L) (hq:q < t.length) (ha:a < (t.getD q []).length) (hk:k < L.length):PermTo (t.set q ((t.getD q []).set a (L.getD k 0))) n (q+1) a (L.take k ++ L.drop (k+1)):=by
 have hx:L.getD k 0=L[k]:=by simp [List.getD_eq_getElem?_getD,hk]
 have hL:L=L.take k ++ L[k] :: L.drop (k+1):=by rw [← List.drop_eq_getElem_cons hk,List.take_append_drop]
 have hnd:=h.nodup
 rw [hL,List.nodup_append] at hnd
 obtain ⟨n1,n2,n3⟩:=hnd
 rw [List.nodup_cons] at n2
 have hmem:∀ y,y∈L.take k ++ L.drop (k+1)→y∈L:=fun y hy=>by
  rcases List.mem_append.1 hy with hy|hy
  ·exact List.mem_of_mem_take hy
  ·exact List.mem_of_mem_drop hy
 have hxn:L[k] ∉ L.take k ++ L.drop (k+1):=fun hy=>by
  rcases List.mem_append.1 hy with hy|hy
  ·exact n3 _ hy _ List.mem_cons_self rfl
  ·exact n2.1 hy
 have hxL:L[k]∈L:=List.getElem_mem hk
 rw [hx]
 refine ⟨fun a' ha' q1 q2 h1 h2=>?_,fun q1 q2 h1 h2=>?_,fun q1 h1=>?_,?_,fun y hy=>h.rng y (hmem y hy),?_⟩
 ·rw [lW hq ha,lW hq ha,if_neg (by omega),if_neg (by omega)]
  exact h.done a' ha' q1 q2 h1 h2
 ·rw [lW hq ha,lW hq ha]
  simp only [and_true]
  by_cases e1:q1=q <;> by_cases e2:q2=q
  ·intro _;omega
  ·rw [if_pos e1,if_neg e2]
   intro e;exact absurd (e ▸ hxL) (h.out q2 (by omega))
  ·rw [if_neg e1,if_pos e2]
   intro e;exact absurd (e ▸ hxL) (h.out q1 (by omega))
  ·rw [if_neg e1,if_neg e2]
   exact h.col q1 q2 (by omega) (by omega)
 ·rw [lW hq ha]
  simp only [and_true]
  by_cases e1:q1=q
  ·rw [if_pos e1];exact hxn
  ·rw [if_neg e1];exact fun hy=>h.out q1 (by omega) (hmem _ hy)
 ·rw [List.nodup_append]
  exact ⟨n1,n2.2,fun x h1 y h2=>n3 x h1 y (List.mem_cons_of_mem _ h2)⟩
 ·have:=h.len
  simp only [List.length_append,List.length_take,List.length_drop]
  omega
theorem PermTo.begin {t:List (List Int)} {n a:Nat} (h:∀ a',a' < a→∀ q1 q2,q1 < n→q2 < n→ent t q1 a'=ent t q2 a'→q1=q2):PermTo t n 0 a ((List.range n).map fun (x:Nat)=>(x:Int)) where
 done:=h
 col:=fun q1 q2 h1=>by omega
 out:=fun q1 h1=>by omega
 nodup:=by
  refine List.Pairwise.map _ (fun x y hxy=>?_) (List.nodup_range (n:=n))
  intro e;exact hxy (Int.ofNat.inj e)
 rng:=fun x hx=>by
  obtain ⟨y,hy,rfl⟩:=List.mem_map.1 hx
  have:=List.mem_range.1 hy
  omega
 len:=by simp
theorem row_front {w:World} {lb cl k:Nat} {e:TypeId} {L:List Int} (hA:Arr w lb e (ints L)) (hk:k≤L.length) (hc:L.length≤cl) (hm:cl≤maxLen):Row w.heap.size w (.slice (some ⟨lb,0,none⟩) k cl) (ints (L.take k)):=by
 have hl:(ints (L.take k)).length=k:=by rw [zM,List.length_take];omega
 refine .inr ⟨lb,0,cl,by rw [hl],hA.lt,by rw [hl];omega,hm,?_⟩
 have:=hA.row.take k
 rwa [show ints (L.take k)=(ints L).take k by simp [ints,List.map_take]]
theorem row_back {w:World} {lb cl k:Nat} {e:TypeId} {L:List Int} (hA:Arr w lb e (ints L)) (hk:k < L.length) (hc:L.length≤cl) (hm:cl≤maxLen):Row w.heap.size w (.slice (if cl=k+1 then some ⟨lb,0,none⟩ else some ⟨lb,k+1,none⟩) (L.length - (k+1)) (cl - (k+1))) (ints (L.drop (k+1))):=by
 have hl:(ints (L.drop (k+1))).length=L.length - (k+1):=by rw [zM,List.length_drop]
 by_cases h:cl=k+1
 ·rw [if_pos h]
  refine .inr ⟨lb,0,cl - (k+1),by rw [hl],hA.lt,by rw [hl];omega,by omega,hA.lt,fun i hi=>by omega⟩
 ·rw [if_neg h]
  refine .inr ⟨lb,k+1,cl - (k+1),by rw [hl],hA.lt,by rw [hl];omega,by omega,?_⟩
  have:=hA.row.drop (k+1)
  rw [Nat.zero_add] at this
  rwa [show ints (L.drop (k+1))=(ints L).drop (k+1) by simp [ints,List.map_drop]]
theorem Half.keptAbove {base o:Nat} {w0 W W':World} {L S L0 S0:Int} {fs:List Bool} {t t0:List (List Int)} {hs:List Value} {sf sn:Option Addr} {cf cn:Nat} {row:Option Nat} (h:Half base W o L S fs t hs sf cf sn cn) (h0:Half base w0 o L0 S0 fs t0 hs sf cf sn cn) (ht:t0.length=t.length) (hg:W.grownBy W' row) (hr:∀ k,row=some k→w0.heap.size≤k):Half base W' o L S fs t hs sf cf sn cn:=by
 have key:∀ (v:Value),(∀ k,v.ownBlock=some k→k < w0.heap.size)→v.ownBlock=none∨v.ownBlock≠row:=fun v hv=>by
  rcases e:v.ownBlock with _|k
  ·exact .inl rfl
  ·refine .inr fun e2=>?_
   have:=hr k e2.symm
   have:=hv k e
   omega
 refine ⟨zE h.box hg (fun e=>by have:=hr _ e;have:=zQ h0.box;omega),h.ownF.kept hg (key _ fun k e=>(h0.ownF.lt k e).2),h.ownN.kept hg (key _ fun k e=>(h0.ownN.lt k (by rw [ht];exact e)).2),⟨h.rows.len,fun i h1 h2=>(h.rows.own i h1 h2).kept hg (key _ fun k e=>(h0.rows.lt h1 e).2),h.rows.dis⟩⟩
theorem tape_not {w0 W:World} {F:Nat→Prop} {rs:List RowS} {ls:List (Nat × Obj)} {ps:List (Nat × TypeId × List Value)} (h:Many w0 F W rs ls ps) {B tb:Nat} (hT:wD B W tb) (hty:∀ s∈rs,s.e≠73):∀ (j:Nat) (s:RowS),rs[j]?=some s→s.v.ownBlock≠some tb:=by
 obtain ⟨sl,zs,n,hr,_⟩:=hT
 exact h.not_type hr hty
inductive perm7I (B tb P letters q:Nat) (s:Int) (fs:List Bool) (hs:List Value) (sf:Option Addr) (cf:Nat) (sn:Option Addr) (cn:Nat) (w5:World) (FF:Nat→Prop) (a0:Act) (l:Array Bool) (a:Act) (w:World):Prop
 | mk (x33:Value) (x34:Value) (x35:Value) (x36:Value) (x40:Value) (x41:Value) (x42:Value) (x43:Value) (x44:Value) (b:Int) (vF:Value) (nF:Nat) (xF:List Value) (vN:Value) (nN:Nat) (xN:List Value) (vR:Value) (nR:Nat) (xR:List Value) (ls:List (Nat × Obj)) (c2:Value) (c3:Value) (ha:a=zL a0 [(33,x33),(34,x34),(35,x35),(36,x36),(40,x40),(41,x41),(42,x42),(43,x43),(44,x44)]) (HR:∀ j∈[0,1,2,7,8,9],l.getD j true=true) (H3:Hid (l.getD 3 true=true→x33=.int .i64 b)) (H4:Hid (l.getD 4 true=true→l.getD 3 true=true∧x34=Value.bool (decide (b=1)))) (H5:Hid (l.getD 5 true=true→l.getD 3 true=true∧∃ g,x35=.slice (some ⟨g,0,none⟩) 1 1∧(g,Obj.cells #[Value.bool (decide (b=1))] 4 (0,0))∈ls)) (H6n:Hid (l.getD 6 true=false→vF=.slice sf q cf∧q=nF∧xF=bls fs)) (H6:Hid (l.getD 6 true=true→l.getD 3 true=true∧∃ sa sc,vF=.slice sa (q+1) sc∧x36=.slice sa (q+1) sc∧nF=q+1∧xF=bls fs ++ [Value.bool (decide (b=1))])) (H10n:Hid (l.getD 10 true=false→vR=.slice none 0 0∧nR=0∧xR=[])) (H10:Hid (l.getD 10 true=true→∃ g,vR=.slice (some ⟨g,0,none⟩) letters letters∧x40=.slice (some ⟨g,0,none⟩) letters letters∧letters=nR∧xR=List.replicate letters (.int .i64 0))) (H11:Hid (l.getD 11 true=true→l.getD 10 true=true∧∃ g,x41=.slice (some ⟨g,0,none⟩) 1 1∧(g,Obj.cells #[vR] 22 (0,0))∈ls)) (H12n:Hid (l.getD 12 true=false→vN=.slice sn q cn∧q=nN∧hs=xN)) (H12:Hid (l.getD 12 true=true→l.getD 6 true=true∧l.getD 10 true=true∧∃ sa sc,vN=.slice sa (q+1) sc∧x42=.slice sa (q+1) sc∧nN=q+1∧xN=hs ++ [vR])) (H13:Hid (l.getD 13 true=true→x43=.pointer (some ⟨P+1,2,none⟩))) (H15:Hid (l.getD 15 true=true→x44=.pointer (some ⟨P+1,3,none⟩))) (B2n:Hid (l.getD 14 true=false→c2=.slice sf q cf)) (B2:Hid (l.getD 14 true=true→l.getD 6 true=true∧l.getD 12 true=true∧c2=vF)) (B3n:Hid (l.getD 16 true=false→c3=.slice sn q cn)) (B3:Hid (l.getD 16 true=true→l.getD 12 true=true∧l.getD 14 true=true∧c3=vN)) (HB:(w.heap[P+1]?=some (.cells #[.int .i64 letters,.int .i64 s,c2,c3] 28 (0,0)))) (HM:(Many w5 FF w [⟨P+1,4,vF,nF,xF,1⟩,⟨P+1,22,vN,nN,xN,1⟩,⟨P+1,3,vR,nR,xR,1⟩] ls [])) (HT:(wD B w tb))
theorem perm7_G {B tb P letters q:Nat} {s:Int} {fs:List Bool} {hs:List Value} {sf:Option Addr} {cf:Nat} {sn:Option Addr} {cn:Nat} {w5:World} {FF:Nat→Prop} {a0:Act} {l:Array Bool} {a:Act} {w:World} (h:perm7I B tb P letters q s fs hs sf cf sn cn w5 FF a0 l a w):vV 14 (fun _=>True) (fun W=>W.cell? ⟨P+1,2,none⟩=some (.slice sf q cf)∧W.cell? ⟨P+1,3,none⟩=some (.slice sn q cn)) l w:=by
 obtain ⟨x33,x34,x35,x36,x40,x41,x42,x43,x44,b,vF,nF,xF,vN,nN,xN,vR,nR,xR,ls,c2,c3,ha,HR,H3,H4,H5,H6n,H6,H10n,H10,H11,H12n,H12,H13,H15,B2n,B2,B3n,B3,HB,HM,HT⟩:=h
 obtain ⟨k0,k1,k2,k3⟩:=zR HB
 refine ⟨trivial,fun h14=>?_⟩
 have h16:l.getD 16 true=false:=by
  rcases h16:l.getD 16 true with _|_
  ·rfl
  ·have:=(B3.out h16).2.1
   rw [h14] at this;cases this
 rw [B2n.out h14] at k2;rw [B3n.out h16] at k3
 exact ⟨k2,k3⟩
theorem iG {B tb P letters q:Nat} {s:Int} {fs:List Bool} {hs:List Value} {sf:Option Addr} {cf:Nat} {sn:Option Addr} {cn:Nat} {w5:World} {FF:Nat→Prop} {a0:Act} {l:Array Bool} {a:Act} {w:World} (h:perm7I B tb P letters q s fs hs sf cf sn cn w5 FF a0 l a w):∀ j∈[0,1,2,7,8,9],l.getD j true=true:=by
 obtain ⟨x33,x34,x35,x36,x40,x41,x42,x43,x44,b,vF,nF,xF,vN,nN,xN,vR,nR,xR,ls,c2,c3,ha,HR,H3,H4,H5,H6n,H6,H10n,H10,H11,H12n,H12,H13,H15,B2n,B2,B3n,B3,HB,HM,HT⟩:=h
 exact HR
set_option maxRecDepth 100000 in
set_option maxHeartbeats 8000000 in
theorem perm7_steps {B tb P letters q:Nat} {s:Int} {fs:List Bool} {hs:List Value} {sf:Option Addr} {cf:Nat} {sn:Option Addr} {cn:Nat} {w5:World} {FF:Nat→Prop} {v0 v1 v2 v3 v4 v5 v6 v8 v9 v10 v11 v12 v13 v14 v15 v16 v17 v18 v19 v20 v21 v22 v23 v24 v25 v26 v27 v28 v29 v33 v34 v35 v36 v40 v41 v42 v43 v44 v45 v46 v47 v48 v49 v50 v51 v52 v53 v54 v55 v56 v57 v58 v59 v60 v61 v62 v63 v64 v65 v66 v67 v68 v69 v70 v71 v72 v73 v74 v75 v76 v77 v78 v79 v80 v81 v82 v83 v84 v85 v86 v87 v88 v89:Value} {dd:_} {a0:Act} (ha0:a0=⟨#[v0,v1,v2,v3,v4,v5,v6,.pointer (some ⟨P+1,0,none⟩),v8,v9,v10,v11,v12,v13,v14,v15,v16,v17,v18,v19,v20,v21,v22,v23,v24,v25,v26,v27,v28,v29,.pointer (some ⟨P+1,2,none⟩),.slice sf q cf,.pointer (some ⟨tb,0,none⟩),v33,v34,v35,v36,.pointer (some ⟨P+1,3,none⟩),.slice sn q cn,.int .i64 letters,v40,v41,v42,v43,v44,v45,v46,v47,v48,v49,v50,v51,v52,v53,v54,v55,v56,v57,v58,v59,v60,v61,v62,v63,v64,v65,v66,v67,v68,v69,v70,v71,v72,v73,v74,v75,v76,v77,v78,v79,v80,v81,v82,v83,v84,v85,v86,v87,v88,v89],dd⟩) (hBt:B≤tb) (htb:tb < P) (h6:letters≤6) (hq5:q≤500) (htW:tb < w5.heap.size) (hQW:P+1 < w5.heap.size) (hbase:P+1≤w5.heap.size) (HFF:FF=fun k=>FB sf sn k∨k=tb∨k=P+1) (hmk:∀ w:World,(Instr.makeSlice 22 (.int .i64 (letters:Int)) (.int .i64 (letters:Int))).run Tryd.prog w=.ok (.slice (some ⟨w.heap.size,0,none⟩) letters letters) (w.alloc (.cells (madeCells #[.int .i64 0] letters) 3))) (hmkz:Hid (madeCells #[.int .i64 0] letters=(List.replicate letters (Value.int .i64 0)).toArray)) (ops7:Array Oper) (Q7:Exit→Act→World→Prop):oX (gG Tryd.prog .any ops7 Q7 (perm7I B tb P letters q s fs hs sf cf sn cn w5 FF a0)) 0 (qV Tryd.f14 7).toList:=by
 refine ⟨?s0,?s1,?s2,?s3,?s4,?s5,?s6,?s7,?s8,?s9,?s10,?s11,?s12,?s13,?s14,?s15,?s16,trivial⟩
 case s0 =>
  exact fun l a w h hun=>absurd (iG h 0 (by simp)) (by rw [hun];simp)
 case s1 =>
  exact fun l a w h hun=>absurd (iG h 1 (by simp)) (by rw [hun];simp)
 case s2 =>
  exact fun l a w h hun=>absurd (iG h 2 (by simp)) (by rw [hun];simp)
 case s3 =>
  intro l a w h hun hdep K hK
  obtain ⟨x33,x34,x35,x36,x40,x41,x42,x43,x44,b,vF,nF,xF,vN,nN,xN,vR,nR,xR,ls,c2,c3,ha,HR,H3,H4,H5,H6n,H6,H10n,H10,H11,H12n,H12,H13,H15,B2n,B2,B3n,B3,HB,HM,HT⟩:=h
  subst ha
  rw [ha0]
  simp only [zL,List.foldl_cons,List.foldl_nil,Act.put,sPa,sPb,sPc]
  go_simp
  go_at_call 43
  refine (tN B tb _ _ (by omega) HT).mono ?_
  rintro e w6 ⟨b',rfl,hb0,hb1,hT6,hg6⟩
  refine hK.out _ _ ?_
  refine ⟨(.int .i64 b'),x34,x35,x36,x40,x41,x42,x43,x44,b',vF,nF,xF,vN,nN,xN,vR,nR,xR,ls,c2,c3,?fa3,fun j hj=>zB (HR j hj),Kh (fun _=>rfl),Kh (fun h=>absurd (H4.out (zA (by decide) h)).1 (by rw [hun];simp)),Kh (fun h=>absurd (H5.out (zA (by decide) h)).1 (by rw [hun];simp)),Kh (fun h=>H6n.out (zC h)),Kh (fun h=>absurd (H6.out (zA (by decide) h)).1 (by rw [hun];simp)),Kh (fun h=>H10n.out (zC h)),Kh (fun h=>H10.out (zA (by decide) h)),Kh (fun h=>⟨zB (H11.out (zA (by decide) h)).1,(H11.out (zA (by decide) h)).2⟩),Kh (fun h=>H12n.out (zC h)),Kh (fun h=>⟨zB (H12.out (zA (by decide) h)).1,zB (H12.out (zA (by decide) h)).2.1,(H12.out (zA (by decide) h)).2.2⟩),Kh (fun h=>H13.out (zA (by decide) h)),Kh (fun h=>H15.out (zA (by decide) h)),Kh (fun h=>B2n.out (zC h)),Kh (fun h=>⟨zB (B2.out (zA (by decide) h)).1,zB (B2.out (zA (by decide) h)).2.1,(B2.out (zA (by decide) h)).2.2⟩),Kh (fun h=>B3n.out (zC h)),Kh (fun h=>⟨zB (B3.out (zA (by decide) h)).1,zB (B3.out (zA (by decide) h)).2.1,(B3.out (zA (by decide) h)).2.2⟩),zE HB hg6 (by simp;omega),HM.far hg6 (by rw [HFF];exact Or.inr (Or.inl rfl)) htW (tape_not HM HT (by simp)),hT6⟩
  case fa3=>rw [ha0];simp only [zL,List.foldl_cons,List.foldl_nil,Act.put,sPa,sPb,sPc]
 case s4 =>
  intro l a w h hun hdep K hK
  obtain ⟨x33,x34,x35,x36,x40,x41,x42,x43,x44,b,vF,nF,xF,vN,nN,xN,vR,nR,xR,ls,c2,c3,ha,HR,H3,H4,H5,H6n,H6,H10n,H10,H11,H12n,H12,H13,H15,B2n,B2,B3n,B3,HB,HM,HT⟩:=h
  have DH3:=H3.out (zK (hdep ⟨3,.data⟩ (by simp) rfl))
  subst DH3
  subst ha
  rw [ha0]
  simp only [zL,List.foldl_cons,List.foldl_nil,Act.put,sPa,sPb,sPc]
  go_simp
  refine hK.out _ _ ?_
  refine ⟨(.int .i64 b),(.bool (b == 1)),x35,x36,x40,x41,x42,x43,x44,b,vF,nF,xF,vN,nN,xN,vR,nR,xR,ls,c2,c3,?fa4,fun j hj=>zB (HR j hj),Kh (fun _=>rfl),Kh (fun _=>⟨zB (zK (hdep ⟨3,.data⟩ (by simp) rfl)),rfl⟩),Kh (fun h=>⟨zB (H5.out (zA (by decide) h)).1,(H5.out (zA (by decide) h)).2⟩),Kh (fun h=>H6n.out (zC h)),Kh (fun h=>⟨zB (H6.out (zA (by decide) h)).1,(H6.out (zA (by decide) h)).2⟩),Kh (fun h=>H10n.out (zC h)),Kh (fun h=>H10.out (zA (by decide) h)),Kh (fun h=>⟨zB (H11.out (zA (by decide) h)).1,(H11.out (zA (by decide) h)).2⟩),Kh (fun h=>H12n.out (zC h)),Kh (fun h=>⟨zB (H12.out (zA (by decide) h)).1,zB (H12.out (zA (by decide) h)).2.1,(H12.out (zA (by decide) h)).2.2⟩),Kh (fun h=>H13.out (zA (by decide) h)),Kh (fun h=>H15.out (zA (by decide) h)),Kh (fun h=>B2n.out (zC h)),Kh (fun h=>⟨zB (B2.out (zA (by decide) h)).1,zB (B2.out (zA (by decide) h)).2.1,(B2.out (zA (by decide) h)).2.2⟩),Kh (fun h=>B3n.out (zC h)),Kh (fun h=>⟨zB (B3.out (zA (by decide) h)).1,zB (B3.out (zA (by decide) h)).2.1,(B3.out (zA (by decide) h)).2.2⟩),HB,HM,HT⟩
  case fa4=>rw [ha0];simp only [zL,List.foldl_cons,List.foldl_nil,Act.put,sPa,sPb,sPc]
 case s5 =>
  intro l a w h hun hdep K hK
  obtain ⟨x33,x34,x35,x36,x40,x41,x42,x43,x44,b,vF,nF,xF,vN,nN,xN,vR,nR,xR,ls,c2,c3,ha,HR,H3,H4,H5,H6n,H6,H10n,H10,H11,H12n,H12,H13,H15,B2n,B2,B3n,B3,HB,HM,HT⟩:=h
  have DH4:=H4.out (zK (hdep ⟨4,.data⟩ (by simp) rfl))
  obtain ⟨hd3,rfl⟩:=DH4
  subst ha
  rw [ha0]
  simp only [zL,List.foldl_cons,List.foldl_nil,Act.put,sPa,sPb,sPc]
  go_simp
  refine hK.out _ _ ?_
  refine ⟨x33,(Value.bool (decide (b=1))),(.slice (some ⟨w.heap.size,0,none⟩) 1 1),x36,x40,x41,x42,x43,x44,b,vF,nF,xF,vN,nN,xN,vR,nR,xR,((w.heap.size,Obj.cells #[Value.bool (decide (b=1))] 4 (0,0)) :: ls),c2,c3,?fa5,fun j hj=>zB (HR j hj),Kh (fun h=>H3.out (zA (by decide) h)),Kh (fun _=>⟨zB hd3,rfl⟩),Kh (fun _=>⟨zB hd3,w.heap.size,rfl,List.Mem.head _⟩),Kh (fun h=>H6n.out (zC h)),Kh (fun h=>⟨zB (H6.out (zA (by decide) h)).1,(H6.out (zA (by decide) h)).2⟩),Kh (fun h=>H10n.out (zC h)),Kh (fun h=>H10.out (zA (by decide) h)),Kh (fun h=>⟨zB (H11.out (zA (by decide) h)).1,let ⟨g,h1,h2⟩:=(H11.out (zA (by decide) h)).2;⟨g,h1,List.Mem.tail _ h2⟩⟩),Kh (fun h=>H12n.out (zC h)),Kh (fun h=>⟨zB (H12.out (zA (by decide) h)).1,zB (H12.out (zA (by decide) h)).2.1,(H12.out (zA (by decide) h)).2.2⟩),Kh (fun h=>H13.out (zA (by decide) h)),Kh (fun h=>H15.out (zA (by decide) h)),Kh (fun h=>B2n.out (zC h)),Kh (fun h=>⟨zB (B2.out (zA (by decide) h)).1,zB (B2.out (zA (by decide) h)).2.1,(B2.out (zA (by decide) h)).2.2⟩),Kh (fun h=>B3n.out (zC h)),Kh (fun h=>⟨zB (B3.out (zA (by decide) h)).1,zB (B3.out (zA (by decide) h)).2.1,(B3.out (zA (by decide) h)).2.2⟩),zE HB (Ga w (.cells #[Value.bool (decide (b=1))] 4) none) (by simp),HM.alloc (.cells #[Value.bool (decide (b=1))] 4),HT.kept (Ga w (.cells #[Value.bool (decide (b=1))] 4) none) (by simp)⟩
  case fa5=>rw [ha0];simp only [zL,List.foldl_cons,List.foldl_nil,Act.put,sPa,sPb,sPc]
 case s6 =>
  intro l a w h hun hdep K hK
  obtain ⟨x33,x34,x35,x36,x40,x41,x42,x43,x44,b,vF,nF,xF,vN,nN,xN,vR,nR,xR,ls,c2,c3,ha,HR,H3,H4,H5,H6n,H6,H10n,H10,H11,H12n,H12,H13,H15,B2n,B2,B3n,B3,HB,HM,HT⟩:=h
  have DH5:=H5.out (zK (hdep ⟨5,.data⟩ (by simp) rfl))
  obtain ⟨hd3,g5,rfl,hg5⟩:=DH5
  obtain ⟨rfl,rfl,rfl⟩:=H6n.out hun
  subst ha
  rw [ha0]
  simp only [zL,List.foldl_cons,List.foldl_nil,Act.put,sPa,sPb,sPc]
  refine uV (by simp [Region.wanted]) (.tmp 31) (.tmp 35) 25 rfl wJ 0 g5 1 rfl HM rfl rfl rfl rfl ?g16 ?g26 ?g36 hg5 rfl ?_
  case g16=>show q+1≤maxLen;unfold maxLen;omega
  case g26=>show (q+1) * 1≤140737488355328;omega
  case g36=>exact hbase
  intro sa sc w6 hM6 hg6
  refine hK.out _ _ ?_
  refine ⟨x33,x34,(.slice (some ⟨g5,0,none⟩) 1 1),(.slice sa (q+1) sc),x40,x41,x42,x43,x44,b,(.slice sa (q+1) sc),(q+1),(bls fs ++ [Value.bool (decide (b=1))]),vN,nN,xN,vR,nR,xR,ls,c2,c3,?fa6,fun j hj=>zB (HR j hj),Kh (fun h=>H3.out (zA (by decide) h)),Kh (fun h=>⟨zB (H4.out (zA (by decide) h)).1,(H4.out (zA (by decide) h)).2⟩),Kh (fun _=>⟨zB hd3,g5,rfl,hg5⟩),Kh (fun h=>yB h),Kh (fun _=>⟨zB hd3,sa,sc,rfl,rfl,rfl,rfl⟩),Kh (fun h=>H10n.out (zC h)),Kh (fun h=>H10.out (zA (by decide) h)),Kh (fun h=>⟨zB (H11.out (zA (by decide) h)).1,(H11.out (zA (by decide) h)).2⟩),Kh (fun h=>H12n.out (zC h)),Kh (fun h=>absurd (H12.out (zA (by decide) h)).1 (by rw [hun];simp)),Kh (fun h=>H13.out (zA (by decide) h)),Kh (fun h=>H15.out (zA (by decide) h)),Kh (fun h=>B2n.out (zC h)),Kh (fun h=>absurd (B2.out (zA (by decide) h)).1 (by rw [hun];simp)),Kh (fun h=>B3n.out (zC h)),Kh (fun h=>⟨zB (B3.out (zA (by decide) h)).1,zB (B3.out (zA (by decide) h)).2.1,(B3.out (zA (by decide) h)).2.2⟩),zE HB hg6 (fun e=>HM.not_type HB (by simp) 0 _ rfl e),hM6,HT.kept hg6 (fun k e=>by have:=((HM.own 0 _ rfl).lt k e).1;simp only at this;omega)⟩
  case fa6=>rw [ha0];simp only [zL,List.foldl_cons,List.foldl_nil,Act.put,sPa,sPb,sPc]
 case s7 =>
  exact fun l a w h hun=>absurd (iG h 7 (by simp)) (by rw [hun];simp)
 case s8 =>
  exact fun l a w h hun=>absurd (iG h 8 (by simp)) (by rw [hun];simp)
 case s9 =>
  exact fun l a w h hun=>absurd (iG h 9 (by simp)) (by rw [hun];simp)
 case s10 =>
  intro l a w h hun hdep K hK
  obtain ⟨x33,x34,x35,x36,x40,x41,x42,x43,x44,b,vF,nF,xF,vN,nN,xN,vR,nR,xR,ls,c2,c3,ha,HR,H3,H4,H5,H6n,H6,H10n,H10,H11,H12n,H12,H13,H15,B2n,B2,B3n,B3,HB,HM,HT⟩:=h
  obtain ⟨rfl,rfl,rfl⟩:=H10n.out hun
  subst ha
  rw [ha0]
  simp only [zL,List.foldl_cons,List.foldl_nil,Act.put,sPa,sPb,sPc]
  go_simp
  rw [hmkz.out]
  have hM6:=HM.make (j:=2) rfl hbase (cs:=List.replicate letters (.int .i64 0)) (n:=letters) (by simp) (by unfold maxLen;omega)
  refine hK.out _ _ ?_
  refine ⟨x33,x34,x35,x36,(.slice (some ⟨w.heap.size,0,none⟩) letters letters),x41,x42,x43,x44,b,vF,nF,xF,vN,nN,xN,(.slice (some ⟨w.heap.size,0,none⟩) letters letters),letters,(List.replicate letters (.int .i64 0)),ls,c2,c3,?fa10,fun j hj=>zB (HR j hj),Kh (fun h=>H3.out (zA (by decide) h)),Kh (fun h=>⟨zB (H4.out (zA (by decide) h)).1,(H4.out (zA (by decide) h)).2⟩),Kh (fun h=>⟨zB (H5.out (zA (by decide) h)).1,(H5.out (zA (by decide) h)).2⟩),Kh (fun h=>H6n.out (zC h)),Kh (fun h=>⟨zB (H6.out (zA (by decide) h)).1,(H6.out (zA (by decide) h)).2⟩),Kh (fun h=>yB h),Kh (fun _=>⟨w.heap.size,rfl,rfl,rfl,rfl⟩),Kh (fun h=>absurd (H11.out (zA (by decide) h)).1 (by rw [hun];simp)),Kh (fun h=>H12n.out (zC h)),Kh (fun h=>absurd (H12.out (zA (by decide) h)).2.1 (by rw [hun];simp)),Kh (fun h=>H13.out (zA (by decide) h)),Kh (fun h=>H15.out (zA (by decide) h)),Kh (fun h=>B2n.out (zC h)),Kh (fun h=>⟨zB (B2.out (zA (by decide) h)).1,zB (B2.out (zA (by decide) h)).2.1,(B2.out (zA (by decide) h)).2.2⟩),Kh (fun h=>B3n.out (zC h)),Kh (fun h=>⟨zB (B3.out (zA (by decide) h)).1,zB (B3.out (zA (by decide) h)).2.1,(B3.out (zA (by decide) h)).2.2⟩),zE HB (Ga w (.cells (List.replicate letters (Value.int .i64 0)).toArray 3) none) (by simp),hM6,HT.kept (Ga w (.cells (List.replicate letters (Value.int .i64 0)).toArray 3) none) (by simp)⟩
  case fa10=>rw [ha0];simp only [zL,List.foldl_cons,List.foldl_nil,Act.put,sPa,sPb,sPc]
 case s11 =>
  intro l a w h hun hdep K hK
  obtain ⟨x33,x34,x35,x36,x40,x41,x42,x43,x44,b,vF,nF,xF,vN,nN,xN,vR,nR,xR,ls,c2,c3,ha,HR,H3,H4,H5,H6n,H6,H10n,H10,H11,H12n,H12,H13,H15,B2n,B2,B3n,B3,HB,HM,HT⟩:=h
  have DH10:=H10.out (zK (hdep ⟨10,.data⟩ (by simp) rfl))
  obtain ⟨g10,rfl,rfl,rfl,rfl⟩:=DH10
  subst ha
  rw [ha0]
  simp only [zL,List.foldl_cons,List.foldl_nil,Act.put,sPa,sPb,sPc]
  go_simp
  refine hK.out _ _ ?_
  refine ⟨x33,x34,x35,x36,(Value.slice (some ⟨g10,0,none⟩) letters letters),(.slice (some ⟨w.heap.size,0,none⟩) 1 1),x42,x43,x44,b,vF,nF,xF,vN,nN,xN,(Value.slice (some ⟨g10,0,none⟩) letters letters),letters,(List.replicate letters (.int .i64 0)),((w.heap.size,Obj.cells #[Value.slice (some ⟨g10,0,none⟩) letters letters] 22 (0,0)) :: ls),c2,c3,?fa11,fun j hj=>zB (HR j hj),Kh (fun h=>H3.out (zA (by decide) h)),Kh (fun h=>⟨zB (H4.out (zA (by decide) h)).1,(H4.out (zA (by decide) h)).2⟩),Kh (fun h=>⟨zB (H5.out (zA (by decide) h)).1,let ⟨g,h1,h2⟩:=(H5.out (zA (by decide) h)).2;⟨g,h1,List.Mem.tail _ h2⟩⟩),Kh (fun h=>H6n.out (zC h)),Kh (fun h=>⟨zB (H6.out (zA (by decide) h)).1,(H6.out (zA (by decide) h)).2⟩),Kh (fun h=>H10n.out (zC h)),Kh (fun _=>⟨g10,rfl,rfl,rfl,rfl⟩),Kh (fun _=>⟨zB (zK (hdep ⟨10,.data⟩ (by simp) rfl)),w.heap.size,rfl,List.Mem.head _⟩),Kh (fun h=>H12n.out (zC h)),Kh (fun h=>⟨zB (H12.out (zA (by decide) h)).1,zB (H12.out (zA (by decide) h)).2.1,(H12.out (zA (by decide) h)).2.2⟩),Kh (fun h=>H13.out (zA (by decide) h)),Kh (fun h=>H15.out (zA (by decide) h)),Kh (fun h=>B2n.out (zC h)),Kh (fun h=>⟨zB (B2.out (zA (by decide) h)).1,zB (B2.out (zA (by decide) h)).2.1,(B2.out (zA (by decide) h)).2.2⟩),Kh (fun h=>B3n.out (zC h)),Kh (fun h=>⟨zB (B3.out (zA (by decide) h)).1,zB (B3.out (zA (by decide) h)).2.1,(B3.out (zA (by decide) h)).2.2⟩),zE HB (Ga w (.cells #[Value.slice (some ⟨g10,0,none⟩) letters letters] 22) none) (by simp),HM.alloc (.cells #[Value.slice (some ⟨g10,0,none⟩) letters letters] 22),HT.kept (Ga w (.cells #[Value.slice (some ⟨g10,0,none⟩) letters letters] 22) none) (by simp)⟩
  case fa11=>rw [ha0];simp only [zL,List.foldl_cons,List.foldl_nil,Act.put,sPa,sPb,sPc]
 case s12 =>
  intro l a w h hun hdep K hK
  obtain ⟨x33,x34,x35,x36,x40,x41,x42,x43,x44,b,vF,nF,xF,vN,nN,xN,vR,nR,xR,ls,c2,c3,ha,HR,H3,H4,H5,H6n,H6,H10n,H10,H11,H12n,H12,H13,H15,B2n,B2,B3n,B3,HB,HM,HT⟩:=h
  have DH11:=H11.out (zK (hdep ⟨11,.data⟩ (by simp) rfl))
  have DH6:=H6.out (zK (hdep ⟨6,.chain⟩ (by simp) rfl))
  obtain ⟨hd10,g5,rfl,hg5⟩:=DH11
  obtain ⟨g10,rfl,e40,rfl,rfl⟩:=H10.out hd10
  obtain ⟨rfl,rfl,rfl⟩:=H12n.out hun
  subst ha
  rw [ha0]
  simp only [zL,List.foldl_cons,List.foldl_nil,Act.put,sPa,sPb,sPc]
  refine uV (by simp [Region.wanted]) (.tmp 38) (.tmp 41) 26 rfl vO 1 g5 1 rfl HM rfl rfl rfl rfl ?g112 ?g212 ?g312 hg5 rfl ?_
  case g112=>show q+1≤maxLen;unfold maxLen;omega
  case g212=>show (q+1) * 24≤140737488355328;omega
  case g312=>exact hbase
  intro sa sc w6 hM6 hg6
  refine hK.out _ _ ?_
  refine ⟨x33,x34,x35,x36,x40,(.slice (some ⟨g5,0,none⟩) 1 1),(.slice sa (q+1) sc),x43,x44,b,vF,nF,xF,(.slice sa (q+1) sc),(q+1),(hs ++ [Value.slice (some ⟨g10,0,none⟩) letters letters]),(Value.slice (some ⟨g10,0,none⟩) letters letters),letters,(List.replicate letters (.int .i64 0)),ls,c2,c3,?fa12,fun j hj=>zB (HR j hj),Kh (fun h=>H3.out (zA (by decide) h)),Kh (fun h=>⟨zB (H4.out (zA (by decide) h)).1,(H4.out (zA (by decide) h)).2⟩),Kh (fun h=>⟨zB (H5.out (zA (by decide) h)).1,(H5.out (zA (by decide) h)).2⟩),Kh (fun h=>H6n.out (zC h)),Kh (fun h=>⟨zB (H6.out (zA (by decide) h)).1,(H6.out (zA (by decide) h)).2⟩),Kh (fun h=>H10n.out (zC h)),Kh (fun _=>⟨g10,rfl,e40,rfl,rfl⟩),Kh (fun _=>⟨zB hd10,g5,rfl,hg5⟩),Kh (fun h=>yB h),Kh (fun _=>⟨zB (zK (hdep ⟨6,.chain⟩ (by simp) rfl)),zB hd10,sa,sc,rfl,rfl,rfl,rfl⟩),Kh (fun h=>H13.out (zA (by decide) h)),Kh (fun h=>H15.out (zA (by decide) h)),Kh (fun h=>B2n.out (zC h)),Kh (fun h=>absurd (B2.out (zA (by decide) h)).2.1 (by rw [hun];simp)),Kh (fun h=>B3n.out (zC h)),Kh (fun h=>absurd (B3.out (zA (by decide) h)).1 (by rw [hun];simp)),zE HB hg6 (fun e=>HM.not_type HB (by simp) 1 _ rfl e),hM6,HT.kept hg6 (fun k e=>by have:=((HM.own 1 _ rfl).lt k e).1;simp only at this;omega)⟩
  case fa12=>rw [ha0];simp only [zL,List.foldl_cons,List.foldl_nil,Act.put,sPa,sPb,sPc]
 case s13 =>
  intro l a w h hun hdep K hK
  obtain ⟨x33,x34,x35,x36,x40,x41,x42,x43,x44,b,vF,nF,xF,vN,nN,xN,vR,nR,xR,ls,c2,c3,ha,HR,H3,H4,H5,H6n,H6,H10n,H10,H11,H12n,H12,H13,H15,B2n,B2,B3n,B3,HB,HM,HT⟩:=h
  subst ha
  rw [ha0]
  simp only [zL,List.foldl_cons,List.foldl_nil,Act.put,sPa,sPb,sPc]
  go_simp
  refine hK.out _ _ ?_
  refine ⟨x33,x34,x35,x36,x40,x41,x42,(.pointer (some ⟨P+1,2,none⟩)),x44,b,vF,nF,xF,vN,nN,xN,vR,nR,xR,ls,c2,c3,?fa13,fun j hj=>zB (HR j hj),Kh (fun h=>H3.out (zA (by decide) h)),Kh (fun h=>⟨zB (H4.out (zA (by decide) h)).1,(H4.out (zA (by decide) h)).2⟩),Kh (fun h=>⟨zB (H5.out (zA (by decide) h)).1,(H5.out (zA (by decide) h)).2⟩),Kh (fun h=>H6n.out (zC h)),Kh (fun h=>⟨zB (H6.out (zA (by decide) h)).1,(H6.out (zA (by decide) h)).2⟩),Kh (fun h=>H10n.out (zC h)),Kh (fun h=>H10.out (zA (by decide) h)),Kh (fun h=>⟨zB (H11.out (zA (by decide) h)).1,(H11.out (zA (by decide) h)).2⟩),Kh (fun h=>H12n.out (zC h)),Kh (fun h=>⟨zB (H12.out (zA (by decide) h)).1,zB (H12.out (zA (by decide) h)).2.1,(H12.out (zA (by decide) h)).2.2⟩),Kh (fun _=>rfl),Kh (fun h=>H15.out (zA (by decide) h)),Kh (fun h=>B2n.out (zC h)),Kh (fun h=>⟨zB (B2.out (zA (by decide) h)).1,zB (B2.out (zA (by decide) h)).2.1,(B2.out (zA (by decide) h)).2.2⟩),Kh (fun h=>B3n.out (zC h)),Kh (fun h=>⟨zB (B3.out (zA (by decide) h)).1,zB (B3.out (zA (by decide) h)).2.1,(B3.out (zA (by decide) h)).2.2⟩),HB,HM,HT⟩
  case fa13=>rw [ha0];simp only [zL,List.foldl_cons,List.foldl_nil,Act.put,sPa,sPb,sPc]
 case s14 =>
  intro l a w h hun hdep K hK
  obtain ⟨x33,x34,x35,x36,x40,x41,x42,x43,x44,b,vF,nF,xF,vN,nN,xN,vR,nR,xR,ls,c2,c3,ha,HR,H3,H4,H5,H6n,H6,H10n,H10,H11,H12n,H12,H13,H15,B2n,B2,B3n,B3,HB,HM,HT⟩:=h
  have DH13:=H13.out (zK (hdep ⟨13,.data⟩ (by simp) rfl))
  have DH6:=H6.out (zK (hdep ⟨6,.data⟩ (by simp) rfl))
  have DH12:=H12.out (zK (hdep ⟨12,.chain⟩ (by simp) rfl))
  subst DH13
  obtain ⟨hd3,sa,sc,rfl,rfl,rfl,rfl⟩:=DH6
  have hd6:=zK (hdep ⟨6,.data⟩ (by simp) rfl)
  subst ha
  rw [ha0]
  simp only [zL,List.foldl_cons,List.foldl_nil,Act.put,sPa,sPb,sPc]
  obtain ⟨k0,k1,k2,k3⟩:=zR HB
  have kf:=zD HB 2
  clear k0 k1
  go_simp
  have hg6:=zH w ⟨P+1,2,none⟩ (.slice sa (q+1) sc)
  have hs6:=heap_setCell_same w (P+1) 2 _ _ (.slice sa (q+1) sc) HB
  refine hK.out _ _ ?_
  refine ⟨x33,x34,x35,(.slice sa (q+1) sc),x40,x41,x42,(.pointer (some ⟨P+1,2,none⟩)),x44,b,(.slice sa (q+1) sc),(q+1),(bls fs ++ [Value.bool (decide (b=1))]),vN,nN,xN,vR,nR,xR,ls,(.slice sa (q+1) sc),c3,?fa14,fun j hj=>zB (HR j hj),Kh (fun h=>H3.out (zA (by decide) h)),Kh (fun h=>⟨zB (H4.out (zA (by decide) h)).1,(H4.out (zA (by decide) h)).2⟩),Kh (fun h=>⟨zB (H5.out (zA (by decide) h)).1,(H5.out (zA (by decide) h)).2⟩),Kh (fun h=>by rw [zB hd6] at h;cases h),Kh (fun _=>⟨zB hd3,sa,sc,rfl,rfl,rfl,rfl⟩),Kh (fun h=>H10n.out (zC h)),Kh (fun h=>H10.out (zA (by decide) h)),Kh (fun h=>⟨zB (H11.out (zA (by decide) h)).1,(H11.out (zA (by decide) h)).2⟩),Kh (fun h=>H12n.out (zC h)),Kh (fun h=>⟨zB (H12.out (zA (by decide) h)).1,zB (H12.out (zA (by decide) h)).2.1,(H12.out (zA (by decide) h)).2.2⟩),Kh (fun _=>rfl),Kh (fun h=>H15.out (zA (by decide) h)),Kh (fun h=>yB h),Kh (fun _=>⟨zB (zK (hdep ⟨6,.data⟩ (by simp) rfl)),zB (zK (hdep ⟨12,.chain⟩ (by simp) rfl)),rfl⟩),Kh (fun h=>B3n.out (zC h)),Kh (fun h=>absurd (B3.out (zA (by decide) h)).2.1 (by rw [hun];simp)),(by simpa using hs6),HM.far hg6 (by rw [HFF];exact Or.inr (Or.inr rfl)) hQW (HM.not_type HB (by simp)),HT.kept hg6 (fun k e=>by have e:P+1=k:=Oj e;omega)⟩
  case fa14=>rw [ha0];simp only [zL,List.foldl_cons,List.foldl_nil,Act.put,sPa,sPb,sPc]
 case s15 =>
  intro l a w h hun hdep K hK
  obtain ⟨x33,x34,x35,x36,x40,x41,x42,x43,x44,b,vF,nF,xF,vN,nN,xN,vR,nR,xR,ls,c2,c3,ha,HR,H3,H4,H5,H6n,H6,H10n,H10,H11,H12n,H12,H13,H15,B2n,B2,B3n,B3,HB,HM,HT⟩:=h
  subst ha
  rw [ha0]
  simp only [zL,List.foldl_cons,List.foldl_nil,Act.put,sPa,sPb,sPc]
  go_simp
  refine hK.out _ _ ?_
  refine ⟨x33,x34,x35,x36,x40,x41,x42,x43,(.pointer (some ⟨P+1,3,none⟩)),b,vF,nF,xF,vN,nN,xN,vR,nR,xR,ls,c2,c3,?fa15,fun j hj=>zB (HR j hj),Kh (fun h=>H3.out (zA (by decide) h)),Kh (fun h=>⟨zB (H4.out (zA (by decide) h)).1,(H4.out (zA (by decide) h)).2⟩),Kh (fun h=>⟨zB (H5.out (zA (by decide) h)).1,(H5.out (zA (by decide) h)).2⟩),Kh (fun h=>H6n.out (zC h)),Kh (fun h=>⟨zB (H6.out (zA (by decide) h)).1,(H6.out (zA (by decide) h)).2⟩),Kh (fun h=>H10n.out (zC h)),Kh (fun h=>H10.out (zA (by decide) h)),Kh (fun h=>⟨zB (H11.out (zA (by decide) h)).1,(H11.out (zA (by decide) h)).2⟩),Kh (fun h=>H12n.out (zC h)),Kh (fun h=>⟨zB (H12.out (zA (by decide) h)).1,zB (H12.out (zA (by decide) h)).2.1,(H12.out (zA (by decide) h)).2.2⟩),Kh (fun h=>H13.out (zA (by decide) h)),Kh (fun _=>rfl),Kh (fun h=>B2n.out (zC h)),Kh (fun h=>⟨zB (B2.out (zA (by decide) h)).1,zB (B2.out (zA (by decide) h)).2.1,(B2.out (zA (by decide) h)).2.2⟩),Kh (fun h=>B3n.out (zC h)),Kh (fun h=>⟨zB (B3.out (zA (by decide) h)).1,zB (B3.out (zA (by decide) h)).2.1,(B3.out (zA (by decide) h)).2.2⟩),HB,HM,HT⟩
  case fa15=>rw [ha0];simp only [zL,List.foldl_cons,List.foldl_nil,Act.put,sPa,sPb,sPc]
 case s16 =>
  intro l a w h hun hdep K hK
  obtain ⟨x33,x34,x35,x36,x40,x41,x42,x43,x44,b,vF,nF,xF,vN,nN,xN,vR,nR,xR,ls,c2,c3,ha,HR,H3,H4,H5,H6n,H6,H10n,H10,H11,H12n,H12,H13,H15,B2n,B2,B3n,B3,HB,HM,HT⟩:=h
  have DH15:=H15.out (zK (hdep ⟨15,.data⟩ (by simp) rfl))
  have DH12:=H12.out (zK (hdep ⟨12,.data⟩ (by simp) rfl))
  have DB2:=B2.out (zK (hdep ⟨14,.chain⟩ (by simp) rfl))
  subst DH15
  obtain ⟨hd6,hd10,sa,sc,rfl,rfl,rfl,rfl⟩:=DH12
  have hd12:=zK (hdep ⟨12,.data⟩ (by simp) rfl)
  subst ha
  rw [ha0]
  simp only [zL,List.foldl_cons,List.foldl_nil,Act.put,sPa,sPb,sPc]
  obtain ⟨k0,k1,k2,k3⟩:=zR HB
  have kf:=zD HB 3
  clear k0 k1
  go_simp
  have hg6:=zH w ⟨P+1,3,none⟩ (.slice sa (q+1) sc)
  have hs6:=heap_setCell_same w (P+1) 3 _ _ (.slice sa (q+1) sc) HB
  refine hK.out _ _ ?_
  refine ⟨x33,x34,x35,x36,x40,x41,(.slice sa (q+1) sc),x43,(.pointer (some ⟨P+1,3,none⟩)),b,vF,nF,xF,(.slice sa (q+1) sc),(q+1),(hs ++ [vR]),vR,nR,xR,ls,c2,(.slice sa (q+1) sc),?fa16,fun j hj=>zB (HR j hj),Kh (fun h=>H3.out (zA (by decide) h)),Kh (fun h=>⟨zB (H4.out (zA (by decide) h)).1,(H4.out (zA (by decide) h)).2⟩),Kh (fun h=>⟨zB (H5.out (zA (by decide) h)).1,(H5.out (zA (by decide) h)).2⟩),Kh (fun h=>H6n.out (zC h)),Kh (fun h=>⟨zB (H6.out (zA (by decide) h)).1,(H6.out (zA (by decide) h)).2⟩),Kh (fun h=>H10n.out (zC h)),Kh (fun h=>H10.out (zA (by decide) h)),Kh (fun h=>⟨zB (H11.out (zA (by decide) h)).1,(H11.out (zA (by decide) h)).2⟩),Kh (fun h=>by rw [zB hd12] at h;cases h),Kh (fun _=>⟨zB hd6,zB hd10,sa,sc,rfl,rfl,rfl,rfl⟩),Kh (fun h=>H13.out (zA (by decide) h)),Kh (fun _=>rfl),Kh (fun h=>B2n.out (zC h)),Kh (fun h=>⟨zB (B2.out (zA (by decide) h)).1,zB (B2.out (zA (by decide) h)).2.1,(B2.out (zA (by decide) h)).2.2⟩),Kh (fun h=>yB h),Kh (fun _=>⟨zB (zK (hdep ⟨12,.data⟩ (by simp) rfl)),zB (zK (hdep ⟨14,.chain⟩ (by simp) rfl)),rfl⟩),(by simpa using hs6),HM.far hg6 (by rw [HFF];exact Or.inr (Or.inr rfl)) hQW (HM.not_type HB (by simp)),HT.kept hg6 (fun k e=>by have e:P+1=k:=Oj e;omega)⟩
  case fa16=>rw [ha0];simp only [zL,List.foldl_cons,List.foldl_nil,Act.put,sPa,sPb,sPc]
set_option maxRecDepth 100000 in
set_option maxHeartbeats 20000000 in
theorem aM (B tb:Nat) (w:World) (letters most:Nat) (h1:1≤letters) (h6:letters≤6) (hm1:1≤most) (hm:most≤500) (hT:wD B w tb) :
  Calls Tryd.prog 14 #[.pointer (some ⟨tb,0,none⟩),.int .i64 (letters:Int),.int .i64 (most:Int)] w (lF qDN B tb w letters most):=by
 have htb:=hT.lt
 have hBt:=hT.ge
 obtain ⟨wA,hWA⟩:∃ wA,wA=(w.alloc (.cells #[.int .i64 0,.int .i64 0,.slice none 0 0,.slice none 0 0] 28)).alloc (.cells #[.int .i64 letters,.int .i64 0,.slice none 0 0,.slice none 0 0] 28):=⟨_,rfl⟩
 obtain ⟨hb1,hb2,hgA,hzA⟩:=qQ w #[.int .i64 0,.int .i64 0,.slice none 0 0,.slice none 0 0] #[.int .i64 letters,.int .i64 0,.slice none 0 0,.slice none 0 0] 28
 rw [← hWA] at hb1 hb2 hgA hzA
 obtain ⟨P,hP⟩:∃ P,P=w.heap.size:=⟨_,rfl⟩
 have HPE:=Kh hP
 rw [← hP] at hb1 hb2 hzA htb
 have hTA:=hT.kept hgA (by simp)
 have HB1:=Kh hb1;have HB2:=Kh hb2;have HGA:=Kh hgA;have HWA:=Kh hWA;have HTA:=Kh hTA
 clear hb1 hb2 hgA hWA hTA hT
 go_enter Tryd.func14,Tryd.ntmps14
 go_upto_region 2 with fail
 rw [← HWA.out,← HPE.out]
 clear hP
 go_wp2_with fail
 refine (tN B tb _ _ (by omega) HTA.out).mono ?_
 rintro e w1 ⟨r,rfl,hr0,hr1,hT1,hg1⟩
 replace hr1:=hr1 (by omega)
 obtain ⟨n,rfl⟩:∃ n:Nat,r=(n:Int) - 1:=⟨(r+1).toNat,by omega⟩
 have hn1:1≤n:=by omega
 have hn2:n≤most:=by omega
 have hn0:(1:Int)+((n:Int) - 1)=n:=by omega
 have HT1:=Kh hT1;have HG1:=Kh hg1;have HN0:=Kh hn0
 clear hr0 hr1 hT1 hg1
 go_wp2_with fail
 refine (tN B tb _ _ (by omega) HT1.out).mono ?_
 rintro e w2 ⟨s,rfl,hs0,hs1,hT2,hg2⟩
 replace hs1:=hs1 (by omega)
 obtain ⟨s,rfl⟩:∃ s':Nat,s=s':=⟨s.toNat,by omega⟩
 have hg12:=zF HG1.out hg2
 have hbo:=zE HB2.out hg12 (by simp;omega)
 obtain ⟨c0,c1,c2,c3⟩:=zR hbo
 have f1:=frozen_of_row w2 (P+1) 1 _ _ hbo
 have HT2:=Kh hT2;have HG2:=Kh hg12
 clear hT2 hg2 hg12 HT1 HG1
 go_wp2
 obtain ⟨w3,hw3⟩:∃ w3,w3=w2.setCell ⟨P+1,1,none⟩ (.int .i64 (s:Int)):=⟨_,rfl⟩
 have hb3:w3.heap[P+1]?=some (.cells #[.int .i64 (letters:Int),.int .i64 (s:Int),.slice none 0 0,.slice none 0 0] 28 (0,0)):=by rw [hw3,heap_setCell_same w2 (P+1) 1 _ _ _ hbo];simp
 have hg3:w2.grownBy w3 (some (P+1)):=by rw [hw3];exact zH w2 ⟨P+1,1,none⟩ _
 have hb31:=zE (zE HB1.out HG2.out (by simp;omega)) hg3 (by simp)
 have hT3:=HT2.out.kept hg3 (fun k e=>by have:=Oj e;subst this;omega)
 have hgw:w.grownBy w3 (some tb):=zG (zF (zG (zW w (some tb)) HGA.out (by simp)) HG2.out) hg3 (fun x e=>by have:=Oj e;have:=HPE.out;omega)
 have hH3:Half (P+1) w3 (P+1) letters s [] [] [] none 0 none 0:=⟨hb3,World.ownsRow_nil _ _ _ _,World.ownsRow_nil _ _ _ _,OwnsT.nil⟩
 have H3:=Kh hH3;have HB3:=Kh hb31;have HT3:=Kh hT3;have HG3:=Kh hgw
 rw [← hw3]
 clear hw3 hb3 hg3 hb31 hT3 hgw hH3 c0 c1 c2 c3 f1 hbo HT2 HG2
 have hmk:=mk_int letters (by omega)
 have hmkz:Hid (madeCells #[.int .i64 0] letters=(List.replicate letters (Value.int .i64 0)).toArray):=Kh (by
  apply Array.toList_inj.1
  rw [gX];simp [nats])
 go_loopg [9] n (fun gh i wr=>∃ (q:Nat) (fs:List Bool) (t:List (List Int)) (hs:List Value) (sf:Option Addr) (cf:Nat) (sn:Option Addr) (cn:Nat),gh+q=n∧i=.int .i64 q∧fs.length=q∧t.length=q∧pL t n letters∧Half (P+1) wr (P+1) letters s fs t hs sf cf sn cn∧wD B wr tb∧wr.heap[P]?=some (.cells #[.int .i64 0,.int .i64 0,.slice none 0 0,.slice none 0 0] 28 (0,0))∧w.grownBy wr (some tb))
 case atStart=>exact ⟨0,[],[],[],none,0,none,0,by omega,rfl,rfl,rfl,(fun r hr=>by simp at hr),H3.out,HT3.out,HB3.out,HG3.out⟩
 case round =>
  obtain ⟨q,fs,t,hs,sf,cf,sn,cn,hg,rfl,hfl,htl,hri,hH,hTr,hb1r,hgr⟩:=hrel
  have HG:=Kh hg;have HTR:=Kh hTr;have HB1R:=Kh hb1r;have HGR:=Kh hgr;have HRI:=Kh hri;have HFL:=Kh hfl;have HTL:=Kh htl;have HH:=Kh hH
  clear hg hTr hb1r hgr hri hfl htl hH H3 HB3 HT3 HG3
  by_cases hq:q < n
  ·have hq':(q:Int) < n:=by omega
   obtain ⟨w5,hw5⟩:∃ w5,w5=wr.drew:=⟨_,rfl⟩
   have hg5:wr.grownBy w5 none:=by rw [hw5];exact zT wr none
   have HW5:=Kh hw5
   have HH5:=Kh (HH.out.grow hg5);have HT5:=Kh (HTR.out.kept hg5 (by simp));have HG5:=Kh (zG HGR.out hg5 (by simp));have HB1:=Kh (zE HB1R.out hg5 (by simp))
   have HB5:Hid (w5.heap[P+1]?=some (.cells #[.int .i64 letters,.int .i64 s,.slice sf q cf,.slice sn q cn] 28 (0,0))):=Kh (by have:=HH5.out.box;rw [HFL.out,HTL.out] at this;exact this)
   obtain ⟨d0,d1,d2,d3⟩:=zR HB5.out
   have C:=Kh (And.intro d2 d3)
   have hQs:=zQ HB5.out
   have htW:Hid (tb < w5.heap.size):=Kh (by omega)
   have hQW:Hid (P+1 < w5.heap.size):=Kh hQs
   have hbase:Hid (P+1≤w5.heap.size):=Kh (by omega)
   obtain ⟨FF,hFF⟩:∃ FF:Nat→Prop,FF=fun k=>FB sf sn k∨k=tb∨k=P+1:=⟨_,rfl⟩
   have HM5:Hid (Many w5 FF w5 [⟨P+1,4,.slice sf q cf,q,bls fs,1⟩,⟨P+1,22,.slice sn q cn,q,hs,1⟩,⟨P+1,3,.slice none 0 0,0,[],1⟩] [] []):=Kh (by
    have hF:=HH5.out.ownF
    have hN:=HH5.out.ownN
    rw [HFL.out] at hF
    rw [HTL.out] at hN
    refine Many.start (fun r hr=>?_) (fun r hr k hk=>?_) ?_
    ·simp only [List.mem_cons,List.not_mem_nil,or_false] at hr
     rcases hr with rfl|rfl|rfl
     ·exact hF
     ·exact hN
     ·exact World.ownsRow_nil _ _ _ _
    ·simp only [List.mem_cons,List.not_mem_nil,or_false] at hr
     rw [hFF]
     rcases hr with rfl|rfl|rfl
     ·exact .inl (.inr (by rw [← yW sf q cf];exact hk))
     ·exact .inl (.inl (by rw [← yW sn q cn];exact hk))
     ·simp [Value.ownBlock] at hk
    ·simp only [List.pairwise_cons,List.mem_cons,List.not_mem_nil,or_false,forall_eq_or_imp,forall_eq]
     exact ⟨⟨own_apart hF hN (by decide),by simp [Value.ownBlock]⟩,by simp [Value.ownBlock],by simp,List.Pairwise.nil⟩)
   clear d0 d1 d2 d3 hw5 hg5
   have HFF:=Kh hFF
   clear hFF
   go_upto_region 7 with fail
   refine wp_region_noPanic ?_
   refine yY (G:=vV 14 (fun _=>True) (fun W=>W.cell? ⟨P+1,2,none⟩=some (.slice sf q cf)∧W.cell? ⟨P+1,3,none⟩=some (.slice sn q cn))) (by kernel_rfl) ?_
   rw [← HW5.out]
   refine takeC (i:=0) (v:=?_) rfl rfl (Or.inl ⟨by rfl,?_⟩) ⟨trivial,fun _=>C.out⟩ ?_
   rotate_left
   ·(intro wz hz;(try dsimp only at hz);go_simp;(try with_reducible rfl))
   try simp only [Act.put,sPa,sPb,sPc]
   refine takeD (i:=1) (v:=?_) rfl rfl (Or.inl ⟨by rfl,?_⟩) ⟨trivial,fun _=>C.out⟩ ?_
   rotate_left
   ·(rintro wz ⟨-,hz⟩;(try dsimp only at hz);go_simp;(try with_reducible rfl))
   try simp only [Act.put,sPa,sPb,sPc]
   refine takeC (i:=2) (v:=?_) rfl rfl (Or.inl ⟨by rfl,?_⟩) ⟨trivial,fun _=>C.out⟩ ?_
   rotate_left
   ·(intro wz hz;(try dsimp only at hz);go_simp;(try with_reducible rfl))
   try simp only [Act.put,sPa,sPb,sPc]
   refine takeC (i:=7) (v:=?_) rfl rfl (Or.inl ⟨by rfl,?_⟩) ⟨trivial,fun _=>C.out⟩ ?_
   rotate_left
   ·(intro wz hz;(try dsimp only at hz);go_simp;(try with_reducible rfl))
   try simp only [Act.put,sPa,sPb,sPc]
   refine takeD (i:=8) (v:=?_) rfl rfl (Or.inl ⟨by rfl,?_⟩) ⟨trivial,fun _=>C.out⟩ ?_
   rotate_left
   ·(rintro wz ⟨-,hz⟩;(try dsimp only at hz);go_simp;(try with_reducible rfl))
   try simp only [Act.put,sPa,sPb,sPc]
   refine takeC (i:=9) (v:=?_) rfl rfl (Or.inl ⟨by rfl,?_⟩) ⟨trivial,fun _=>C.out⟩ ?_
   rotate_left
   ·(intro wz hz;(try dsimp only at hz);go_simp;(try with_reducible rfl))
   try simp only [Act.put,sPa,sPb,sPc]
   refine tF (fun Wp hWp a0 ha0=>?_)
   subst hWp
   simp only [Act.put,List.getElem_toArray,List.getElem_cons_zero,List.getElem_cons_succ,sPa,sPb,sPc] at ha0
   have HA0:=Kh ha0
   refine tE (I:=perm7I B tb P letters q s fs hs sf cf sn cn w5 FF a0) (fun l a w h=>perm7_G h) (perm7_steps ha0 hBt htb h6 (by omega) htW.out hQW.out hbase.out HFF.out hmk hmkz) (by kernel_rfl) ?hend (by decide +kernel) ?hinit
   case hinit =>
    clear ha0
    refine ⟨a0.tmps.getD 33 undef,a0.tmps.getD 34 undef,a0.tmps.getD 35 undef,a0.tmps.getD 36 undef,a0.tmps.getD 40 undef,a0.tmps.getD 41 undef,a0.tmps.getD 42 undef,a0.tmps.getD 43 undef,a0.tmps.getD 44 undef,0,.slice sf q cf,q,bls fs,.slice sn q cn,q,hs,.slice none 0 0,0,[],[],.slice sf q cf,.slice sn q cn,(uI (by simp)).symm,by decide +kernel,Kh (fun h=>absurd h (by decide +kernel)),Kh (fun h=>absurd h (by decide +kernel)),Kh (fun h=>absurd h (by decide +kernel)),Kh (fun _=>⟨rfl,rfl,rfl⟩),Kh (fun h=>absurd h (by decide +kernel)),Kh (fun _=>⟨rfl,rfl,rfl⟩),Kh (fun h=>absurd h (by decide +kernel)),Kh (fun h=>absurd h (by decide +kernel)),Kh (fun _=>⟨rfl,rfl,rfl⟩),Kh (fun h=>absurd h (by decide +kernel)),Kh (fun h=>absurd h (by decide +kernel)),Kh (fun h=>absurd h (by decide +kernel)),Kh (fun _=>rfl),Kh (fun h=>absurd h (by decide +kernel)),Kh (fun _=>rfl),Kh (fun h=>absurd h (by decide +kernel)),HB5.out,HM5.out,HT5.out⟩
   case hend =>
    clear ha0
    intro l a w h hall
    obtain ⟨x33,x34,x35,x36,x40,x41,x42,x43,x44,b,vF,nF,xF,vN,nN,xN,vR,nR,xR,ls,c2,c3,ha,HR,H3,H4,H5,H6n,H6,H10n,H10,H11,H12n,H12,H13,H15,B2n,B2,B3n,B3,HB,HM,HT⟩:=h
    have H3:=H3.out (hall 3 (by decide))
    have H4:=H4.out (hall 4 (by decide))
    have H5:=H5.out (hall 5 (by decide))
    have H6:=H6.out (hall 6 (by decide))
    have H10:=H10.out (hall 10 (by decide))
    have H11:=H11.out (hall 11 (by decide))
    have H12:=H12.out (hall 12 (by decide))
    have H13:=H13.out (hall 13 (by decide))
    have H15:=H15.out (hall 15 (by decide))
    have B2:=B2.out (hall 14 (by decide))
    have B3:=B3.out (hall 16 (by decide))
    have H6:=H6.2
    have H12:=H12.2.2
    obtain ⟨sa,sc,rfl,rfl,hq6,rfl⟩:=H6
    obtain ⟨g10,rfl,rfl,hq10,rfl⟩:=H10
    obtain ⟨sa2,sc2,rfl,rfl,hq12,rfl⟩:=H12
    subst hq6;subst hq10;subst hq12
    have e2:=B2.2.2;have e3:=B3.2.2
    rw [e2,e3] at HB
    have hoth:∀ k,FF k→wK w5 3 k:=by
     intro k hk
     rw [HFF.out] at hk
     rcases hk with (hk|hk)|rfl|rfl
     ·exact tU HH5.out.ownN (by decide) k (by rw [yW];exact hk)
     ·exact tU HH5.out.ownF (by decide) k (by rw [yW];exact hk)
     ·obtain ⟨sl,zs,j,hr,_⟩:=HT5.out
      exact ⟨_,_,_,hr,by decide⟩
     ·exact ⟨_,_,_,HB5.out,by decide⟩
    have hge:∀ k,FF k→k=tb∨P+1≤k:=by
     intro k hk
     rw [HFF.out] at hk
     rcases hk with (hk|hk)|rfl|rfl
     ·exact .inr (HH5.out.ownN.lt k (by rw [yW];exact hk)).1
     ·exact .inr (HH5.out.ownF.lt k (by rw [yW];exact hk)).1
     ·exact .inl rfl
     ·exact .inr (Nat.le_refl _)
    have hHW:=HH5.out.ofMany HFL.out HTL.out (row:=List.replicate letters 0) (k:=letters) (by simp) (by simpa [ints] using HM) hoth HB
    have HHW:=Kh hHW;have HTW:=Kh HT
    have HGW:=Kh (HM.but.grown HG5.out (fun k hk=>by
     rcases hge k hk with e|e
     ·exact .inl (by rw [e])
     ·exact .inr (by have:=HPE.out;omega)))
    have HBW:=Kh (HM.but.heap HB1.out (fun hk=>by
     rcases hge P hk with e|e
     ·omega
     ·omega))
    clear hHW HM HB HT hoth hge e2 e3 B2 B3 H3 H4 H5 H11 H13 H15 B2n B3n H6n H10n H12n HR
    subst ha
    rw [HA0.out]
    simp only [zL,List.foldl_cons,List.foldl_nil,Act.put,sPa,sPb,sPc]
    refine NoPanic.normal ?_
    go_wp2
    go_roundg (n - (q+1))
    case measure=>have:=HG.out;omega
    case rel =>
     refine ⟨q+1,fs ++ [decide (b=1)],t ++ [List.replicate letters 0],_,sa,sc,sa2,sc2,by omega,by go_num,by simp [HFL.out],by simp [HTL.out],?_,HHW.out,HTW.out,HBW.out,HGW.out⟩
     intro r hr
     rcases List.mem_append.1 hr with hr|hr
     ·exact HRI.out r hr
     ·rw [List.mem_singleton] at hr
      subst hr
      exact ⟨by simp,fun x hx=>by rw [List.mem_replicate] at hx;omega⟩
   
  ·have hqn:q=n:=by have:=HG.out;omega
   subst hqn
   clear HG hmk hmkz
   obtain ⟨wo,hwo⟩:∃ wo,wo=wr:=⟨_,rfl⟩
   rw [← hwo] at HTR HB1R HGR HH ⊢
   clear hwo wr
   go_wp2
   go_loopg [10,11,12,13,14] letters (fun gh ia v11 v12 v13 v14 wr=>∃ (a:Nat) (t:List (List Int)),gh+a=letters∧ia=.int .i64 a∧t.length=q∧pL t q letters∧(∀ a',a' < a→∀ q1 q2,q1 < q→q2 < q→ent t q1 a'=ent t q2 a'→q1=q2)∧Half (P+1) wr (P+1) letters s fs t hs sf cf sn cn∧wD B wr tb∧wr.heap[P]?=some (.cells #[.int .i64 0,.int .i64 0,.slice none 0 0,.slice none 0 0] 28 (0,0))∧w.grownBy wr (some tb))
   case atStart=>exact ⟨0,t,by omega,rfl,HTL.out,HRI.out,fun a' h=>by omega,HH.out,HTR.out,HB1R.out,HGR.out⟩
   case round =>
    obtain ⟨a,t,hg,rfl,htl,hri,hper,hH,hTr,hb1r,hgr⟩:=hrel
    have HG:=Kh hg;have HTR2:=Kh hTr;have HB1R2:=Kh hb1r;have HGR2:=Kh hgr;have HRI2:=Kh hri;have HTL2:=Kh htl;have HH2:=Kh hH;have HPE2:=Kh hper
    clear hg hTr hb1r hgr hri htl hH hper HTL HRI HH HTR HB1R HGR
    by_cases ha:a < letters
    ·have ha':(a:Int) < letters:=by omega
     obtain ⟨w9,hw9⟩:∃ w9,w9=wr:=⟨_,rfl⟩
     rw [← hw9] at HTR2 HB1R2 HGR2 HH2 ⊢
     clear hw9 wr
     go_wp2
     go_loopg [11,12] q (fun gh lv i wx=>∃ (c:Nat) (sl:Option Addr) (cl:Nat),gh+c=q∧i=.int .i64 c∧lv=.slice sl c cl∧wx.ownsRow w9.heap.size 3 1 (.slice sl c cl) c (ints ((List.range c).map fun (x:Nat)=>(x:Int)))∧w9.grownBy wx none)
     case atStart=>exact ⟨0,none,0,by omega,rfl,rfl,World.ownsRow_nil _ _ _ _,zW _ _⟩
     case round =>
      obtain ⟨c,sl,cl,hg,rfl,rfl,hown,hgx⟩:=hrel
      have HG3:=Kh hg;have HO3:=Kh hown;have HX3:=Kh hgx
      clear hg hown hgx
      by_cases hc:c < q
      ·have hc':(c:Int) < q:=by omega
       have hzx:=HX3.out.size
       go_wp2_with (first|(at_builtin;refine app1 rfl _ _ _ rfl yC w9.heap.size _ c _ rfl HO3.out _ rfl rfl ?c1 ?c2 ?c3 ?_)|fail)
       case c1=>unfold maxLen;omega
       case c2=>omega
       case c3=>exact hzx
       intro sl' cl' w10 hown10 hg10 hlt10
       have HO10:=Kh hown10
       have HG10:=Kh (zG HX3.out hg10 (fun k e=>(HO3.out.lt k e).1))
       clear hown10 hg10
       go_wp2
       go_roundg (q - (c+1))
       case measure=>have:=HG3.out;omega
       case rel =>
        refine ⟨c+1,sl',cl',by omega,by go_num,rfl,?_,HG10.out⟩
        rw [List.range_succ,List.map_append,show ints (List.map (fun (x:Nat)=>(x:Int)) (List.range c) ++ List.map (fun (x:Nat)=>(x:Int)) [c])=ints (List.map (fun (x:Nat)=>(x:Int)) (List.range c)) ++ [.int .i64 (c:Int)] by simp [ints]]
        exact HO10.out
      ·have hcq:c=q:=by have:=HG3.out;omega
       subst hcq
       have hg9:=HX3.out
       have HH4:=Kh (HH2.out.grow hg9);have HTR4:=Kh (HTR2.out.kept hg9 (by simp));have HB4:=Kh (zE HB1R2.out hg9 (by simp));have HG4:=Kh (zG HGR2.out hg9 (by simp))
       have hgl:∀ q',q' < c→∀ g cc n',hs[q']?=some (.slice (some ⟨g,0,none⟩) n' cc)→g < w9.heap.size:=fun q' hq' g cc n' e=>by
        obtain ⟨hi,he⟩:=List.getElem?_eq_some_iff.1 e
        exact (HH2.out.rows.lt hi (by rw [he];rfl)).2
       have HGL:=Kh hgl
       have hzx:=HX3.out.size
       have htb9:=HTR2.out.lt
       clear hg9 hgl HG3
       obtain ⟨wi,hwi⟩:∃ wi,wi=wr:=⟨_,rfl⟩
       rw [← hwi] at HO3 HX3 HH4 HTR4 HB4 HG4 hzx ⊢
       clear hwi wr
       go_wp2
       go_loopg [11,13,14] c (fun gh lv i kv wy=>∃ (p:Nat) (t:List (List Int)) (L:List Int) (sl:Option Addr) (cl:Nat),gh+p=c∧i=.int .i64 p∧lv=.slice sl L.length cl∧wy.ownsRow w9.heap.size 3 1 (.slice sl L.length cl) L.length (ints L)∧PermTo t c p a L∧t.length=c∧pL t c letters∧Half (P+1) wy (P+1) letters s fs t hs sf cf sn cn∧wD B wy tb∧wy.heap[P]?=some (.cells #[.int .i64 0,.int .i64 0,.slice none 0 0,.slice none 0 0] 28 (0,0))∧w.grownBy wy (some tb)∧w9.heap.size≤wy.heap.size)
       case atStart=>exact ⟨0,t,(List.range c).map fun (x:Nat)=>(x:Int),sl,cl,by omega,rfl,by simp,by simpa using HO3.out,PermTo.begin HPE2.out,HTL2.out,HRI2.out,HH4.out,HTR4.out,HB4.out,HG4.out,hzx⟩
       case round =>
        obtain ⟨p,t,L,sl,cl,hg,rfl,rfl,hown,hpt,htl,hri,hH,hTr,hbr,hgr,hsz⟩:=hrel
        have HG5:=Kh hg;have HO5:=Kh hown;have HPT:=Kh hpt;have HRI5:=Kh hri;have HH5:=Kh hH;have HT5:=Kh hTr;have HB5:=Kh hbr;have HGR5:=Kh hgr;have HTL5:=Kh htl;have HLL:=Kh hpt.len
        clear hg hown hpt hri hH hTr hbr hgr htl HH4 HTR4 HB4 HG4 HO3 HX3
        by_cases hp:p < c
        ·have hp':(p:Int) < c:=by omega
         have hLp:1≤L.length:=by have:=HLL.out;omega
         have hLc:L.length≤500:=by have:=HLL.out;omega
         go_wp2_with fail
         refine (tN B tb _ _ (by omega) HT5.out).mono ?_
         rintro e w6 ⟨k,rfl,hk0,hk1,hT6,hg6⟩
         replace hk1:=hk1 (by omega)
         obtain ⟨k,rfl⟩:∃ k':Nat,k=k':=⟨k.toNat,by omega⟩
         have hkL:k < L.length:=by omega
         have hH6:=HH5.out.tape HT5.out hg6
         have ho6:=yF HO5.out hg6 (by simpa using htb9)
         have HH6:=Kh hH6;have HT6:=Kh hT6;have HO6:=Kh ho6
         have HG6:=Kh (zF HGR5.out hg6);have HB6:=Kh (zE HB5.out hg6 (by simp;have:=HPE.out;omega))
         have hsz6:=Nat.le_trans hsz hg6.size
         clear hH6 hT6 ho6 hg6 HT5 HO5 HH5 HB5 HGR5 hsz
         have hrl:(t.getD p []).length=letters:=(HRI5.out _ (tH (by have:=HTL5.out;omega))).1
         obtain ⟨w7,hw7⟩:∃ w7,w7=w6.drew:=⟨_,rfl⟩
         have hg7:w6.grownBy w7 none:=by rw [hw7];exact zT w6 none
         have HW7:=Kh hw7
         have HH7:=Kh (HH6.out.grow hg7);have HT7:=Kh (HT6.out.kept hg7 (by simp));have HO7:=Kh (yF HO6.out hg7 (by simp));have HG7:=Kh (zG HG6.out hg7 (by simp));have HB7:=Kh (zE HB6.out hg7 (by simp))
         have hsz7:=Nat.le_trans hsz6 hg7.size
         clear hw7 hg7 HH6 HT6 HO6 HG6 HB6 hsz6
         obtain ⟨lb,rfl,hl1,hl2,hLA⟩:=yK HO7.out (by omega)
         obtain ⟨kb,g,cc,rfl,e1,e2,e3,e4,e5,e6,e7,e8⟩:=HH7.out.at (q:=p) (by have:=HTL5.out;omega) (by omega)
         have hbox7:=HH7.out.box
         rw [HTL5.out] at hbox7
         obtain ⟨d0,d1,d2,d3⟩:=zR hbox7
         rw [hrl] at e3 e4 e5
         rw [HTL5.out] at e1
         have hcell:=hLA.int k hkL
         obtain ⟨x,hxe⟩:∃ x,x=L.getD k 0:=⟨_,rfl⟩
         rw [← hxe] at hcell
         have HX:=Kh hxe
         have hfz:=e8.frozen a
         have E3:=Kh e3;have E8:=Kh e8
         have hcn:cn≤9223372036854775807:=by unfold maxLen at e2;omega
         have hcc:cc≤9223372036854775807:=by unfold maxLen at e6;omega
         have hcl:cl≤9223372036854775807:=by unfold maxLen at hl2;omega
         have hgl7:=HGL.out p (by omega) g cc _ e3
         have hlen0:letters≤6:=h6
         have hkLi:(k:Int) < (L.length:Nat):=by omega
         have C:=Kh (And.intro d3 (And.intro e4 (And.intro hcell hfz)))
         have HRL:=Kh hrl
         clear d0 d1 d2 d3 e3 e4 e8 hLA hcell hfz hxe hbox7 hrl e2 e6
         go_upto_region 20 with fail
         refine wp_region_noPanic ?_
         refine yY (G:=vV 11 (fun _=>True) (fun W=>W.cell? ⟨P+1,3,none⟩=some (.slice (some ⟨kb,0,none⟩) c cn)∧W.cell? ⟨kb,p,none⟩=some (.slice (some ⟨g,0,none⟩) letters cc)∧W.cell? ⟨lb,k,none⟩=some (.int .i64 x)∧W.frozen? ⟨g,a,none⟩=false)) (by kernel_rfl) ?_
         rw [← HW7.out]
         refine takeC (i:=0) (v:=?_) rfl rfl (Or.inl ⟨by rfl,?_⟩) ⟨trivial,fun _=>C.out⟩ ?_
         rotate_left
         ·(intro wz hz;(try dsimp only at hz);go_simp;(try with_reducible rfl))
         try simp only [Act.put,sPa,sPb,sPc]
         refine takeD (i:=1) (v:=?_) rfl rfl (Or.inl ⟨by rfl,?_⟩) ⟨trivial,fun _=>C.out⟩ ?_
         rotate_left
         ·(rintro wz ⟨-,hz⟩;(try dsimp only at hz);go_simp;(try with_reducible rfl))
         try simp only [Act.put,sPa,sPb,sPc]
         refine takeC (i:=2) (v:=?_) rfl rfl (Or.inl ⟨by rfl,?_⟩) ⟨trivial,fun _=>C.out⟩ ?_
         rotate_left
         ·(intro wz hz;(try dsimp only at hz);go_simp;(try with_reducible rfl))
         try simp only [Act.put,sPa,sPb,sPc]
         refine takeC (i:=3) (v:=?_) rfl rfl (Or.inl ⟨by rfl,?_⟩) ⟨trivial,fun _=>C.out⟩ ?_
         rotate_left
         ·(intro wz hz;(try dsimp only at hz);go_simp;(try with_reducible rfl))
         try simp only [Act.put,sPa,sPb,sPc]
         refine takeD (i:=4) (v:=?_) rfl rfl (Or.inl ⟨by rfl,?_⟩) ⟨trivial,fun _=>C.out⟩ ?_
         rotate_left
         ·(rintro wz ⟨-,hz⟩;(try dsimp only at hz);go_simp;(try with_reducible rfl))
         try simp only [Act.put,sPa,sPb,sPc]
         refine takeC (i:=5) (v:=?_) rfl rfl (Or.inl ⟨by rfl,?_⟩) ⟨trivial,fun _=>C.out⟩ ?_
         rotate_left
         ·(intro wz hz;(try dsimp only at hz);go_simp;(try with_reducible rfl))
         try simp only [Act.put,sPa,sPb,sPc]
         refine takeC (i:=6) (v:=?_) rfl rfl (Or.inl ⟨by rfl,?_⟩) ⟨trivial,fun _=>C.out⟩ ?_
         rotate_left
         ·(intro wz hz;(try dsimp only at hz);go_simp;(try with_reducible rfl))
         try simp only [Act.put,sPa,sPb,sPc]
         refine takeC (i:=7) (v:=?_) rfl rfl (Or.inl ⟨by rfl,?_⟩) ⟨trivial,fun _=>C.out⟩ ?_
         rotate_left
         ·(intro wz hz;(try dsimp only at hz);go_simp;(try with_reducible rfl))
         try simp only [Act.put,sPa,sPb,sPc]
         refine takeC (i:=8) (v:=?_) rfl rfl (Or.inl ⟨by rfl,?_⟩) ⟨trivial,fun _=>C.out⟩ ?_
         rotate_left
         ·(intro wz hz;(try dsimp only at hz);go_simp;(try with_reducible rfl))
         try simp only [Act.put,sPa,sPb,sPc]
         refine takeD (i:=9) (v:=?_) rfl rfl (Or.inl ⟨by rfl,?_⟩) ⟨trivial,fun _=>C.out⟩ ?_
         rotate_left
         ·(rintro wz ⟨-,hz⟩;(try dsimp only at hz);go_simp;(try with_reducible rfl))
         try simp only [Act.put,sPa,sPb,sPc]
         refine takeC (i:=10) (v:=?_) rfl rfl (Or.inl ⟨by rfl,?_⟩) ⟨trivial,fun _=>C.out⟩ ?_
         rotate_left
         ·(intro wz hz;(try dsimp only at hz);go_simp;(try with_reducible rfl))
         try simp only [Act.put,sPa,sPb,sPc]
         refine oneG (i:=11) (by kernel_rfl) rfl (fun K hK=>?_)
         have hfz:=C.out.2.2.2
         have hga:=E8.out.int a (by rw [HRL.out];exact ha)
         go_simp
         refine hK.out _ _ ⟨trivial,fun h=>by simp at h⟩ ?_
         clear hK K
         try simp only [Act.put,sPa,sPb,sPc]
         refine nW (by kernel_rfl) ?_ _
         refine NoPanic.normal ?_
         have hg8:=zH w7 ⟨g,a,none⟩ (.int .i64 x)
         have HH8:=Kh (HH7.out.poke E3.out E8.out (by rw [HRL.out];exact ha) x)
         have HT8:=Kh (HT7.out.kept hg8 (fun k e=>by have e:g=k:=Oj e;omega))
         have HB8:=Kh (zE HB7.out hg8 (fun e=>by have e:g=P:=Oj e;omega))
         have HG8:=Kh (zG HG7.out hg8 (fun k e=>by have e:g=k:=Oj e;have:=HPE.out;omega))
         have HO8:=Kh (yF HO7.out hg8 (fun k e=>by have e:g=k:=Oj e;omega))
         have hsz8:w9.heap.size≤(w7.setCell ⟨g,a,none⟩ (.int .i64 x)).heap.size:=Nat.le_trans hsz7 hg8.size
         obtain ⟨w8,hw8⟩:∃ w8,w8=w7.setCell ⟨g,a,none⟩ (.int .i64 x):=⟨_,rfl⟩
         rw [← hw8] at HH8 HT8 HB8 HG8 HO8 hsz8 ⊢
         obtain ⟨wA2,hwA2⟩:∃ wA2,wA2=w8.drew:=⟨_,rfl⟩
         have hgA2:w8.grownBy wA2 none:=by rw [hwA2];exact zT w8 none
         have HWA2:=Kh hwA2
         have HH9:=Kh (HH8.out.grow hgA2);have HT9:=Kh (HT8.out.kept hgA2 (by simp));have HO9:=Kh (yF HO8.out hgA2 (by simp));have HG9:=Kh (zG HG8.out hgA2 (by simp));have HB9:=Kh (zE HB8.out hgA2 (by simp))
         have hsz9:=Nat.le_trans hsz8 hgA2.size
         clear hga hw8 hg8 hwA2 hgA2 HH8 HT8 HB8 HG8 HO8 hsz8 hfz C HW7 HH7 HT7 HO7 HG7 HB7 hsz7 E8 E3
         go_upto_region 21 with fail
         refine wp_region_noPanic ?_
         refine yY (G:=vV 99 (fun _=>True) (fun _=>True)) (by kernel_rfl) ?_
         rw [← HWA2.out]
         have hkcl:k≤cl:=by omega
         have hwr:IntKind.i64.wrap ((k:Int)+1)=(k:Int)+1:=IntWalk.i64_in _ (by omega)
         have hbd1:(0:Int)≤(k:Int)+1:=by omega
         have hbd2:(k:Int)+1≤(L.length:Nat):=by omega
         have htn:((k:Int)+1).toNat=k+1:=by omega
         refine takeC (i:=1) (v:=?_) rfl rfl (Or.inl ⟨by rfl,?_⟩) ⟨trivial,fun _=>trivial⟩ ?_
         rotate_left
         ·(intro wz hz;(try dsimp only at hz);go_simp;(try with_reducible rfl))
         try simp only [Act.put,sPa,sPb,sPc]
         refine takeC (i:=2) (v:=?_) rfl rfl (Or.inl ⟨by rfl,?_⟩) ⟨trivial,fun _=>trivial⟩ ?_
         rotate_left
         ·(intro wz hz;(try dsimp only at hz);go_simp;(try with_reducible rfl))
         try simp only [Act.put,sPa,sPb,sPc]
         refine takeC (i:=3) (v:=?_) rfl rfl (Or.inl ⟨by rfl,?_⟩) ⟨trivial,fun _=>trivial⟩ ?_
         rotate_left
         ·(intro wz hz;(try dsimp only at hz);go_simp;(try with_reducible rfl))
         try simp only [Act.put,sPa,sPb,sPc]
         refine takeC (i:=5) (v:=?_) rfl rfl (Or.inl ⟨by rfl,?_⟩) ⟨trivial,fun _=>trivial⟩ ?_
         rotate_left
         ·(intro wz hz;(try dsimp only at hz);go_simp;(try with_reducible rfl))
         try simp only [Act.put,sPa,sPb,sPc]
         refine takeC (i:=6) (v:=?_) rfl rfl (Or.inl ⟨by rfl,?_⟩) ⟨trivial,fun _=>trivial⟩ ?_
         rotate_left
         ·(intro wz hz;(try dsimp only at hz);go_simp;(try with_reducible rfl))
         try simp only [Act.put,sPa,sPb,sPc]
         refine takeC (i:=7) (v:=?_) rfl rfl (Or.inl ⟨by rfl,?_⟩) ⟨trivial,fun _=>trivial⟩ ?_
         rotate_left
         ·(intro wz hz;(try dsimp only at hz);go_simp;(try with_reducible rfl))
         try simp only [Act.put,sPa,sPb,sPc]
         refine takeC (i:=8) (v:=?_) rfl rfl (Or.inl ⟨by rfl,?_⟩) ⟨trivial,fun _=>trivial⟩ ?_
         rotate_left
         ·(intro wz hz;(try dsimp only at hz);go_simp;(try with_reducible rfl))
         try simp only [Act.put,sPa,sPb,sPc]
         clear hwr hbd1 hbd2 htn
         generalize hEE:(if cl=k+1 then (some ⟨lb,0,none⟩:Option Addr) else some ⟨lb,k+1,none⟩)=EE
         have HEE:=Kh hEE
         clear hEE
         refine oneG (i:=0) (by kernel_rfl) rfl (fun K hK=>?_)
         go_simp
         refine hK.out _ _ ⟨trivial,fun _=>trivial⟩ ?_
         clear hK K
         try simp only [Act.put,sPa,sPb,sPc]
         have hgn:=heap_alloc_new wA2 (.cells #[] 3)
         have hgr:=Ga wA2 (.cells #[] 3) none
         have hzn:=zO wA2 (.cells #[] 3)
         obtain ⟨gN,hgN⟩:∃ gN,gN=wA2.heap.size:=⟨_,rfl⟩
         obtain ⟨wN,hwN⟩:∃ wN,wN=wA2.alloc (.cells #[] 3):=⟨_,rfl⟩
         rw [← hwN] at hgn hgr hzn ⊢
         rw [← hgN] at hgn hzn ⊢
         have hoN:=yQ (base:=w9.heap.size) hgn (by omega)
         have hoL:=yF HO9.out hgr (by simp)
         have hlbN:lb < gN:=by rw [hgN];exact (HO9.out.lt lb rfl).2
         obtain ⟨lb',e9,hl1',hl2',hLA⟩:=yK hoL (by omega)
         have e9:lb=lb':=by simpa using e9
         subst e9
         refine oneG (i:=4) (by kernel_rfl) rfl (fun K hK=>?_)
         refine xU rfl (.tmp 79) (.tmp 82) 22 rfl yC w9.heap.size (.slice (some ⟨gN,0,none⟩) 0 0) 0 [] rfl hoN _ (ints (L.take k)) rfl ⟨_,row_front hLA (by omega) hl1 hl2⟩ ?x1 k ?x2 ?x3 ?x4 ?x5 ?_
         case x1=>intro u hu;obtain ⟨y,_,rfl⟩:=List.mem_map.1 hu;rfl
         case x2=>rw [zM,List.length_take];omega
         case x3=>unfold maxLen;omega
         case x4=>omega
         case x5=>omega
         intro sb cb wM hoM hgM
         have hoL2:=hoL.kept hgM (.inr (fun e=>Nat.ne_of_lt hlbN (by simpa [Value.ownBlock] using e)))
         have hzM:=hgM.size
         refine hK.out _ _ ⟨trivial,fun _=>trivial⟩ ?_
         clear hK K
         try simp only [Act.put,sPa,sPb,sPc]
         rw [List.nil_append] at hoM
         obtain ⟨lb',e9,hl1'',hl2'',hLA2⟩:=yK hoL2 (by omega)
         have e9:lb=lb':=by simpa using e9
         subst e9
         refine oneG (i:=9) (by kernel_rfl) rfl (fun K hK=>?_)
         refine xU rfl (.tmp 83) (.tmp 87) 22 rfl yC w9.heap.size (.slice sb k cb) k _ rfl hoM _ (ints (L.drop (k+1))) rfl ⟨_,by rw [← HEE.out];exact row_back hLA2 (by omega) hl1 hl2⟩ ?y1 (L.length - 1) ?y2 ?y3 ?y4 ?y5 ?_
         case y1=>intro u hu;obtain ⟨y,_,rfl⟩:=List.mem_map.1 hu;rfl
         case y2=>rw [zM,List.length_drop];omega
         case y3=>unfold maxLen;omega
         case y4=>omega
         case y5=>omega
         intro sd cd wQ hoQ hgQ
         refine hK.out _ _ ⟨trivial,fun _=>trivial⟩ ?_
         clear hK K
         try simp only [Act.put,sPa,sPb,sPc]
         refine oneG (i:=10) (by kernel_rfl) rfl (fun K hK=>?_)
         go_simp
         refine hK.out _ _ ⟨trivial,fun _=>trivial⟩ ?_
         clear hK K
         try simp only [Act.put,sPa,sPb,sPc]
         refine nW (by kernel_rfl) ?_ _
         refine NoPanic.normal ?_
         have g1:=hgr
         have lo:∀ kk,(Value.slice (some ⟨gN,0,none⟩) 0 0).ownBlock=some kk→w9.heap.size≤kk∧P+2≤kk:=fun kk e=>by
          have e:gN=kk:=by simpa [Value.ownBlock] using e
          omega
         have lM:∀ kk,(Value.slice sb k cb).ownBlock=some kk→w9.heap.size≤kk∧P+2≤kk:=fun kk e=>by
          have:=(hoM.lt kk e).1
          omega
         have HHQ:=Kh (((HH9.out.grow hgr).keptAbove HH2.out (by rw [List.length_set,HTL2.out,HTL5.out]) hgM (fun kk e=>(lo kk e).1)).keptAbove HH2.out (by rw [List.length_set,HTL2.out,HTL5.out]) hgQ (fun kk e=>(lM kk e).1))
         have HTQ:=Kh (((HT9.out.kept hgr (by simp)).kept hgM (fun kk e=>by have:=lo kk e;omega)).kept hgQ (fun kk e=>by have:=lM kk e;omega))
         have HBQ:=Kh (zE (zE (zE HB9.out hgr (by simp)) hgM (fun e=>by have:=lo P e;omega)) hgQ (fun e=>by have:=lM P e;omega))
         have HGQ:=Kh (zG (zG (zG HG9.out hgr (by simp)) hgM (fun kk e=>by have:=lo kk e;have:=HPE.out;omega)) hgQ (fun kk e=>by have:=lM kk e;have:=HPE.out;omega))
         have hszQ:=Nat.le_trans hsz9 (Nat.le_trans hgr.size (Nat.le_trans hgM.size hgQ.size))
         have HOQ:=Kh hoQ
         clear hgr hgM hgQ hoM hoQ hoN hoL hoL2 hLA hLA2 hgn lo lM HH9 HT9 HB9 HG9 HO9 hwN hgN hzn hzM
         go_wp2
         go_roundg (c - (p+1))
         case measure=>have:=HG5.out;omega
         case rel =>
          have hl7:(L.take k ++ L.drop (k+1)).length=L.length - 1:=by simp only [List.length_append,List.length_take,List.length_drop];omega
          refine ⟨p+1,t.set p ((t.getD p []).set a x),L.take k ++ L.drop (k+1),sd,cd,by omega,by go_num,by rw [hl7],?_,?_,by rw [List.length_set];exact HTL5.out,HRI5.out.set (by have:=HTL5.out;omega) ?_ ?_,HHQ.out,HTQ.out,HBQ.out,HGQ.out,hszQ⟩
          ·rw [hl7,show ints (L.take k ++ L.drop (k+1))=ints (L.take k) ++ ints (L.drop (k+1)) by simp [ints]]
           exact HOQ.out
          ·rw [HX.out]
           exact HPT.out.step (by have:=HTL5.out;omega) (by rw [HRL.out];exact ha) hkL
          ·rw [HX.out];exact (HPT.out.rng _ (tH hkL)).1
          ·rw [HX.out];exact (HPT.out.rng _ (tH hkL)).2
        ·have hpc:p=c:=by have:=HG5.out;omega
         go_wp2
         go_roundg (letters - (a+1))
         case measure=>have:=HG.out;omega
         case rel =>
          refine ⟨a+1,t,by omega,by go_num,HTL5.out,HRI5.out,fun a' h1 q1 q2 h2 h3 e=>?_,HH5.out,HT5.out,HB5.out,HGR5.out⟩
          rcases Nat.lt_or_ge a' a with h4|h4
          ·exact HPT.out.done a' h4 q1 q2 h2 h3 e
          ·have e5:a'=a:=by omega
           subst e5
           exact HPT.out.col q1 q2 (by omega) (by omega) e
    ·have hal:a=letters:=by have:=HG.out;omega
     have hH:=HH2.out
     obtain ⟨d0,d1,d2,d3⟩:=zR hH.box
     obtain ⟨e0,e1,e2,e3⟩:=zR HB1R2.out
     have f0:=zD HB1R2.out 0;have f1:=zD HB1R2.out 1;have f2:=zD HB1R2.out 2;have f3:=zD HB1R2.out 3
     clear hH
     go_wp2
     refine bodyPost_ret (v:=.agg #[.int .i64 letters,.int .i64 s,.slice sf fs.length cf,.slice sn t.length cn]) (by simp [results,Tryd.results14,go_sem,e0,e1,e2,e3]) rfl ?_
     obtain ⟨hsR,hgR⟩:=pX HB1R2.out (.int .i64 letters) (.int .i64 s) (.slice sf fs.length cf) (.slice sn t.length cn)
     have htb2:=HTR2.out.lt
     refine ⟨_,⟨letters,s,fs,t⟩,q,rfl,⟨P+1,hs,sf,cf,sn,cn,rfl,by have:=HPE.out;omega,(HH2.out.base (by have:=HPE.out;omega)).far hgR HB1R2.out (by omega)⟩,HRI2.out.vd h1 h6 hn1 (by omega) HFL.out HTL2.out hs0 hs1,hn2,fun k hk a' ha2=>?_,HTR2.out.kept hgR (fun k e=>by have e:P=k:=Oj e;omega),zG HGR2.out hgR (fun k e=>by have e:P=k:=Oj e;have:=HPE.out;omega)⟩
     have hk:letters=k:=Int.ofNat.inj hk
     exact HPE2.out a' (by omega)
end Go.Proofs.YtdjhoadoiknaoaaDoor
