/- Part 41 of the proof: Known40, Law40S, GoodT, Law40P, Word, Mono, Closed, Steps. -/
import Derived.Test.YtdjhoadoiknaoaaDoorZC40
set_option linter.unusedVariables false
set_option linter.unusedSimpArgs false
namespace Go.Proofs.YtdjhoadoiknaoaaDoor
open Go.RowKit
theorem closeL_one:uI [[0,1],[1,0]] [1]=[3]:=by unfold uI vY;decide +kernel
theorem closeL_two:uI [[0,1],[1,1]] [1]=[1,2]:=by unfold uI vY;decide +kernel
theorem valid_one:xK [[0,1],[1,0]]=0:=sO (by decide +kernel) (oO (by
 unfold assAt
 decide +kernel))
theorem valid_two:xK [[0,1],[1,1]]=0:=sO (by decide +kernel) (oO (by
 unfold assAt
 decide +kernel))
theorem checkE_one:yO [[0,1],[1,0]] [1]=0:=by
 rw [yO,valid_one];decide +kernel
theorem checkE_two:yO [[0,1],[1,1]] [1]=0:=by
 rw [yO,valid_two];decide +kernel
theorem omegaP_one:kH [[0,1],[1,0]] 2=3:=by
 rw [kH,mayB,valid_one];decide +kernel
theorem rowAt_block {W:World} {a e:Nat} {zs:List Int} {cs:Array Value} (ha:W.heap[a]?=some (.cells cs e (0,0))) (hcs:cs.toList=ints zs):RowAt W a 0 (ints zs):=by
 refine ⟨zQ ha,fun i hi=>?_⟩
 have hi':i < cs.size:=by rw [← Array.length_toList,hcs];exact hi
 rw [Nat.zero_add,zI ha i hi']
 congr 1
 rw [← Array.getElem_toList]
 simp only [hcs]
theorem nG {B:Nat} {W:World} {a e n:Nat} {zs:List Int} {cs:Array Value} (ha:W.heap[a]?=some (.cells cs e (0,0))) (hcs:cs.toList=ints zs) (hn:zs.length=n) (hm:n≤maxLen) (hB:a < B):Row B W (.slice (some ⟨a,0,none⟩) n n) (ints zs) :=
 .inr ⟨a,0,n,by rw [zM,hn],hB,by rw [zM];omega,hm,rowAt_block ha hcs⟩
theorem iF {B:Nat} {W:World} {a b c e e':Nat} {p q r s:Int} (ha:W.heap[a]?=some (.cells #[.int .i64 p,.int .i64 q] e (0,0))) (hb:W.heap[b]?=some (.cells #[.int .i64 r,.int .i64 s] e (0,0)))
  (hc:W.heap[c]?=some (.cells #[.slice (some ⟨a,0,none⟩) 2 2,.slice (some ⟨b,0,none⟩) 2 2] e' (0,0))) (h1:a < B) (h2:b < B) (h3:c < B):Mat B W (.slice (some ⟨c,0,none⟩) 2 2) [[p,q],[r,s]]:=by
 have hm:2≤maxLen:=by unfold maxLen;omega
 refine .inr ⟨c,0,2,fun x=>if x=0 then some ⟨a,0,none⟩ else some ⟨b,0,none⟩,fun _=>2,rfl,by simp,hm,⟨h3,zQ hc,fun x hx=>?_,fun x hx=>?_⟩⟩
 ·have hx2:x < 2:=by simpa using hx
  match x,hx2 with
  | 0,_=>exact zI hc 0 (by simp)
  | 1,_=>exact zI hc 1 (by simp)
 ·have hx2:x < 2:=by simpa using hx
  match x,hx2 with
  | 0,_=>exact nG (zs:=[p,q]) ha rfl rfl hm h1
  | 1,_=>exact nG (zs:=[r,s]) hb rfl rfl hm h2
theorem laid4 (w:World) (c1 c2 c3 c4:Array Value) (e1 e2 e3 e4:Nat):∀ W,W=(((w.alloc (.cells c1 e1)).alloc (.cells c2 e2)).alloc (.cells c3 e3)).alloc (.cells c4 e4) →
  W.heap[w.heap.size]?=some (.cells c1 e1 (0,0))∧W.heap[w.heap.size+1]?=some (.cells c2 e2 (0,0))∧W.heap[w.heap.size+2]?=some (.cells c3 e3 (0,0))∧W.heap[w.heap.size+3]?=some (.cells c4 e4 (0,0))∧w.grownBy W none∧W.heap.size=w.heap.size+4:=by
 rintro W rfl
 have g1:=Ga w (.cells c1 e1) none
 have g2:=Ga (w.alloc (.cells c1 e1)) (.cells c2 e2) none
 have g3:=Ga ((w.alloc (.cells c1 e1)).alloc (.cells c2 e2)) (.cells c3 e3) none
 have g4:=Ga (((w.alloc (.cells c1 e1)).alloc (.cells c2 e2)).alloc (.cells c3 e3)) (.cells c4 e4) none
 have h1:=heap_alloc_new w (.cells c1 e1)
 have h2:=heap_alloc_new (w.alloc (.cells c1 e1)) (.cells c2 e2)
 have h3:=heap_alloc_new ((w.alloc (.cells c1 e1)).alloc (.cells c2 e2)) (.cells c3 e3)
 have h4:=heap_alloc_new (((w.alloc (.cells c1 e1)).alloc (.cells c2 e2)).alloc (.cells c3 e3)) (.cells c4 e4)
 simp only [zO] at h2 h3 h4
 exact ⟨zE h1 (zG (zG g2 g3) g4) (by simp),zE h2 (zG g3 g4) (by simp),zE h3 g4 (by simp),h4,zG (zG (zG g1 g2) g3) g4,by simp only [zO]⟩
theorem laid3 (w:World) (c1 c2 c3:Array Value) (e1 e2 e3:Nat):∀ W,W=((w.alloc (.cells c1 e1)).alloc (.cells c2 e2)).alloc (.cells c3 e3) →
  W.heap[w.heap.size]?=some (.cells c1 e1 (0,0))∧W.heap[w.heap.size+1]?=some (.cells c2 e2 (0,0))∧W.heap[w.heap.size+2]?=some (.cells c3 e3 (0,0))∧w.grownBy W none∧W.heap.size=w.heap.size+3:=by
 rintro W rfl
 have g1:=Ga w (.cells c1 e1) none
 have g2:=Ga (w.alloc (.cells c1 e1)) (.cells c2 e2) none
 have g3:=Ga ((w.alloc (.cells c1 e1)).alloc (.cells c2 e2)) (.cells c3 e3) none
 have h1:=heap_alloc_new w (.cells c1 e1)
 have h2:=heap_alloc_new (w.alloc (.cells c1 e1)) (.cells c2 e2)
 have h3:=heap_alloc_new ((w.alloc (.cells c1 e1)).alloc (.cells c2 e2)) (.cells c3 e3)
 simp only [zO] at h2 h3
 exact ⟨zE h1 (zG g2 g3) (by simp),zE h2 g3 (by simp),h3,zG (zG g1 g2) g3,by simp only [zO]⟩
set_option maxHeartbeats 800000 in
theorem known40_any (w:World) (hT:TabOk w):Calls Tryd.prog 17 #[] w fun e w'=>e=.returned (.bool true)∧w.grownBy w' none:=by
 have HT:=Kh hT
 clear hT
 go_enter Tryd.func17,Tryd.ntmps17
 go_wp2_with fail
 obtain ⟨wA,hWA⟩:∃ wA,wA=(((w.alloc (.cells #[.int .i64 0,.int .i64 1] 3)).alloc (.cells #[.int .i64 1,.int .i64 0] 3)).alloc (.cells #[.slice (some ⟨w.heap.size,0,none⟩) 2 2,.slice (some ⟨w.heap.size+1,0,none⟩) 2 2] 22)).alloc (.cells #[.int .i64 1] 3):=⟨_,rfl⟩
 obtain ⟨h1,h2,h3,h4,hgA,hzA⟩:=laid4 w _ _ _ _ _ _ _ _ wA hWA
 rw [← hWA]
 have hcl:=mB wA.heap.size wA _ _ [[0,1],[1,0]] [1] (Nat.le_refl _) (iF h1 h2 h3 (by omega) (by omega) (by omega)) (nG (n:=1) (zs:=[1]) h4 rfl rfl (by unfold maxLen;omega) (by omega)) (HT.out.kept hgA (by simp))
 have HC:=Kh hcl;have HGA:=Kh hgA
 clear hcl hgA h1 h2 h3 h4 hWA
 refine HC.out.mono ?_
 rintro e w1 ⟨hg1,hc1⟩
 rcases hc1 with ⟨hne,_⟩|⟨_,v1,rfl,hr1⟩
 ·exact absurd checkE_one hne
 rw [closeL_one] at hr1
 have HG1:Hid (w.grownBy w1 none):=Kh (zG HGA.out hg1)
 have HR1:Hid (Row w1.heap.size w1 v1 (ints [3])):=Kh hr1
 have hz1:=hg1.size
 clear hr1 hg1 HC HGA
 go_wp2_with fail
 obtain ⟨wB,hWB⟩:∃ wB,wB=(((w1.alloc (.cells #[.int .i64 0,.int .i64 1] 3)).alloc (.cells #[.int .i64 1,.int .i64 1] 3)).alloc (.cells #[.slice (some ⟨w1.heap.size,0,none⟩) 2 2,.slice (some ⟨w1.heap.size+1,0,none⟩) 2 2] 22)).alloc (.cells #[.int .i64 1] 3):=⟨_,rfl⟩
 obtain ⟨h1,h2,h3,h4,hgB,hzB⟩:=laid4 w1 _ _ _ _ _ _ _ _ wB hWB
 rw [← hWB]
 have hcl:=mB wB.heap.size wB _ _ [[0,1],[1,1]] [1] (Nat.le_refl _) (iF h1 h2 h3 (by omega) (by omega) (by omega)) (nG (n:=1) (zs:=[1]) h4 rfl rfl (by unfold maxLen;omega) (by omega)) (HT.out.kept (zG HG1.out hgB) (by simp))
 have HC:=Kh hcl;have HGB:=Kh hgB
 clear hcl hgB h1 h2 h3 h4 hWB
 refine HC.out.mono ?_
 rintro e w2 ⟨hg2,hc2⟩
 rcases hc2 with ⟨hne,_⟩|⟨_,v2,rfl,hr2⟩
 ·exact absurd checkE_two hne
 rw [closeL_two] at hr2
 have HG12:Hid (w1.grownBy w2 none):=Kh (zG HGB.out hg2)
 have HR2:Hid (Row w2.heap.size w2 v2 (ints [1,2])):=Kh hr2
 have hz2:=hg2.size
 clear hr2 hg2 HC HGB
 have HGA3:=Kh (Ga w2 (.cells #[.int .i64 3] 3) none)
 have HS3:=Kh (nD w1.heap.size (w2.heap.size+1) (w2.alloc (.cells #[.int .i64 3] 3)) v1 _ [3] [3] ((HR1.out.kept HG12.out (by simp)).kept HGA3.out (by simp)) (row_lit w2 [3] #[.int .i64 3] rfl 1 rfl (by unfold maxLen;omega)))
 go_wp2_with fail
 refine HS3.out.mono ?_
 rintro e w3 ⟨rfl,m3,rfl⟩
 have HG3:=Kh (zG HGA3.out (zJ (w2.alloc (.cells #[.int .i64 3] 3)) m3 none))
 obtain ⟨w3,hw3⟩:∃ w3,w3=(w2.alloc (.cells #[.int .i64 3] 3)).drewN m3:=⟨_,rfl⟩
 rw [← hw3] at HG3 ⊢
 clear hw3 HS3 HGA3
 have HGA4:=Kh (Ga w3 (.cells #[.int .i64 1,.int .i64 2] 3) none)
 have HS4:=Kh (nD w2.heap.size (w3.heap.size+1) (w3.alloc (.cells #[.int .i64 1,.int .i64 2] 3)) v2 _ [1,2] [1,2] ((HR2.out.kept HG3.out (by simp)).kept HGA4.out (by simp)) (row_lit w3 [1,2] #[.int .i64 1,.int .i64 2] rfl 2 rfl (by unfold maxLen;omega)))
 go_wp2_with fail
 refine HS4.out.mono ?_
 rintro e w4 ⟨rfl,m4,rfl⟩
 have HG4:=Kh (zG HGA4.out (zJ (w3.alloc (.cells #[.int .i64 1,.int .i64 2] 3)) m4 none))
 obtain ⟨w4,hw4⟩:∃ w4,w4=(w3.alloc (.cells #[.int .i64 1,.int .i64 2] 3)).drewN m4:=⟨_,rfl⟩
 rw [← hw4] at HG4 ⊢
 clear hw4 HS4 HGA4
 have HGW:Hid (w.grownBy w4 none):=Kh (zG (zG (zG HG1.out HG12.out) HG3.out) HG4.out)
 go_wp2_with fail
 obtain ⟨wC,hWC⟩:∃ wC,wC=((w4.alloc (.cells #[.int .i64 0,.int .i64 1] 3)).alloc (.cells #[.int .i64 1,.int .i64 0] 3)).alloc (.cells #[.slice (some ⟨w4.heap.size,0,none⟩) 2 2,.slice (some ⟨w4.heap.size+1,0,none⟩) 2 2] 22):=⟨_,rfl⟩
 obtain ⟨h1,h2,h3,hgC,hzC⟩:=laid3 w4 _ _ _ _ _ _ wC hWC
 rw [← hWC]
 have hom:=pomega_any wC.heap.size wC _ [[0,1],[1,0]] 2 (Nat.le_refl _) (iF h1 h2 h3 (by omega) (by omega) (by omega)) (HT.out.kept (zG HGW.out hgC) (by simp))
 rw [omegaP_one] at hom
 have HOM:=Kh hom;have HGC:=Kh hgC
 clear hom hgC h1 h2 h3 hWC
 refine HOM.out.mono ?_
 rintro e w5 ⟨rfl,hg5⟩
 have HG5:=Kh hg5
 clear hg5
 go_wp2
 go_ret
 exact ⟨zT rfl,zG (zG HGW.out HGC.out) HG5.out⟩
theorem jV.le {most:Nat} {T:List (List Nat)} {im:List Nat} (h:jV most T im):T.length≤400:=by
 have key:∀ (d:DfaV) (S:SynV),Of21E d (some S)→S.tab.length≤400:=fun d S h=>by
  obtain ⟨n,k,m,M,_,_,_,_,el,pr,la,ri,mm,_,h1,_,h2,_⟩:=h
  rw [h2,wI];exact h1
 rcases h with ⟨d,n,k,S,_,_,h1,_,rfl,_⟩|⟨d,n,S,_,_,_,h1,rfl,_⟩
 ·exact key d S h1
 ·cases S with
  | none=>simp [iK]
  | some S=>exact key d S h1
end Go.Proofs.YtdjhoadoiknaoaaDoor
namespace Go.Proofs.YtdjhoadoiknaoaaDoor
section
variable {gs:List (List Nat)} {n:Nat} {el:List (List Nat)} {pr la:List Int} {ri:List (List Nat)}
theorem Enm.ent (h:Enm gs n el pr la ri el.length) (hg:∀ g∈gs,IsT n g) {x y:Nat} (hx:x < el.length) (hy:y < el.length):entN (tabI (tabE pr la ri el.length)) x y < el.length∧el.getD (entN (tabI (tabE pr la ri el.length)) x y) []=compT (el.getD x []) (el.getD y []):=by
 rw [tabI_entN];exact h.tab hg hx hy
theorem Enm.entI (h:Enm gs n el pr la ri el.length) (hg:∀ g∈gs,IsT n g) {x y z:Nat} (hx:x < el.length) (hy:y < el.length) (hz:z < el.length) (e:el.getD z []=compT (el.getD x []) (el.getD y [])):entN (tabI (tabE pr la ri el.length)) x y=z :=
 nodup_getD h.en.nodup (h.ent hg hx hy).1 hz ((h.ent hg hx hy).2.trans e.symm)
theorem vD:(tabI (tabE pr la ri el.length)).length=el.length:=by rw [yW,wI]
theorem Enm.shape (h:Enm gs n el pr la ri el.length) (hg:∀ g∈gs,IsT n g) (h4:el.length≤400):uF (tabI (tabE pr la ri el.length))=0:=by
 have hp:=h.en.pos
 unfold uF
 rw [vD,if_neg (by omega),if_neg (by omega),if_pos]
 rw [List.all_eq_true]
 intro r hr
 obtain ⟨x,hx,rfl⟩:=List.getElem_of_mem hr
 have hx':x < el.length:=by rw [vD] at hx;exact hx
 rw [← zV (d:=[]) hx]
 have hl:((tabI (tabE pr la ri el.length)).getD x []).length=el.length:=by
  rw [mE,List.length_map,zV (by rw [wI];exact hx')]
  simp [tabE,rY]
 refine rX.2 ⟨hl,fun y hy=>?_⟩
 rw [hl] at hy
 have e:=lJ (tabE pr la ri el.length) x y
 have h1:=(h.tab hg hx' hy).1
 unfold Go.Proofs.YtdjhoadoiknaoaaDoor.ent at e
 rw [e]
 omega
theorem Enm.assoc (h:Enm gs n el pr la ri el.length) (hg:∀ g∈gs,IsT n g):Assoc (tabI (tabE pr la ri el.length)):=by
 intro g hg' x y hx hy
 rw [vD] at hg' hx hy
 obtain ⟨a1,a2⟩:=h.ent hg hx hg'
 obtain ⟨b1,b2⟩:=h.ent hg hg' hy
 obtain ⟨c1,c2⟩:=h.ent hg hx b1
 refine h.entI hg a1 hy c1 ?_
 rw [c2,b2,a2,compT_assoc (h.en.it _ (getDm hx)) (h.en.it _ (getDm hg'))]
theorem Enm.isId (h:Enm gs n el pr la ri el.length) (hg:∀ g∈gs,IsT n g):isId (tabI (tabE pr la ri el.length)) 0=true:=by
 have hp:=h.en.pos
 refine List.all_eq_true.2 fun x hx=>?_
 rw [List.mem_range,vD] at hx
 have hit:IsT n (el.getD x []):=h.en.it _ (getDm hx)
 unfold idAt
 rw [h.entI hg hp hx hx (by rw [h.en.one,jN hit]),h.entI hg hx hp hx (by rw [h.en.one,compT_id' hit])]
 simp
theorem Enm.ident (h:Enm gs n el pr la ri el.length) (hg:∀ g∈gs,IsT n g):wK (tabI (tabE pr la ri el.length))=0:=by
 have:=nY (t:=tabI (tabE pr la ri el.length)) (e:=0) (by rw [vD];exact h.en.pos) (h.isId hg) (fun x hx=>by omega)
 exact this
theorem Enm.good (h:Enm gs n el pr la ri el.length) (hg:∀ g∈gs,IsT n g) (h12:el.length≤12) (h1:1≤gs.length) (h6:gs.length≤6):Good (tabI (tabE pr la ri el.length)) ((imgE gs el).map fun (x:Nat)=>(x:Int)) where
 valid:=sO (h.shape hg (by omega)) (h.assoc hg)
 ident:=⟨0,h.ident hg,by rw [vD];exact h.en.pos,h.isId hg⟩
 le:=by rw [vD];exact h12
 im0:=by rw [List.length_map,qD];exact h1
 im6:=by rw [List.length_map,qD];exact h6
 inb:=by
  rw [rE,vD]
  intro y hy
  have hy':y < gs.length:=by rw [List.length_map,qD] at hy;exact hy
  rw [vC (x:=0) (by rw [qD];exact hy')]
  have:(imgE gs el).getD y 0 < el.length:=by
   unfold imgE
   rw [vC (x:=[]) hy']
   exact List.idxOf_lt_length_of_mem (h.image hg hy')
  omega
end
def code4:List Nat→Nat
 | []=>0
 | x :: f=>x+4 * code4 f
theorem code4_lt:∀ f:List Nat,(∀ x∈f,x < 4)→code4 f < 4 ^ f.length
 | [],_=>by simp [code4]
 | x :: f,h=>by
  have ih:=code4_lt f (fun y hy=>h y (by simp [hy]))
  have hx:=h x (by simp)
  rw [code4,List.length_cons,Nat.pow_succ];omega
theorem code4_inj:∀ f g:List Nat,f.length=g.length→(∀ x∈f,x < 4)→(∀ x∈g,x < 4)→code4 f=code4 g→f=g
 | [],[],_,_,_,_=>rfl
 | [],_ :: _,h,_,_,_=>by simp at h
 | _ :: _,[],h,_,_,_=>by simp at h
 | x :: f,y :: g,h,hf,hg,e=>by
  have hx:=hf x (by simp)
  have hy:=hg y (by simp)
  rw [code4,code4] at e
  obtain rfl:x=y:=by omega
  rw [code4_inj f g (by simpa using h) (fun z hz=>hf z (by simp [hz])) (fun z hz=>hg z (by simp [hz])) (by omega)]
theorem kI {α β:Type} {f:α→β}:∀ {l:List α},l.Nodup→(∀ a∈l,∀ b∈l,f a=f b→a=b)→(l.map f).Nodup
 | [],_,_=>by simp
 | a :: l,h,hi=>by
  rw [List.nodup_cons] at h
  rw [List.map_cons,List.nodup_cons]
  refine ⟨fun hm=>?_,kI h.2 (fun x hx y hy=>hi x (by simp [hx]) y (by simp [hy]))⟩
  obtain ⟨b,hb,e⟩:=List.mem_map.1 hm
  rw [hi b (by simp [hb]) a (by simp) e] at hb
  exact h.1 hb
theorem few_of_four {m:Nat} (hm:m≤4) {l:List (List Nat)} (hn:l.Nodup) (hl:∀ f∈l,IsT m f):l.length≤256:=by
 have h4:∀ f∈l,∀ x∈f,x < 4:=fun f hf x hx=>by have:=(hl f hf).2 x hx;omega
 have h:=qN (l:=l.map code4) (n:=256) (kI hn fun a ha b hb e=>code4_inj a b (by rw [(hl a ha).1,(hl b hb).1]) (h4 a ha) (h4 b hb) e) (fun q hq=>by
  obtain ⟨f,hf,rfl⟩:=List.mem_map.1 hq
  have h1:=code4_lt f (h4 f hf)
  rw [(hl f hf).1] at h1
  have:4 ^ m≤4 ^ 4:=Nat.pow_le_pow_right (by omega) hm
  omega)
 simpa using h
theorem not_huge {d:DfaV} (h:d.final.length≤4):¬ Huge d:=by
 rintro ⟨m,hm,h1|⟨el,hn,h4,hit⟩⟩
 ·omega
 ·have:=few_of_four (by omega) hn hit;omega
def powT (n:Nat) (g:List Nat):Nat→List Nat
 | 0=>List.range n
 | k+1=>compT (powT n g k) g
theorem pow_four {n:Nat} (hn:n≤4) {g:List Nat} (hg:IsT n g):powT n g 4∈[powT n g 0,powT n g 1,powT n g 2,powT n g 3]:=by
 obtain ⟨hl,hx⟩:=hg
 have k4:∀ a b c d:Fin 4,powT 4 [a.1,b.1,c.1,d.1] 4∈[powT 4 [a.1,b.1,c.1,d.1] 0,powT 4 [a.1,b.1,c.1,d.1] 1,powT 4 [a.1,b.1,c.1,d.1] 2,powT 4 [a.1,b.1,c.1,d.1] 3]:=by decide +kernel
 have k3:∀ a b c:Fin 3,powT 3 [a.1,b.1,c.1] 4∈[powT 3 [a.1,b.1,c.1] 0,powT 3 [a.1,b.1,c.1] 1,powT 3 [a.1,b.1,c.1] 2,powT 3 [a.1,b.1,c.1] 3]:=by decide +kernel
 have k2:∀ a b:Fin 2,powT 2 [a.1,b.1] 4∈[powT 2 [a.1,b.1] 0,powT 2 [a.1,b.1] 1,powT 2 [a.1,b.1] 2,powT 2 [a.1,b.1] 3]:=by decide +kernel
 have k1:∀ a:Fin 1,powT 1 [a.1] 4∈[powT 1 [a.1] 0,powT 1 [a.1] 1,powT 1 [a.1] 2,powT 1 [a.1] 3]:=by decide +kernel
 match n,g,hl,hx with
 | 0,[],_,_=>decide
 | 1,[a],_,h=>exact k1 ⟨a,h a (by simp)⟩
 | 2,[a,b],_,h=>exact k2 ⟨a,h a (by simp)⟩ ⟨b,h b (by simp)⟩
 | 3,[a,b,c],_,h=>exact k3 ⟨a,h a (by simp)⟩ ⟨b,h b (by simp)⟩ ⟨c,h c (by simp)⟩
 | 4,[a,b,c,d],_,h=>exact k4 ⟨a,h a (by simp)⟩ ⟨b,h b (by simp)⟩ ⟨c,h c (by simp)⟩ ⟨d,h d (by simp)⟩
theorem valW_pow {gs:List (List Nat)} {n:Nat} (h1:gs.length=1) (w:List Nat) (hw:∀ a∈w,a < gs.length):valW gs n w=powT n (gs.getD 0 []) w.length:=by
 suffices hs:∀ (m:Nat) (w:List Nat),w.length=m→(∀ a∈w,a < gs.length)→valW gs n w=powT n (gs.getD 0 []) m from hs _ w rfl hw
 intro m
 induction m with
 | zero =>
  intro w hl _
  have:w=[]:=List.eq_nil_of_length_eq_zero hl
  subst this
  rfl
 | succ m ih =>
  intro w hl hw
  obtain ⟨v,a,rfl⟩:∃ v a,w=v ++ [a]:=⟨w.dropLast,w.getLast (by intro e;rw [e] at hl;simp at hl),(List.dropLast_concat_getLast _).symm⟩
  have ha:a=0:=by have:=hw a (by simp);omega
  subst ha
  rw [kA,ih v (by simpa using hl) (fun b hb=>hw b (by simp [hb]))]
  rfl
theorem pow_in {n:Nat} (hn:n≤4) {g:List Nat} (hg:IsT n g):∀ k,powT n g k∈[powT n g 0,powT n g 1,powT n g 2,powT n g 3]
 | 0=>by simp
 | k+1=>by
  have ih:=pow_in hn hg k
  have h4:=pow_four hn hg
  simp only [List.mem_cons,List.not_mem_nil,or_false] at ih
  show compT (powT n g k) g∈_
  rcases ih with e|e|e|e
  ·rw [e];exact List.mem_cons_of_mem _ (by simp [powT])
  ·rw [e];exact List.mem_cons_of_mem _ (List.mem_cons_of_mem _ (by simp [powT]))
  ·rw [e];exact List.mem_cons_of_mem _ (List.mem_cons_of_mem _ (List.mem_cons_of_mem _ (by simp [powT])))
  ·rw [e];exact h4
theorem EnI.four {gs:List (List Nat)} {n:Nat} {el:List (List Nat)} {pr la:List Int} (h:EnI gs n el pr la) (hg:∀ g∈gs,IsT n g) (h1:gs.length=1) (hn:n≤4):el.length≤4:=by
 have hg0:IsT n (gs.getD 0 []):=hg _ (getDm (by omega))
 have hin:∀ f∈el,f∈[powT n (gs.getD 0 []) 0,powT n (gs.getD 0 []) 1,powT n (gs.getD 0 []) 2,powT n (gs.getD 0 []) 3]:=by
  intro f hf
  obtain ⟨i,hi,rfl⟩:=List.getElem_of_mem hf
  have e:=h.word i hi
  rw [zV hi] at e
  rw [e,valW_pow h1 _ (mC h.words i hi).1]
  exact pow_in hn hg0 _
 obtain ⟨L,hL⟩:∃ L,L=[powT n (gs.getD 0 []) 0,powT n (gs.getD 0 []) 1,powT n (gs.getD 0 []) 2,powT n (gs.getD 0 []) 3]:=⟨_,rfl⟩
 have hL4:L.length=4:=by rw [hL];rfl
 rw [← hL] at hin
 have h:=qN (l:=el.map fun f=>L.idxOf f) (n:=4) (kI h.nodup fun a ha b hb e=>by
  have h1:=mY (d:=[]) (hin a ha)
  have h2:=mY (d:=[]) (hin b hb)
  rw [← h1,← h2,e]) (fun q hq=>by
  obtain ⟨f,hf,rfl⟩:=List.mem_map.1 hq
  rw [← hL4];exact List.idxOf_lt_length_of_mem (hin f hf))
 simpa using h
theorem jV.good {most:Nat} {T:List (List Nat)} {im:List Nat} (h:jV most T im) (h4:4≤most) (h12:most≤12):Good (tabI T) (im.map fun (x:Nat)=>(x:Int))∧T.length≤most∧(tabI T).length=T.length∧wK (tabI T)=0:=by
 rcases h with ⟨d,n,k,S,hvd,hk,hof,hl,rfl,rfl⟩|⟨d,n,S,hvd,hn,_,hof,rfl,rfl⟩
 ·obtain ⟨n',k',m,M,hvd',hM,hVM,hm,el,pr,la,ri,mm,hen,_,_,hT,_,hI,_⟩:=hof
  have hgl:=tF M m k'
  have hgT:=kL hVM
  rw [hT,hI]
  rw [hT,wI] at hl
  exact ⟨hen.good hgT (by omega) (by rw [hgl];exact hVM.k1) (by rw [hgl];exact hVM.k6),by rw [wI];exact hl,yW _,hen.ident hgT⟩
 ·cases S with
  | none=>exact absurd hof (not_huge (by rw [hvd.hn];exact hn))
  | some S =>
   obtain ⟨n',k',m,M,hvd',hM,hVM,hm,el,pr,la,ri,mm,hen,_,_,hT,_,hI,_⟩:=hof
   have hgl:=tF M m k'
   have hgT:=kL hVM
   have hk1:k'=1:=by have:=hvd.hk;have:=hvd'.hk;omega
   have hnn:n'=n:=by rw [← hvd'.hn,hvd.hn]
   have hmn:m≤4:=by
    have e1:M.final.length=m:=hVM.hn
    have e2:=(min_vd hvd').hn
    rw [← hM,e1] at e2
    have:=minN_le hvd'
    omega
   have hl:=hen.en.four hgT (by rw [hgl];exact hk1) hmn
   show Good (tabI S.tab) (S.images.map _)∧S.tab.length≤most∧(tabI S.tab).length=S.tab.length∧wK (tabI S.tab)=0
   rw [hT,hI]
   exact ⟨hen.good hgT (by omega) (by rw [hgl];exact hVM.k1) (by rw [hgl];exact hVM.k6),by rw [wI];omega,yW _,hen.ident hgT⟩
end Go.Proofs.YtdjhoadoiknaoaaDoor
namespace Go.Proofs.YtdjhoadoiknaoaaDoor
open Go.RowKit
theorem roundsGo_keep {n:Nat} {tb:Nat→Nat→Nat} (ht:Tb n tb):∀ (k:Nat) (l:List Nat) (d:Bool),FamOk n (l,d)→Pos l→FamOk n (xH n tb k (l,d))∧Pos (xH n tb k (l,d)).1
 | 0,l,d,hf,hp=>⟨hf,hp⟩
 | k+1,l,true,hf,hp=>by rw [vM];exact ⟨hf,hp⟩
 | k+1,l,false,hf,hp=>by
  rw [uR]
  exact roundsGo_keep ht k _ _ (pP ht hf) (hp.round ht hf.1)
def sV (letters:Int) (c:UInt8):Bool:=decide (97≤(c.toNat:Int)∧(c.toNat:Int) - 97 < letters)
def yH (s:ByteArray) (letters:Int):Bool:=decide (1≤letters∧letters≤6∧s.size≤2048) && s.data.toList.all (sV letters)
theorem qL (s:ByteArray) (letters:Int) (k:Nat) (hk:k < s.size) (h:(s[k].toNat:Int) < 97∨letters≤((s[k].toNat:Int) - 97) % 256):yH s letters=false:=by
 have hm:s[k]∈s.data.toList:=by
  have:s[k]=s.data[k]'(by simpa using hk):=rfl
  rw [this];simp
 have h2:sV letters s[k]=false:=by
  have:=UInt8.toNat_lt s[k]
  simp [sV];omega
 unfold yH
 rw [Bool.and_eq_false_iff];right
 rw [List.all_eq_false];exact ⟨_,hm,by simp [h2]⟩
theorem all_succ (s:ByteArray) (letters:Int) (k:Nat) (hk:k < s.size) (h:(s.data.toList.take k).all (sV letters)=true)
  (h1:97≤(s[k].toNat:Int)∧((s[k].toNat:Int) - 97) % 256 < letters):(s.data.toList.take (k+1)).all (sV letters)=true:=by
 rw [List.take_succ_eq_append_getElem (by simpa using hk),List.all_append,h]
 have:s.data.toList[k]'(by simpa using hk)=s[k]:=rfl
 have h3:=UInt8.toNat_lt s[k]
 simp [this,sV];omega
theorem wordValid_yes (s:ByteArray) (letters:Int) (k:Nat) (hk:s.size≤k) (h:1≤letters∧letters≤6∧s.size≤2048) (ha:(s.data.toList.take k).all (sV letters)=true):yH s letters=true:=by
 rw [List.take_of_length_le (by simpa using hk)] at ha
 simp [yH,ha,h]
set_option maxHeartbeats 400000 in
theorem wordValid_any (s:ByteArray) (letters:Int) (w:World) (hs:s.size≤maxLen) :
  Calls Tryd.prog 72 #[.string s,.int .i64 letters] w fun e w'=>e=.returned (.bool (yH s letters))∧w=w':=by
 unfold maxLen at hs
 by_cases h1:letters < 1
 ·go_enter Tryd.func72,Tryd.ntmps72
  go_wp2
  go_ret
  exact ⟨zT (by simp [yH];omega),rfl⟩
 by_cases h2:6 < letters
 ·go_enter Tryd.func72,Tryd.ntmps72
  go_wp2
  go_ret
  exact ⟨zT (by simp [yH];omega),rfl⟩
 by_cases h3:2048 < s.size
 ·go_enter Tryd.func72,Tryd.ntmps72
  go_wp2
  go_ret
  exact ⟨zT (by simp [yH];omega),rfl⟩
 go_enter Tryd.func72,Tryd.ntmps72
 go_wp2
 go_loop [19] (fun i=>∃ k:Nat,k≤s.size∧i=.int .i64 k∧(s.data.toList.take k).all (sV letters)=true) (fun i=>s.size - (intOf i).toNat)
 case atStart=>exact ⟨0,Nat.zero_le _,rfl,rfl⟩
 case round =>
  obtain ⟨k,hk,rfl,hall⟩:=hrel
  have HA:=Kh hall;clear hall
  by_cases hlt:k < s.size
  ·go_wp2
   ·go_ret
    exact ⟨zT (by rw [eq_comm];exact qL s letters k hlt (by omega)),rfl⟩
   ·go_round
    case rel=>exact ⟨k+1,by omega,by go_num,all_succ s letters k hlt HA.out (by omega)⟩
    case measure=>simp [intOf];omega
   ·go_ret
    exact ⟨zT (by rw [eq_comm];exact qL s letters k hlt (by omega)),rfl⟩
  ·go_wp2
   go_ret
   exact ⟨zT (by rw [eq_comm];exact wordValid_yes s letters k (by omega) (by omega) HA.out),rfl⟩
end Go.Proofs.YtdjhoadoiknaoaaDoor
namespace Go.Proofs.YtdjhoadoiknaoaaDoor
section
variable {n:Nat} {tb:Nat→Nat→Nat}
theorem qM {a a' b b':Nat} (ha:a &&& a'=a) (hb:b &&& b'=b):zP n tb a b &&& zP n tb a' b'=zP n tb a b:=by
 refine tT.2 fun z hz=>?_
 obtain ⟨x,y,hx,hy,h1,h2,e⟩:=(xD n tb a b z).1 hz
 exact (xD n tb a' b' z).2 ⟨x,y,hx,hy,tT.1 ha x h1,tT.1 hb y h2,e⟩
theorem powSet_mono {a a':Nat} (ha:a &&& a'=a) (k:Nat):yY n tb a k &&& yY n tb a' k=yY n tb a k:=by
 induction k with
 | zero=>exact ha
 | succ k ih=>exact qM ih ha
theorem powSet_mul (h:Tb n tb) {a m:Nat} (hi:zP n tb (yY n tb a m) (yY n tb a m)=yY n tb a m) (j:Nat):yY n tb a ((m+1) * j+m)=yY n tb a m:=by
 induction j with
 | zero=>simp
 | succ j ih =>
  have:=powSet_add h a ((m+1) * j+m) m
  rw [ih,hi] at this
  rw [show (m+1) * (j+1)+m=(m+1) * j+m+m+1 from by rw [Nat.mul_succ];omega]
  exact this.symm
theorem or_mono {a a' b b':Nat} (ha:a &&& a'=a) (hb:b &&& b'=b):(a ||| b) &&& (a' ||| b')=a ||| b:=by
 refine tT.2 fun z hz=>?_
 rw [Nat.testBit_or,Bool.or_eq_true] at hz ⊢
 rcases hz with hz|hz
 ·exact .inl (tT.1 ha z hz)
 ·exact .inr (tT.1 hb z hz)
theorem omegaGo_is {a:Nat}:∀ (k x:Nat),Ends n tb a k x→∃ m,zP n tb (yY n tb a m) (yY n tb a m)=yY n tb a m∧rD n tb a k x=yY n tb a m ||| zP n tb (yY n tb a m) a:=by
 intro k
 induction k with
 | zero =>
  rintro x ⟨i,m,rfl,hm,e⟩
  obtain rfl:m=0:=by omega
  exact ⟨i,e,rfl⟩
 | succ k ih =>
  intro x hx
  by_cases hi:zP n tb x x=x
  ·obtain ⟨i,m,rfl,_,_⟩:=hx
   exact ⟨i,hi,oE hi⟩
  ·obtain ⟨j,e,hj⟩:=kO hx hi
   obtain rfl:k=j:=by omega
   rw [oF hi]
   exact ih _ hj
theorem omegaSet_is (h:Tb n tb) {a:Nat} (ha:a < 2 ^ n):∃ m,zP n tb (yY n tb a m) (yY n tb a m)=yY n tb a m∧yC n tb a=yY n tb a m ||| zP n tb (yY n tb a m) a :=
 omegaGo_is _ _ (lD h ha)
theorem omegaSet_mono (h:Tb n tb) {a b:Nat} (ha:a < 2 ^ n) (hb:b < 2 ^ n) (hab:a &&& b=a):yC n tb a &&& yC n tb b=yC n tb a:=by
 obtain ⟨i,hi,ei⟩:=omegaSet_is h ha
 obtain ⟨j,hj,ej⟩:=omegaSet_is h hb
 have h1:=powSet_mul h hi j
 have h2:=powSet_mul h hj i
 have e:(i+1) * j+i=(j+1) * i+j:=by rw [Nat.succ_mul,Nat.succ_mul,Nat.mul_comm i j];omega
 have hp:yY n tb a i &&& yY n tb b j=yY n tb a i:=by
  rw [← h1,← h2,← e]
  exact powSet_mono hab _
 rw [ei,ej]
 exact or_mono hp (qM hp hab)
theorem closed_prod (ht:Tb n tb) {l:List Nat} (hl:∀ b∈l,b < 2 ^ n) (hc:yA n tb l=l) {a b:Nat} (ha:under l a=true) (hb:under l b=true):under l (zP n tb a b)=true:=by
 obtain ⟨x,hx,hax⟩:=yI.1 ha
 obtain ⟨y,hy,hby⟩:=yI.1 hb
 have h1:under (tK n tb l) (zP n tb a b)=true:=yI.2 ⟨zP n tb x y,wR.2 (.inr ⟨x,hx,.inl ⟨y,hy,rfl⟩⟩),qM hax hby⟩
 rw [← tS (vH ht hl)] at h1
 rw [← hc];exact h1
theorem closed_omega (ht:Tb n tb) {l:List Nat} (hl:∀ b∈l,b < 2 ^ n) (hc:yA n tb l=l) {a:Nat} (ha:under l a=true):under l (yC n tb a)=true:=by
 obtain ⟨x,hx,hax⟩:=yI.1 ha
 have hxl:=hl x hx
 have h1:under (tK n tb l) (yC n tb a)=true:=yI.2 ⟨yC n tb x,wR.2 (.inr ⟨x,hx,.inr rfl⟩),omegaSet_mono ht (iO hax hxl) hxl hax⟩
 rw [← tS (vH ht hl)] at h1
 rw [← hc];exact h1
end
end Go.Proofs.YtdjhoadoiknaoaaDoor
namespace Go.Proofs.YtdjhoadoiknaoaaDoor
section
variable {n:Nat} {tb:Nat→Nat→Nat}
theorem roundsGo_inv (ht:Tb n tb):∀ (k:Nat) (l:List Nat) (d:Bool),FamOk n (l,d)→(d=true→yA n tb l=l) →
  ((xH n tb k (l,d)).2=true→yA n tb (xH n tb k (l,d)).1=(xH n tb k (l,d)).1)∧(∀ s,under l s=true→under (xH n tb k (l,d)).1 s=true)∧FamOk n (xH n tb k (l,d))
 | 0,l,d,hf,hd=>⟨hd,fun _ h=>h,hf⟩
 | k+1,l,true,hf,hd=>by
  rw [vM]
  exact ⟨hd,fun _ h=>h,hf⟩
 | k+1,l,false,hf,_=>by
  rw [uR]
  have ih:=roundsGo_inv ht k (yA n tb l) (decide (yA n tb l=l)) (pP ht hf) (fun h=>by
   have e:=of_decide_eq_true h
   rw [e,e])
  exact ⟨ih.1,fun s hs=>ih.2.1 s (nW ht hf.1 hs),ih.2.2⟩
theorem closeFrom_inv (ht:Tb n tb) {l:List Nat} (hf:FamOk n (l,false)) :
  yA n tb (vY n tb l)=vY n tb l∧(∀ s,under l s=true→under (vY n tb l) s=true)∧(∀ b∈vY n tb l,b < 2 ^ n)∧maxOf n (vY n tb l)=vY n tb l:=by
 have h:=roundsGo_inv ht (2 ^ n+1) l false hf (by simp)
 have h2:=pZ ht (2 ^ n+1) l hf (by have:=gap_le n l;omega)
 exact ⟨h.1 h2,h.2.1,h.2.2.1,h.2.2.2⟩
end
end Go.Proofs.YtdjhoadoiknaoaaDoor
namespace Go.Proofs.YtdjhoadoiknaoaaDoor
open Go.RowKit
structure StepV where
 op:Int
 a:Int
 b:Int
 word:ByteArray
 set:Int
instance:Inhabited StepV:=⟨⟨0,0,0,ByteArray.empty,0⟩⟩
structure StepsAt (w:World) (g:Nat) (ss:List StepV):Prop where
 lt:g < w.heap.size
 op:∀ i,i < ss.length→w.cell? ⟨g,i * 5,none⟩=some (.int .i64 (ss.getD i default).op)
 a:∀ i,i < ss.length→w.cell? ⟨g,i * 5+1,none⟩=some (.int .i64 (ss.getD i default).a)
 b:∀ i,i < ss.length→w.cell? ⟨g,i * 5+2,none⟩=some (.int .i64 (ss.getD i default).b)
 word:∀ i,i < ss.length→w.cell? ⟨g,i * 5+3,none⟩=some (.string (ss.getD i default).word)
 set:∀ i,i < ss.length→w.cell? ⟨g,i * 5+4,none⟩=some (.int .i64 (ss.getD i default).set)
theorem StepsAt.kept {w w':World} {g:Nat} {ss:List StepV} {row:Option Nat} (h:StepsAt w g ss) (hg:w.grownBy w' row) (hr:row≠some g):StepsAt w' g ss:=by
 have hb:=hg.block g h.lt (fun e=>hr e.symm)
 exact ⟨Nat.lt_of_lt_of_le h.lt hg.size,fun i hi=>(World.cell?_of_block hb).trans (h.op i hi),fun i hi=>(World.cell?_of_block hb).trans (h.a i hi),fun i hi=>(World.cell?_of_block hb).trans (h.b i hi),fun i hi=>(World.cell?_of_block hb).trans (h.word i hi),fun i hi=>(World.cell?_of_block hb).trans (h.set i hi)⟩
def hits (s:Int) (x:StepV):Bool:=bits .and .i64 x.set s == s
def sK (ss:List StepV) (s:Int):Int:=match ss.findIdx? (hits s) with
 | some i=>i
 | none=>-1
def noHit (ss:List StepV) (s:Int) (k:Nat):Prop:=∀ i,i < k→hits s (ss.getD i default)=false
theorem find_hit {ss:List StepV} {s:Int} {k:Nat} (hk:k < ss.length) (h:noHit ss s k) (hh:hits s (ss.getD k default)=true):sK ss s=k:=by
 have:ss.findIdx? (hits s)=some k:=by
  rw [List.findIdx?_eq_some_iff_getElem]
  refine ⟨hk,by simpa [List.getD,List.getElem?_eq_getElem hk] using hh,fun j hj=>?_⟩
  have:=h j hj
  simp [List.getD,List.getElem?_eq_getElem (show j < ss.length by omega)] at this
  simp [this]
 rw [sK,this]
theorem find_none {ss:List StepV} {s:Int} (h:noHit ss s ss.length):sK ss s = -1:=by
 have:ss.findIdx? (hits s)=none:=by
  rw [List.findIdx?_eq_none_iff]
  intro x hx
  obtain ⟨i,hi,rfl⟩:=List.getElem_of_mem hx
  have:=h i hi
  simpa [List.getD,List.getElem?_eq_getElem hi] using this
 rw [sK,this]
end Go.Proofs.YtdjhoadoiknaoaaDoor
