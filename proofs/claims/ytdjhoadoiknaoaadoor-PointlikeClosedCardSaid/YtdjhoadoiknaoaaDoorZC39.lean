/- Part 39 of the proof: MDef. -/
import Derived.Test.YtdjhoadoiknaoaaDoorZC38
set_option linter.unusedVariables false
set_option linter.unusedSimpArgs false
namespace Go.Proofs.YtdjhoadoiknaoaaDoor
open Go.RowKit
def DefAt (WL:List (List Nat)) (W:List Nat) (a:Nat) (x:Int):Prop:=0≤x∧x < WL.length∧∃ j,j≤W.length∧WL.getD x.toNat []=(W ++ [a]).drop j∧∀ j',j' < j→(W ++ [a]).drop j' ∉ WL
def DefD (m:DfaV) (n:Nat):Prop:=m.start=0∧∀ k:Nat,m.letters=k→∃ most,1≤most∧most≤2∧n=(tR k most).length∧∀ q a,q < n→a < k→DefAt (tR k most) ((tR k most).getD q []) a (ent m.next q a)
theorem words_facts {letters most:Nat} (h1:1≤letters) (h2:letters≤2) (h3:1≤most) (h4:most≤2):(tR letters most).length≤7∧1≤(tR letters most).length∧(∀ u∈tR letters most,u.length≤2∧∀ c∈u,c < 2)∧∀ a,a < letters→[a]∈tR letters most :=
 small2 (P:=fun letters most=>(tR letters most).length≤7∧1≤(tR letters most).length∧(∀ u∈tR letters most,u.length≤2∧∀ c∈u,c < 2)∧∀ a,a < letters→[a]∈tR letters most) h1 h2 h3 h4
  ⟨by decide +kernel,by decide +kernel,by decide +kernel,by decide +kernel⟩
theorem lets_inj {u v:List Nat} (hu:∀ c∈u,c < 100) (hv:∀ c∈v,c < 100) (h:strOfNums (lets u)=strOfNums (lets v)):u=v:=by
 have h2:(strOfNums (lets u)).data.toList=(strOfNums (lets v)).data.toList:=by rw [h]
 rw [strOfNums_data,strOfNums_data,lets,lets,List.map_map,List.map_map] at h2
 have key:∀ (u v:List Nat),(∀ c∈u,c < 100)→(∀ c∈v,c < 100)→u.map ((fun (n:Int)=>UInt8.ofNat n.toNat) ∘ fun (a:Nat)=>97+(a:Int))=v.map ((fun (n:Int)=>UInt8.ofNat n.toNat) ∘ fun (a:Nat)=>97+(a:Int))→u=v:=by
  intro u
  induction u with
  | nil=>intro v _ _ h;cases v with
   | nil=>rfl
   | cons=>simp at h
  | cons x u ih =>
   intro v hu hv h
   cases v with
   | nil=>simp at h
   | cons y v =>
    simp only [List.map_cons,List.cons.injEq,Function.comp] at h
    have hx:=hu x List.mem_cons_self
    have hy:=hv y List.mem_cons_self
    have e:=congrArg UInt8.toNat h.1
    rw [UInt8.toNat_ofNat',UInt8.toNat_ofNat'] at e
    have e1:((97+(x:Int)).toNat) % 2 ^ 8=97+x:=by omega
    have e2:((97+(y:Int)).toNat) % 2 ^ 8=97+y:=by omega
    rw [e1,e2] at e
    have:=ih v (fun c hc=>hu c (List.mem_cons_of_mem _ hc)) (fun c hc=>hv c (List.mem_cons_of_mem _ hc)) h.2
    rw [this,show x=y by omega]
 exact key u v hu hv h2
theorem bytes_same {a b:ByteArray} (h:a.toList=b.toList):a=b:=by
 rw [ByteArray.toList_eq,ByteArray.toList_eq] at h
 exact ByteArray.ext (Array.toList_inj.1 h)
theorem Arr.keptOwn {w w':World} {g e e' base n:Nat} {xs ys:List Value} {v:Value} (h:Arr w g e xs) (ho:w.ownsRow base e' 1 v n ys) (hne:e'≠e) (hg:w.grownBy w' v.ownBlock):Arr w' g e xs :=
 h.kept hg (fun er=>by
  obtain ⟨cur,rest,hgc,_⟩:=h
  exact zS ho hgc hne er)
set_option maxRecDepth 100000 in
set_option maxHeartbeats 1000000 in
theorem mdef_any (B tb:Nat) (w:World) (letters:Nat) (h1:1≤letters) (h2:letters≤2) (hT:xW B w tb) :
  Calls Tryd.prog 91 #[.pointer (some ⟨tb,0,none⟩),.int .i64 (letters:Int)] w (oR DefD B tb w letters 7):=by
 have htb:=hT.lt
 have hBt:=hT.ge
 obtain ⟨wA,hWA⟩:∃ wA,wA=(w.alloc (.cells #[.int .i64 0,.int .i64 0,.slice none 0 0,.slice none 0 0] 28)).alloc (.cells #[.int .i64 letters,.int .i64 0,.slice none 0 0,.slice none 0 0] 28):=⟨_,rfl⟩
 obtain ⟨hb1,hb2,hgA,hzA⟩:=qZ w #[.int .i64 0,.int .i64 0,.slice none 0 0,.slice none 0 0] #[.int .i64 letters,.int .i64 0,.slice none 0 0,.slice none 0 0] 28
 rw [← hWA] at hb1 hb2 hgA hzA
 obtain ⟨P,hP⟩:∃ P,P=w.heap.size:=⟨_,rfl⟩
 have HPE:=Kh hP
 rw [← hP] at hb1 hb2 hzA htb
 have hTA:=hT.kept hgA (by simp)
 have HB1:=Kh hb1;have HB2:=Kh hb2;have HGA:=Kh hgA;have HWA:=Kh hWA;have HTA:=Kh hTA
 clear hb1 hb2 hgA hWA hTA hT
 go_enter Tryd.func91,Tryd.ntmps91
 go_upto_region 2 with fail
 rw [← HWA.out,← HPE.out]
 clear hP
 go_wp2_with fail
 refine (uV B tb _ _ (by omega) HTA.out).mono ?_
 rintro e w1 ⟨r,rfl,hr0,hr1,hT1,hg1⟩
 replace hr1:=hr1 (by omega)
 obtain ⟨most,rfl⟩:∃ n:Nat,r=(n:Int) - 1:=⟨(r+1).toNat,by omega⟩
 have hm1:1≤most:=by omega
 have hm2:most≤2:=by omega
 have hn0:(1:Int)+((most:Int) - 1)=most:=by omega
 have HT1:=Kh hT1;have HG1:=Kh hg1
 have HWF:=Kh (words_facts h1 h2 hm1 hm2)
 clear hr0 hr1 hT1 hg1
 go_wp2_with fail
 refine (words_any w1 letters most h1 h2 hm1 hm2).mono ?_
 rintro e w2 ⟨sl,cl,rfl,hown,hg2⟩
 obtain ⟨WL,hWL⟩:∃ WL,WL=tR letters most:=⟨_,rfl⟩
 rw [← hWL] at hown HWF ⊢
 obtain ⟨N,hN⟩:∃ N,N=WL.length:=⟨_,rfl⟩
 have HNE:=Kh hN
 have hN7:N≤7:=by rw [hN];exact HWF.out.1
 have hN1:1≤N:=by rw [hN];exact HWF.out.2.1
 rw [← hN] at hown ⊢
 obtain ⟨lb,rfl,hl1,hl2,hLA⟩:=yQ hown (by omega)
 have hlb:=(hown.lt lb rfl).1
 have hz1:=HG1.out.size
 have hcl:cl≤9223372036854775807:=by unfold maxLen at hl2;omega
 have HA2:=Kh hLA
 have hbo:=zE (zE HB2.out HG1.out (by simp;omega)) hg2 (by simp)
 have hH2:Half (P+1) w2 (P+1) letters 0 [] [] [] none 0 none 0:=⟨hbo,World.ownsRow_nil _ _ _ _,World.ownsRow_nil _ _ _ _,OwnsT.nil⟩
 have H2:=Kh hH2
 have HB:=Kh (zE (zE HB1.out HG1.out (by simp;omega)) hg2 (by simp))
 have HT2:=Kh (HT1.out.kept hg2 (by simp))
 have HG2:=Kh (zF (zG (zF (zX w (some tb)) HGA.out (by simp)) HG1.out) hg2 (by simp))
 have HWLE:=Kh hWL
 clear hown hg2 hLA hbo hH2 HT1 HG1 hN hWL
 go_wp2
 go_loopg [8,9,10,11,12,13,14,24] N (fun gh v8 v9 v10 v11 v12 v13 v14 i wr=>∃ (q:Nat) (fs:List Bool) (t:List (List Int)) (hs:List Value) (sf:Option Addr) (cf:Nat) (sn:Option Addr) (cn:Nat),gh+q=N∧i=.int .i64 q∧fs.length=q∧t.length=q∧qK t N letters∧(∀ q' a,q' < q→a < letters→DefAt WL (WL.getD q' []) a (ent t q' a))∧Half (P+1) wr (P+1) letters 0 fs t hs sf cf sn cn∧xW B wr tb∧wr.heap[P]?=some (.cells #[.int .i64 0,.int .i64 0,.slice none 0 0,.slice none 0 0] 28 (0,0))∧Arr wr lb 9 (strsL WL)∧w.grownBy wr (some tb))
 case atStart=>exact ⟨0,[],[],[],none,0,none,0,by omega,rfl,rfl,rfl,(fun r hr=>by simp at hr),(fun q' a h=>by omega),H2.out,HT2.out,HB.out,HA2.out,HG2.out⟩
 case round =>
  obtain ⟨q,fs,t,hs,sf,cf,sn,cn,hg,rfl,rfl,htl,hri,hdf,hH,hTr,hb1r,hAr,hgr⟩:=hrel
  have HG:=Kh hg;have HH:=Kh hH;have HTR:=Kh hTr;have HB1R:=Kh hb1r;have HGR:=Kh hgr;have HRI:=Kh hri;have HAR:=Kh hAr;have HDF:=Kh hdf;have HTL:=Kh htl
  clear hg hH hTr hb1r hgr hri hAr hdf htl H2 HT2 HB HA2 HG2
  by_cases hq:fs.length < N
  ·have hq':(fs.length:Int) < N:=by omega
   have hcw:=HAR.out.strL fs.length (by rw [← HNE.out];exact hq)
   obtain ⟨W,hW⟩:∃ W,W=WL.getD fs.length []:=⟨_,rfl⟩
   rw [← hW] at hcw
   obtain ⟨X,hX⟩:∃ X,X=strOfNums (lets W):=⟨_,rfl⟩
   rw [← hX] at hcw
   have HWE:=Kh hW;have HX:=Kh hX
   clear hX hW
   obtain ⟨w5,hw5⟩:∃ w5,w5=wr.drew:=⟨_,rfl⟩
   have hg5:wr.grownBy w5 none:=by rw [hw5];exact zU wr none
   have HW5:=Kh hw5
   have HH5:=Kh (HH.out.grow hg5);have HT5:=Kh (HTR.out.kept hg5 (by simp));have HG5:=Kh (zF HGR.out hg5 (by simp));have HB5:=Kh (zE HB1R.out hg5 (by simp));have HA5:=Kh (HAR.out.kept hg5 (by simp))
   obtain ⟨d0,d1,d2,d3⟩:=zR HH5.out.box
   have C2:=Kh d2
   clear hw5 hg5 d0 d1 d2 d3 HH HTR HGR HB1R HAR
   go_upto_region 6 with fail
   clear hcw
   refine wp_region_noPanic ?_
   refine yT (G:=Until 8 (fun _=>True) (fun W=>W.cell? ⟨P+1,2,none⟩=some (.slice sf fs.length cf))) (by kernel_rfl) ?_
   rw [← HW5.out]
   refine takeC (i:=0) (v:=?_) rfl rfl (Or.inl ⟨by rfl,?_⟩) ⟨trivial,fun _=>C2.out⟩ ?_
   rotate_left
   ·(intro wz hz;(try dsimp only at hz);go_simp;(try with_reducible rfl))
   try simp only [Act.put,sPa,sPb,sPc]
   refine takeD (i:=1) (v:=?_) rfl rfl (Or.inl ⟨by rfl,?_⟩) ⟨trivial,fun _=>C2.out⟩ ?_
   rotate_left
   ·(rintro wz ⟨-,hz⟩;(try dsimp only at hz);go_simp;(try with_reducible rfl))
   try simp only [Act.put,sPa,sPb,sPc]
   refine takeC (i:=2) (v:=?_) rfl rfl (Or.inl ⟨by rfl,?_⟩) ⟨trivial,fun _=>C2.out⟩ ?_
   rotate_left
   ·(intro wz hz;(try dsimp only at hz);go_simp;(try with_reducible rfl))
   try simp only [Act.put,sPa,sPb,sPc]
   refine oneG (i:=3) (by kernel_rfl) rfl (fun K hK=>?_)
   go_simp
   go_at_call 43
   refine (uV B tb _ _ (by omega) HT5.out).mono ?_
   rintro e w6 ⟨b,rfl,hb0,hb1,hT6,hg6⟩
   have hH6:=HH5.out.tape HT5.out hg6
   obtain ⟨d0,d1,d2,d3⟩:=zR hH6.box
   have C2:=Kh d2
   refine hK.out _ _ ⟨trivial,fun _=>C2.out⟩ ?_
   clear hK K d0 d1 d2 d3
   try simp only [Act.put,sPa,sPb,sPc]
   refine takeC (i:=4) (v:=?_) rfl rfl (Or.inl ⟨by rfl,?_⟩) ⟨trivial,fun _=>C2.out⟩ ?_
   rotate_left
   ·(intro wz hz;(try dsimp only at hz);go_simp;(try with_reducible rfl))
   try simp only [Act.put,sPa,sPb,sPc]
   refine oneG (i:=5) (by kernel_rfl) rfl (fun K hK=>?_)
   go_simp
   have hH7:=hH6.grow (Ga w6 (.cells #[.bool (decide (b=1))] 4) none)
   have hgn:=heap_alloc_new w6 (.cells #[.bool (decide (b=1))] 4)
   obtain ⟨d0,d1,d2,d3⟩:=zR hH7.box
   refine hK.out _ _ ⟨trivial,fun _=>d2⟩ ?_
   clear hK K d0 d1 d2 d3
   try simp only [Act.put,sPa,sPb,sPc]
   have hz7:P+2≤w6.heap.size:=by have:=zQ hH6.box;omega
   refine oneG (i:=6) (by kernel_rfl) rfl (fun K hK=>?_)
   refine kB rfl (.tmp 29) (.tmp 33) 25 rfl wD (P+1) _ _ _ rfl hH7.ownF _ _ _ rfl hgn rfl ?g1 ?g2 ?g3 ?_
   case g1=>unfold maxLen;omega
   case g2=>omega
   case g3=>rw [zO];omega
   intro sa' sc' w8 hown8 hg8
   have hbx:=zE hH7.box hg8 (fun e=>zS hH7.ownF hH7.box (by decide) e)
   obtain ⟨d0,d1,d2,d3⟩:=zR hbx
   have f2:=zD hbx 2
   refine hK.out _ _ ⟨trivial,fun _=>d2⟩ ?_
   clear hK K
   try simp only [Act.put,sPa,sPb,sPc]
   have C2:=Kh d2
   refine takeC (i:=7) (v:=?_) rfl rfl (Or.inl ⟨by rfl,?_⟩) ⟨trivial,fun _=>C2.out⟩ ?_
   rotate_left
   ·(intro wz hz;(try dsimp only at hz);go_simp;(try with_reducible rfl))
   try simp only [Act.put,sPa,sPb,sPc]
   refine oneG (i:=8) (by kernel_rfl) rfl (fun K hK=>?_)
   go_simp
   refine hK.out _ _ ⟨trivial,fun h=>by simp at h⟩ ?_
   clear hK K d0 d1 d2 d3 f2 hbx
   try simp only [Act.put,sPa,sPb,sPc]
   refine doneG (by kernel_rfl) ?_ _
   refine NoPanic.normal ?_
   obtain ⟨hF,hgF⟩:=hH7.pushF hown8 hg8 rfl
   have hT9:=((hT6.kept (Ga w6 (.cells #[.bool (decide (b=1))] 4) none) (by simp)).kept hg8 (fun k e=>by have:=(hH7.ownF.lt k e).1;omega)).kept (zH w8 ⟨P+1,2,none⟩ (.slice sa' (fs.length+1) sc')) (fun k e=>by have e:P+1=k:=Oj e;omega)
   have hb9:=zE (zE (zE (zE HB5.out hg6 (by simp;omega)) (Ga w6 (.cells #[.bool (decide (b=1))] 4) none) (by simp)) hg8 (fun e=>by have:=(hH7.ownF.lt _ e).1;omega)) (zH w8 ⟨P+1,2,none⟩ (.slice sa' (fs.length+1) sc')) (by simp)
   have hg9:w.grownBy (w8.setCell ⟨P+1,2,none⟩ (.slice sa' (fs.length+1) sc')) (some tb):=zF (zF (zF (zG HG5.out hg6) (Ga w6 (.cells #[.bool (decide (b=1))] 4) none) (by simp)) hg8 (fun k e=>by have:=(hH7.ownF.lt k e).1;have:=HPE.out;omega)) (zH w8 ⟨P+1,2,none⟩ (.slice sa' (fs.length+1) sc')) (fun k e=>by have e:P+1=k:=Oj e;have:=HPE.out;omega)
   have hA9:=(((HA5.out.kept hg6 (by simp;omega)).kept (Ga w6 (.cells #[.bool (decide (b=1))] 4) none) (by simp)).keptOwn hH7.ownF (by decide) hg8).kept (zH w8 ⟨P+1,2,none⟩ (.slice sa' (fs.length+1) sc')) (by simp;omega)
   obtain ⟨w9,hw9⟩:∃ w9,w9=w8.setCell ⟨P+1,2,none⟩ (.slice sa' (fs.length+1) sc'):=⟨_,rfl⟩
   rw [← hw9] at hF hT9 hb9 hg9 hA9 ⊢
   have HF:=Kh hF;have HT9:=Kh hT9;have HB9:=Kh hb9;have HG9:=Kh hg9;have HA9:=Kh hA9
   clear hA9 hw9 hgF hF hT9 hb9 hg9 hown8 hg8 hgn hH7 hH6 hT6 hg6 C2 HH5 HT5 HG5 HB5 HW5
   have hWL2:W.length≤2∧∀ c∈W,c < 2:=by rw [HWE.out];exact HWF.out.2.2.1 _ (getDm (by rw [← HNE.out];exact hq))
   have hW2:=hWL2.1
   have HW2:=Kh hWL2.2
   clear hWL2
   go_wp2
   go_loopg [9,10,11,12,13,14] letters (fun gh ov i v11 v12 v13 v14 wx=>∃ (a:Nat) (row:List Int) (sr:Option Addr) (cr:Nat),gh+a=letters∧i=.int .i64 a∧row.length=a∧ov=.slice sr row.length cr∧(∀ a',a' < a→DefAt WL W a' (row.getD a' 0))∧wx.ownsRow w9.heap.size 3 1 (.slice sr row.length cr) row.length (ints row)∧w9.grownBy wx none)
   case atStart=>exact ⟨0,[],none,0,by omega,rfl,rfl,rfl,(fun a' h=>by omega),World.ownsRow_nil _ _ _ _,zX _ _⟩
   case round =>
    obtain ⟨a,row,sr,cr,hg,rfl,rfl,rfl,hrd,hown,hgx⟩:=hrel
    have HGA2:=Kh hg;have HOWR:=Kh hown;have HGX:=Kh hgx;have HRD:=Kh hrd
    clear hg hown hgx hrd
    by_cases ha:row.length < letters
    ·have ha':(row.length:Int) < letters:=by omega
     have h97:IntKind.i64.wrap (97+(row.length:Int))=97+(row.length:Int):=IntWalk.i64_in _ (by omega)
     have hby:IntKind.u8.wrap (97+(row.length:Int))=97+(row.length:Int):=IntWalk.u8_in _ (by omega)
     obtain ⟨Y,hY⟩:∃ Y,Y=strOfNums [97+(row.length:Int)]:=⟨_,rfl⟩
     have hcv:∀ (W:World) (g:Nat),W.cell? ⟨g,0,none⟩=some (.int .u8 (97+(row.length:Int)))→(convert 89 9 (.slice (some ⟨g,0,none⟩) 1 1)).run Tryd.prog W=.ok (.string Y) W:=fun W g h=>by rw [hY];exact pY 89 5 Tryd.underlying89 Tryd.underlying5 9 Tryd.underlying9 h
     have hcc:∀ W0:World,(Op.stringOp .add X Y).run Tryd.prog W0=.ok (.string (X ++ Y)) W0:=fun W0=>run_string_add_sum W0 X Y (by
      rw [hY,HX.out,strOfNums_size,strOfNums_size];simp [lets];omega)
     have HXY:Hid (X ++ Y=strOfNums (lets (W ++ [row.length]))):=Kh (by rw [HX.out,hY,kZ];simp [lets])
     have hga:=Ga wr (.cells #[.int .u8 (97+(row.length:Int))] 5) none
     have HOA:=Kh (yB HOWR.out hga (by simp));have HGB:=Kh (zF HGX.out hga (by simp))
     clear hY hga
     go_wp2
     clear hcv hcc h97 hby
     obtain ⟨wb,hwb⟩:∃ wb,wb=wr.alloc (.cells #[.int .u8 (97+(row.length:Int))] 5):=⟨_,rfl⟩
     try rw [← hwb] at HOA HGB ⊢
     clear hwb
     have HV:Hid (∀ c∈W ++ [row.length],c < 100):=Kh (fun c hc=>by
      rcases List.mem_append.1 hc with hc|hc
      ·have:=HW2.out c hc;omega
      ·rw [List.mem_singleton] at hc;omega)
     have HVL:Hid ((W ++ [row.length]).length=W.length+1):=Kh (by simp)
     have HLAST:Hid ((W ++ [row.length]).drop W.length∈WL):=Kh (by
      rw [List.drop_append_of_le_length (Nat.le_refl _),List.drop_length,List.nil_append]
      exact HWF.out.2.2.2 _ ha)
     obtain ⟨V,hV⟩:∃ V,V=W ++ [row.length]:=⟨_,rfl⟩
     rw [← hV] at HV HVL HXY HLAST
     have HVE:=Kh hV
     clear hV
     have hsz9:=HGB.out.size
     go_loopg [11,12,13,14] (W.length+1) (fun gh v11 v12 v13 v14 wy=>wy=wb∧((∃ j,v12=.int .i64 (-1)∧j≤W.length∧gh+j=W.length+1∧v11=.string (strOfNums (lets (V.drop j)))∧∀ j',j' < j→V.drop j' ∉ WL)∨(∃ (x:Nat) (y:ByteArray),v12=.int .i64 (x:Int)∧v11=.string y∧DefAt WL W row.length x)))
     case atStart=>exact ⟨rfl,.inl ⟨0,rfl,by omega,by omega,by rw [HXY.out];rfl,fun j' h=>by omega⟩⟩
     case round =>
      obtain ⟨hwe,hst⟩:=hrel
      subst hwe
      rcases hst with ⟨j,rfl,hj,hgj,rfl,hno⟩|⟨x,y,rfl,rfl,hdef⟩
      ·have HGJ:=Kh hgj;have HNO:=Kh hno
       clear hgj hno
       obtain ⟨Z,hZ⟩:∃ Z,Z=strOfNums (lets (V.drop j)):=⟨_,rfl⟩
       have hZs:Z.size=W.length+1 - j:=by rw [hZ,strOfNums_size];simp [lets,HVL.out]
       rw [← hZ]
       have HZ:=Kh hZ
       have hZ1:1≤Z.size:=by omega
       have hZ3:Z.size≤3:=by omega
       have HZS:=Kh hZs
       clear hZ hZs
       go_wp2
       have HAC:=Kh (HA9.out.kept HGB.out (by simp))
       go_loopg [12,13,14,52] N (fun gh v12 v13 v14 i wz=>wz=wr∧∃ (k:Nat) (m:Int),gh+k=N∧i=.int .i64 k∧v12=.int .i64 m∧((m = -1∧∀ k',k' < k→WL.getD k' []≠V.drop j)∨(0≤m∧m < N∧WL.getD m.toNat []=V.drop j)))
       case atStart=>exact ⟨rfl,0,-1,by omega,rfl,rfl,.inl ⟨rfl,fun k' h=>by omega⟩⟩
       case round =>
        obtain ⟨hwe,k,m,hgk,rfl,rfl,hm⟩:=hrel
        subst hwe
        have HGK:=Kh hgk;have HM:=Kh hm
        clear hgk hm
        by_cases hk:k < N
        ·have hk':(k:Int) < N:=by omega
         have hck:=HAC.out.strL k (by rw [← HNE.out];exact hk)
         obtain ⟨K2,hK2⟩:∃ K2,K2=strOfNums (lets (WL.getD k [])):=⟨_,rfl⟩
         rw [← hK2] at hck
         have HK2:=Kh hK2
         clear hK2
         by_cases hx:WL.getD k []=V.drop j
         ·have heq:=Kh hx
          have hbq:(K2.toList == Z.toList)=true:=by rw [HK2.out,HZ.out,hx];simp
          clear hx
          go_wp2
          go_roundg (N - (k+1))
          case measure=>have:=HGK.out;omega
          case rel=>exact ⟨rfl,k+1,k,by omega,by go_num,rfl,.inr ⟨by omega,by omega,by simpa using heq.out⟩⟩
         ·have hne:=Kh hx
          have hbq:(K2.toList == Z.toList)=false:=by
           rw [beq_eq_false_iff_ne]
           intro e
           refine hx (lets_inj (fun c hc=>?_) (fun c hc=>HV.out c (List.mem_of_mem_drop hc)) (by rw [← HK2.out,← HZ.out];exact bytes_same e))
           have:=(HWF.out.2.2.1 _ (getDm (d:=[]) (by rw [← HNE.out];exact hk))).2 c hc
           omega
          clear hx
          go_wp2
          go_roundg (N - (k+1))
          case measure=>have:=HGK.out;omega
          case rel =>
           refine ⟨rfl,k+1,m,by omega,by go_num,rfl,?_⟩
           rcases HM.out with ⟨e1,e2⟩|e1
           ·refine .inl ⟨e1,fun k' h=>?_⟩
            rcases Nat.lt_or_ge k' k with h2|h2
            ·exact e2 k' h2
            ·have:k'=k:=by omega
             subst this;exact hne.out
           ·exact .inr e1
        ·have hkN:k=N:=by have:=HGK.out;omega
         have HHM:=Kh HM.out
         go_wp2
         have hcut:Hid (Z.extract 1 Z.size=strOfNums (lets (V.drop (j+1)))):=Kh (by
          apply ByteArray.ext
          apply Array.toList_inj.1
          rw [HZ.out,ByteArray.data_extract,Array.toList_extract,strOfNums_data,strOfNums_data,List.extract_eq_take_drop,strOfNums_size]
          rw [List.take_of_length_le (by simp)]
          rw [show V.drop (j+1)=(V.drop j).drop 1 by rw [List.drop_drop]]
          simp [lets,List.map_drop])
         rcases HHM.out with ⟨e1,e2⟩|⟨e1,e2,e3⟩
         ·go_roundg (W.length+1 - (j+1))
          case measure=>have:=HGJ.out;omega
          case rel =>
           have hnin:V.drop j ∉ WL:=fun hm=>by
            obtain ⟨k',hk',e4⟩:=List.getElem_of_mem hm
            exact e2 k' (by rw [hkN,HNE.out];exact hk') (by rw [← e4];simp [List.getD_eq_getElem?_getD,hk'])
           have hjW:j < W.length:=by
            rcases Nat.lt_or_ge j W.length with h|h
            ·exact h
            ·have e5:j=W.length:=by omega
             rw [e5] at hnin
             exact absurd HLAST.out hnin
           exact ⟨rfl,.inl ⟨j+1,by rw [e1],by omega,by omega,by rw [hcut.out],fun j' h=>by
            rcases Nat.lt_or_ge j' j with h2|h2
            ·exact HNO.out j' h2
            ·have:j'=j:=by omega
             subst this;exact hnin⟩⟩
         ·go_roundg (W.length+1 - (j+1))
          case measure=>have:=HGJ.out;omega
          case rel =>
           refine ⟨rfl,.inr ⟨m.toNat,Z.extract 1 Z.size,by rw [Int.toNat_of_nonneg e1],rfl,?_⟩⟩
           rw [Int.toNat_of_nonneg e1]
           exact ⟨e1,by rw [← HNE.out];exact e2,j,hj,by rw [e3,HVE.out],fun j' h=>by rw [← HVE.out];exact HNO.out j' h⟩
      ·have HDX:=Kh hdef
       have hx0:¬ (x:Int) = -1:=by omega
       clear hdef
       go_wp2_with (first|(at_builtin;refine app1 rfl _ _ _ rfl yG w9.heap.size _ row.length (ints row) rfl HOA.out _ rfl rfl ?c1 ?c2 ?c3 ?_)|fail)
       case c1=>unfold maxLen;omega
       case c2=>omega
       case c3=>exact hsz9
       intro sr' cr' w10 hown10 hg10 hlt10
       have HO10:=Kh hown10
       have HG10:=Kh (zF HGB.out hg10 (fun k e=>(HOA.out.lt k e).1))
       clear hown10 hg10
       go_wp2
       go_roundg (letters - (row.length+1))
       case measure=>have:=HGA2.out;omega
       case rel =>
        refine ⟨row.length+1,row ++ [(x:Int)],sr',cr',by omega,by go_num,by simp,by simp,fun a' h=>?_,?_,HG10.out⟩
        ·rcases Nat.lt_or_ge a' row.length with h2|h2
         ·rw [List.getD_eq_getElem?_getD,List.getElem?_append_left h2,← List.getD_eq_getElem?_getD]
          exact HRD.out a' h2
         ·have e:a'=row.length:=by omega
          subst e
          rw [List.getD_eq_getElem?_getD,List.getElem?_append_right (Nat.le_refl _)]
          simpa using HDX.out
        ·rw [show ints (row ++ [(x:Int)])=ints row ++ [.int .i64 (x:Int)] by simp [ints],List.length_append,List.length_singleton]
         exact HO10.out
    ·have hrn:row.length=letters:=by have:=HGA2.out;omega
     have hH:=HF.out.grow HGX.out
     have HTX:=Kh (HT9.out.kept HGX.out (by simp))
     have HAX:=Kh (HA9.out.kept HGX.out (by simp))
     have hzp:P+1≤w9.heap.size:=Nat.le_of_lt (zQ HF.out.box)
     have hrow:=yK HOWR.out hzp
     have hdis:∀ i (hi:i < hs.length),∀ k,hs[i].ownBlock=some k→(Value.slice sr row.length cr).ownBlock≠some k:=fun i hi k hk e=>by
      have h1:=(HF.out.rows.lt hi hk).2
      have h2:=(HOWR.out.lt k e).1
      omega
     have HDIS:=Kh hdis
     obtain ⟨d0,d1,d2,d3⟩:=zR hH.box
     have hzx:=zQ hH.box
     have hlt9:=HT9.out.lt
     have HHX:=Kh hH;have HRW:=Kh hrow;have HRN:=Kh hrn
     have HGW:=Kh (zF HG9.out HGX.out (by simp));have HBX:=Kh (zE HB9.out HGX.out (by simp))
     clear hH hrow hrn hdis d0 d1 d2 HOWR HGX HF HT9 HG9 HB9
     have HON:=Kh HHX.out.ownN
     go_wp2_with (first|(at_builtin;refine app1 rfl _ _ _ rfl wT (P+1) _ t.length hs rfl HON.out _ rfl rfl ?c1 ?c2 ?c3 ?_)|fail)
     case c1=>have:=HTL.out;unfold maxLen;omega
     case c2=>have:=HTL.out;omega
     case c3=>omega
     intro sn' cn' w11 hown11 hg11 hlt11
     have hbx:=zE HHX.out.box hg11 (fun e=>zS HHX.out.ownN HHX.out.box (by decide) e)
     obtain ⟨d0,d1,d2,d3⟩:=zR hbx
     have f2:=zD hbx 3
     obtain ⟨hN,hgN⟩:=HHX.out.pushN hown11 hg11 HRW.out HDIS.out rfl
     have hTN:=(HTX.out.kept hg11 (fun k e=>by have:=(HHX.out.ownN.lt k e).1;omega)).kept (zH w11 ⟨P+1,3,none⟩ (.slice sn' (t.length+1) cn')) (fun k e=>by have e:P+1=k:=Oj e;omega)
     have hbN:=zE (zE HBX.out hg11 (fun e=>by have:=(HHX.out.ownN.lt _ e).1;omega)) (zH w11 ⟨P+1,3,none⟩ (.slice sn' (t.length+1) cn')) (by simp)
     have hAN:=(HAX.out.keptOwn HHX.out.ownN (by decide) hg11).kept (zH w11 ⟨P+1,3,none⟩ (.slice sn' (t.length+1) cn')) (by simp;omega)
     have hgN2:w.grownBy (w11.setCell ⟨P+1,3,none⟩ (.slice sn' (t.length+1) cn')) (some tb):=zF (zF HGW.out hg11 (fun k e=>by have:=(HHX.out.ownN.lt k e).1;have:=HPE.out;omega)) (zH w11 ⟨P+1,3,none⟩ (.slice sn' (t.length+1) cn')) (fun k e=>by have e:P+1=k:=Oj e;have:=HPE.out;omega)
     have HGK:=Kh hN;have HTN2:=Kh hTN;have HBN2:=Kh hbN;have HGN2:=Kh hgN2;have HAN2:=Kh hAN
     clear hgN hbx hN hTN hbN hgN2 hAN hown11 hg11
     go_wp2
     go_roundg (N - (fs.length+1))
     case measure=>have:=HG.out;omega
     case rel =>
      refine ⟨fs.length+1,fs ++ [decide (b=1)],t ++ [row],_,sa',sc',sn',cn',by omega,by go_num,by simp,by simp [HTL.out],?_,?_,HGK.out,HTN2.out,HBN2.out,HAN2.out,HGN2.out⟩
      ·intro r hr
       rcases List.mem_append.1 hr with hr|hr
       ·exact HRI.out r hr
       ·rw [List.mem_singleton] at hr
        subst hr
        refine ⟨HRN.out,fun x hx=>?_⟩
        obtain ⟨a,ha3,rfl⟩:=List.getElem_of_mem hx
        have hd:=HRD.out a ha3
        have e:r.getD a 0=r[a]:=by simp [List.getD_eq_getElem?_getD,ha3]
        rw [e] at hd
        exact ⟨hd.1,by rw [HNE.out];exact hd.2.1⟩
      ·intro q' a h3 h4
       unfold ent
       rcases Nat.lt_or_ge q' fs.length with h5|h5
       ·have h6:q' < t.length:=by rw [HTL.out];exact h5
        rw [List.getD_eq_getElem?_getD (l:=t ++ [row]),List.getElem?_append_left h6,← List.getD_eq_getElem?_getD]
        exact HDF.out q' a h5 h4
       ·have h6:q'=t.length:=by have:=HTL.out;omega
        subst h6
        rw [List.getD_eq_getElem?_getD (l:=t ++ [row]),List.getElem?_append_right (Nat.le_refl _),HTL.out,← HWE.out]
        simpa using HRD.out a (by rw [HRN.out];exact h4)
  ·have hfn:fs.length=N:=by have:=HG.out;omega
   have hB:=HH.out
   have htl:=HTL.out
   have HFN:=Kh hfn;have HBU:=Kh hB
   obtain ⟨d0,d1,d2,d3⟩:=zR HH.out.box
   obtain ⟨e0,e1,e2,e3⟩:=zR HB1R.out
   have f0:=zD HB1R.out 0;have f1:=zD HB1R.out 1;have f2:=zD HB1R.out 2;have f3:=zD HB1R.out 3
   clear hB hfn htl
   go_wp2
   refine bodyPost_ret (v:=.agg #[.int .i64 letters,.int .i64 0,.slice sf fs.length cf,.slice sn t.length cn]) (by simp [results,Tryd.results91,go_sem,e0,e1,e2,e3]) rfl ?_
   obtain ⟨hsR,hgR⟩:=qR HB1R.out (.int .i64 letters) (.int .i64 0) (.slice sf fs.length cf) (.slice sn t.length cn)
   have htb2:=HTR.out.lt
   have hfn:=HFN.out;have htl:=HTL.out
   refine ⟨_,⟨letters,0,fs,t⟩,N,rfl,⟨P+1,hs,sf,cf,sn,cn,rfl,by have:=HPE.out;omega,(HBU.out.base (by have:=HPE.out;omega)).far hgR HB1R.out (by omega)⟩,HRI.out.vd h1 (by omega) hN1 (by omega) hfn (htl.trans hfn) (by omega) (by omega),hN7,⟨rfl,fun k hk=>?_⟩,HTR.out.kept hgR (fun k e=>by have e:P=k:=Oj e;omega),zF HGR.out hgR (fun k e=>by have e:P=k:=Oj e;have:=HPE.out;omega)⟩
   have hk:letters=k:=Int.ofNat.inj hk
   subst hk
   refine ⟨most,hm1,hm2,by rw [← HWLE.out];exact HNE.out,fun q a hq3 ha3=>?_⟩
   rw [← HWLE.out]
   exact HDF.out q a (by rw [hfn];exact hq3) ha3
end Go.Proofs.YtdjhoadoiknaoaaDoor
