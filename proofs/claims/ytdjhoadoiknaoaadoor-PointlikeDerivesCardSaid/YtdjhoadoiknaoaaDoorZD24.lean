/- Part 24 of the proof: MDef, MAny, Letters, Table40, RClos, Derives, Known40, Law40S, GoodT, Word, Mono, Closed, Steps, Find, App5, StepsO, Valid01, Value, CheckD, AgPlain, DerP, DerAdd, DerRound, DerBegin, Needed, Derive, StillG, RCheckD, StepSet, Law40D, Laid40. -/
import Derived.Test.YtdjhoadoiknaoaaDoorZD23
import Derived.LaidMore
import Derived.Lib.LaidTab
import Derived.Stop.Joined
set_option linter.unusedVariables false
set_option linter.unusedSimpArgs false
namespace Go.Proofs.YtdjhoadoiknaoaaDoor
open Go.RowKit
def DefAt (WL:List (List Nat)) (W:List Nat) (a:Nat) (x:Int):Prop:=0≤x∧x < WL.length∧∃ j,j≤W.length∧WL.getD x.toNat []=(W ++ [a]).drop j∧∀ j',j' < j→(W ++ [a]).drop j' ∉ WL
def DefD (m:DfaV) (n:Nat):Prop:=m.start=0∧∀ k:Nat,m.letters=k→∃ most,1≤most∧most≤2∧n=(sQ k most).length∧∀ q a,q < n→a < k→DefAt (sQ k most) ((sQ k most).getD q []) a (ent m.next q a)
theorem words_facts {letters most:Nat} (h1:1≤letters) (h2:letters≤2) (h3:1≤most) (h4:most≤2):(sQ letters most).length≤7∧1≤(sQ letters most).length∧(∀ u∈sQ letters most,u.length≤2∧∀ c∈u,c < 2)∧∀ a,a < letters→[a]∈sQ letters most :=
 small2 (P:=fun letters most=>(sQ letters most).length≤7∧1≤(sQ letters most).length∧(∀ u∈sQ letters most,u.length≤2∧∀ c∈u,c < 2)∧∀ a,a < letters→[a]∈sQ letters most) h1 h2 h3 h4
  ⟨by decide +kernel,by decide +kernel,by decide +kernel,by decide +kernel⟩
theorem lets_inj {u v:List Nat} (hu:∀ c∈u,c < 100) (hv:∀ c∈v,c < 100) (h:strOfNums (lets u)=strOfNums (lets v)):u=v:=by
 have h2:(strOfNums (lets u)).data.toList=(strOfNums (lets v)).data.toList:=by rw [h]
 rw [strOfNums_data,strOfNums_data,lets,lets,List.map_map,List.map_map] at h2
 have key:∀ (u v:List Nat),(∀ c∈u,c < 100)→(∀ c∈v,c < 100)→u.map ((fun (n:Int)=>UInt8.ofNat n.toNat) ∘ fun (a:Nat)=>97+(a:Int))=v.map ((fun (n:Int)=>UInt8.ofNat n.toNat) ∘ fun (a:Nat)=>97+(a:Int))→u=v:=by
  intro u
  induction u with
  | nil=>intro v _ _ h;cases v with
   | nil=>rfl
   | cons=>simp at h
  | cons x u ih =>
   intro v hu hv h
   cases v with
   | nil=>simp at h
   | cons y v =>
    simp only [List.map_cons,List.cons.injEq,Function.comp] at h
    have hx:=hu x List.mem_cons_self
    have hy:=hv y List.mem_cons_self
    have e:=congrArg UInt8.toNat h.1
    rw [UInt8.toNat_ofNat',UInt8.toNat_ofNat'] at e
    have e1:((97+(x:Int)).toNat) % 2 ^ 8=97+x:=by omega
    have e2:((97+(y:Int)).toNat) % 2 ^ 8=97+y:=by omega
    rw [e1,e2] at e
    have:=ih v (fun c hc=>hu c (List.mem_cons_of_mem _ hc)) (fun c hc=>hv c (List.mem_cons_of_mem _ hc)) h.2
    rw [this,show x=y by omega]
 exact key u v hu hv h2
theorem bytes_same {a b:ByteArray} (h:a.toList=b.toList):a=b:=by
 rw [ByteArray.toList_eq,ByteArray.toList_eq] at h
 exact ByteArray.ext (Array.toList_inj.1 h)
theorem Arr.keptOwn {w w':World} {g e e' base n:Nat} {xs ys:List Value} {v:Value} (h:Arr w g e xs) (ho:w.ownsRow base e' 1 v n ys) (hne:e'≠e) (hg:w.grownBy w' v.ownBlock):Arr w' g e xs :=
 h.kept hg (fun er=>by
  obtain ⟨cur,rest,hgc,_⟩:=h
  exact zS ho hgc hne er)
set_option maxRecDepth 100000 in
set_option maxHeartbeats 1000000 in
theorem mdef_any (B tb:Nat) (w:World) (letters:Nat) (h1:1≤letters) (h2:letters≤2) (hT:wD B w tb) :
  Calls Tryd.prog 91 #[.pointer (some ⟨tb,0,none⟩),.int .i64 (letters:Int)] w (lF DefD B tb w letters 7):=by
 have htb:=hT.lt
 have hBt:=hT.ge
 obtain ⟨wA,hWA⟩:∃ wA,wA=(w.alloc (.cells #[.int .i64 0,.int .i64 0,.slice none 0 0,.slice none 0 0] 28)).alloc (.cells #[.int .i64 letters,.int .i64 0,.slice none 0 0,.slice none 0 0] 28):=⟨_,rfl⟩
 obtain ⟨hb1,hb2,hgA,hzA⟩:=qQ w #[.int .i64 0,.int .i64 0,.slice none 0 0,.slice none 0 0] #[.int .i64 letters,.int .i64 0,.slice none 0 0,.slice none 0 0] 28
 rw [← hWA] at hb1 hb2 hgA hzA
 obtain ⟨P,hP⟩:∃ P,P=w.heap.size:=⟨_,rfl⟩
 have HPE:=Kh hP
 rw [← hP] at hb1 hb2 hzA htb
 have hTA:=hT.kept hgA (by simp)
 have HB1:=Kh hb1;have HB2:=Kh hb2;have HGA:=Kh hgA;have HWA:=Kh hWA;have HTA:=Kh hTA
 clear hb1 hb2 hgA hWA hTA hT
 go_enter Tryd.func91,Tryd.ntmps91
 go_upto_region 2 with fail
 rw [← HWA.out,← HPE.out]
 clear hP
 go_wp2_with fail
 refine (tN B tb _ _ (by omega) HTA.out).mono ?_
 rintro e w1 ⟨r,rfl,hr0,hr1,hT1,hg1⟩
 replace hr1:=hr1 (by omega)
 obtain ⟨most,rfl⟩:∃ n:Nat,r=(n:Int) - 1:=⟨(r+1).toNat,by omega⟩
 have hm1:1≤most:=by omega
 have hm2:most≤2:=by omega
 have hn0:(1:Int)+((most:Int) - 1)=most:=by omega
 have HT1:=Kh hT1;have HG1:=Kh hg1
 have HWF:=Kh (words_facts h1 h2 hm1 hm2)
 clear hr0 hr1 hT1 hg1
 go_wp2_with fail
 refine (words_any w1 letters most h1 h2 hm1 hm2).mono ?_
 rintro e w2 ⟨sl,cl,rfl,hown,hg2⟩
 obtain ⟨WL,hWL⟩:∃ WL,WL=sQ letters most:=⟨_,rfl⟩
 rw [← hWL] at hown HWF ⊢
 obtain ⟨N,hN⟩:∃ N,N=WL.length:=⟨_,rfl⟩
 have HNE:=Kh hN
 have hN7:N≤7:=by rw [hN];exact HWF.out.1
 have hN1:1≤N:=by rw [hN];exact HWF.out.2.1
 rw [← hN] at hown ⊢
 obtain ⟨lb,rfl,hl1,hl2,hLA⟩:=yK hown (by omega)
 have hlb:=(hown.lt lb rfl).1
 have hz1:=HG1.out.size
 have hcl:cl≤9223372036854775807:=by unfold maxLen at hl2;omega
 have HA2:=Kh hLA
 have hbo:=zE (zE HB2.out HG1.out (by simp;omega)) hg2 (by simp)
 have hH2:Half (P+1) w2 (P+1) letters 0 [] [] [] none 0 none 0:=⟨hbo,World.ownsRow_nil _ _ _ _,World.ownsRow_nil _ _ _ _,OwnsT.nil⟩
 have H2:=Kh hH2
 have HB:=Kh (zE (zE HB1.out HG1.out (by simp;omega)) hg2 (by simp))
 have HT2:=Kh (HT1.out.kept hg2 (by simp))
 have HG2:=Kh (zG (zF (zG (zW w (some tb)) HGA.out (by simp)) HG1.out) hg2 (by simp))
 have HWLE:=Kh hWL
 clear hown hg2 hLA hbo hH2 HT1 HG1 hN hWL
 go_wp2
 go_loopg [8,9,10,11,12,13,14,24] N (fun gh v8 v9 v10 v11 v12 v13 v14 i wr=>∃ (q:Nat) (fs:List Bool) (t:List (List Int)) (hs:List Value) (sf:Option Addr) (cf:Nat) (sn:Option Addr) (cn:Nat),gh+q=N∧i=.int .i64 q∧fs.length=q∧t.length=q∧pL t N letters∧(∀ q' a,q' < q→a < letters→DefAt WL (WL.getD q' []) a (ent t q' a))∧Half (P+1) wr (P+1) letters 0 fs t hs sf cf sn cn∧wD B wr tb∧wr.heap[P]?=some (.cells #[.int .i64 0,.int .i64 0,.slice none 0 0,.slice none 0 0] 28 (0,0))∧Arr wr lb 9 (tX WL)∧w.grownBy wr (some tb))
 case atStart=>exact ⟨0,[],[],[],none,0,none,0,by omega,rfl,rfl,rfl,(fun r hr=>by simp at hr),(fun q' a h=>by omega),H2.out,HT2.out,HB.out,HA2.out,HG2.out⟩
 case round =>
  obtain ⟨q,fs,t,hs,sf,cf,sn,cn,hg,rfl,rfl,htl,hri,hdf,hH,hTr,hb1r,hAr,hgr⟩:=hrel
  have HG:=Kh hg;have HH:=Kh hH;have HTR:=Kh hTr;have HB1R:=Kh hb1r;have HGR:=Kh hgr;have HRI:=Kh hri;have HAR:=Kh hAr;have HDF:=Kh hdf;have HTL:=Kh htl
  clear hg hH hTr hb1r hgr hri hAr hdf htl H2 HT2 HB HA2 HG2
  by_cases hq:fs.length < N
  ·have hq':(fs.length:Int) < N:=by omega
   have hcw:=HAR.out.strL fs.length (by rw [← HNE.out];exact hq)
   obtain ⟨W,hW⟩:∃ W,W=WL.getD fs.length []:=⟨_,rfl⟩
   rw [← hW] at hcw
   obtain ⟨X,hX⟩:∃ X,X=strOfNums (lets W):=⟨_,rfl⟩
   rw [← hX] at hcw
   have HWE:=Kh hW;have HX:=Kh hX
   clear hX hW
   obtain ⟨w5,hw5⟩:∃ w5,w5=wr.drew:=⟨_,rfl⟩
   have hg5:wr.grownBy w5 none:=by rw [hw5];exact zT wr none
   have HW5:=Kh hw5
   have HH5:=Kh (HH.out.grow hg5);have HT5:=Kh (HTR.out.kept hg5 (by simp));have HG5:=Kh (zG HGR.out hg5 (by simp));have HB5:=Kh (zE HB1R.out hg5 (by simp));have HA5:=Kh (HAR.out.kept hg5 (by simp))
   obtain ⟨d0,d1,d2,d3⟩:=zR HH5.out.box
   have C2:=Kh d2
   clear hw5 hg5 d0 d1 d2 d3 HH HTR HGR HB1R HAR
   go_upto_region 6 with fail
   clear hcw
   refine wp_region_noPanic ?_
   refine yY (G:=vV 8 (fun _=>True) (fun W=>W.cell? ⟨P+1,2,none⟩=some (.slice sf fs.length cf))) (by kernel_rfl) ?_
   rw [← HW5.out]
   refine takeC (i:=0) (v:=?_) rfl rfl (Or.inl ⟨by rfl,?_⟩) ⟨trivial,fun _=>C2.out⟩ ?_
   rotate_left
   ·(intro wz hz;(try dsimp only at hz);go_simp;(try with_reducible rfl))
   try simp only [Act.put,sPa,sPb,sPc]
   refine takeD (i:=1) (v:=?_) rfl rfl (Or.inl ⟨by rfl,?_⟩) ⟨trivial,fun _=>C2.out⟩ ?_
   rotate_left
   ·(rintro wz ⟨-,hz⟩;(try dsimp only at hz);go_simp;(try with_reducible rfl))
   try simp only [Act.put,sPa,sPb,sPc]
   refine takeC (i:=2) (v:=?_) rfl rfl (Or.inl ⟨by rfl,?_⟩) ⟨trivial,fun _=>C2.out⟩ ?_
   rotate_left
   ·(intro wz hz;(try dsimp only at hz);go_simp;(try with_reducible rfl))
   try simp only [Act.put,sPa,sPb,sPc]
   refine oneG (i:=3) (by kernel_rfl) rfl (fun K hK=>?_)
   go_simp
   go_at_call 43
   refine (tN B tb _ _ (by omega) HT5.out).mono ?_
   rintro e w6 ⟨b,rfl,hb0,hb1,hT6,hg6⟩
   have hH6:=HH5.out.tape HT5.out hg6
   obtain ⟨d0,d1,d2,d3⟩:=zR hH6.box
   have C2:=Kh d2
   refine hK.out _ _ ⟨trivial,fun _=>C2.out⟩ ?_
   clear hK K d0 d1 d2 d3
   try simp only [Act.put,sPa,sPb,sPc]
   refine takeC (i:=4) (v:=?_) rfl rfl (Or.inl ⟨by rfl,?_⟩) ⟨trivial,fun _=>C2.out⟩ ?_
   rotate_left
   ·(intro wz hz;(try dsimp only at hz);go_simp;(try with_reducible rfl))
   try simp only [Act.put,sPa,sPb,sPc]
   refine oneG (i:=5) (by kernel_rfl) rfl (fun K hK=>?_)
   go_simp
   have hH7:=hH6.grow (Ga w6 (.cells #[.bool (decide (b=1))] 4) none)
   have hgn:=heap_alloc_new w6 (.cells #[.bool (decide (b=1))] 4)
   obtain ⟨d0,d1,d2,d3⟩:=zR hH7.box
   refine hK.out _ _ ⟨trivial,fun _=>d2⟩ ?_
   clear hK K d0 d1 d2 d3
   try simp only [Act.put,sPa,sPb,sPc]
   have hz7:P+2≤w6.heap.size:=by have:=zQ hH6.box;omega
   refine oneG (i:=6) (by kernel_rfl) rfl (fun K hK=>?_)
   refine fK rfl (.tmp 29) (.tmp 33) 25 rfl wJ (P+1) _ _ _ rfl hH7.ownF _ _ _ rfl hgn rfl ?g1 ?g2 ?g3 ?_
   case g1=>unfold maxLen;omega
   case g2=>omega
   case g3=>rw [zO];omega
   intro sa' sc' w8 hown8 hg8
   have hbx:=zE hH7.box hg8 (fun e=>zS hH7.ownF hH7.box (by decide) e)
   obtain ⟨d0,d1,d2,d3⟩:=zR hbx
   have f2:=zD hbx 2
   refine hK.out _ _ ⟨trivial,fun _=>d2⟩ ?_
   clear hK K
   try simp only [Act.put,sPa,sPb,sPc]
   have C2:=Kh d2
   refine takeC (i:=7) (v:=?_) rfl rfl (Or.inl ⟨by rfl,?_⟩) ⟨trivial,fun _=>C2.out⟩ ?_
   rotate_left
   ·(intro wz hz;(try dsimp only at hz);go_simp;(try with_reducible rfl))
   try simp only [Act.put,sPa,sPb,sPc]
   refine oneG (i:=8) (by kernel_rfl) rfl (fun K hK=>?_)
   go_simp
   refine hK.out _ _ ⟨trivial,fun h=>by simp at h⟩ ?_
   clear hK K d0 d1 d2 d3 f2 hbx
   try simp only [Act.put,sPa,sPb,sPc]
   refine nW (by kernel_rfl) ?_ _
   refine NoPanic.normal ?_
   obtain ⟨hF,hgF⟩:=hH7.pushF hown8 hg8 rfl
   have hT9:=((hT6.kept (Ga w6 (.cells #[.bool (decide (b=1))] 4) none) (by simp)).kept hg8 (fun k e=>by have:=(hH7.ownF.lt k e).1;omega)).kept (zH w8 ⟨P+1,2,none⟩ (.slice sa' (fs.length+1) sc')) (fun k e=>by have e:P+1=k:=Oj e;omega)
   have hb9:=zE (zE (zE (zE HB5.out hg6 (by simp;omega)) (Ga w6 (.cells #[.bool (decide (b=1))] 4) none) (by simp)) hg8 (fun e=>by have:=(hH7.ownF.lt _ e).1;omega)) (zH w8 ⟨P+1,2,none⟩ (.slice sa' (fs.length+1) sc')) (by simp)
   have hg9:w.grownBy (w8.setCell ⟨P+1,2,none⟩ (.slice sa' (fs.length+1) sc')) (some tb):=zG (zG (zG (zF HG5.out hg6) (Ga w6 (.cells #[.bool (decide (b=1))] 4) none) (by simp)) hg8 (fun k e=>by have:=(hH7.ownF.lt k e).1;have:=HPE.out;omega)) (zH w8 ⟨P+1,2,none⟩ (.slice sa' (fs.length+1) sc')) (fun k e=>by have e:P+1=k:=Oj e;have:=HPE.out;omega)
   have hA9:=(((HA5.out.kept hg6 (by simp;omega)).kept (Ga w6 (.cells #[.bool (decide (b=1))] 4) none) (by simp)).keptOwn hH7.ownF (by decide) hg8).kept (zH w8 ⟨P+1,2,none⟩ (.slice sa' (fs.length+1) sc')) (by simp;omega)
   obtain ⟨w9,hw9⟩:∃ w9,w9=w8.setCell ⟨P+1,2,none⟩ (.slice sa' (fs.length+1) sc'):=⟨_,rfl⟩
   rw [← hw9] at hF hT9 hb9 hg9 hA9 ⊢
   have HF:=Kh hF;have HT9:=Kh hT9;have HB9:=Kh hb9;have HG9:=Kh hg9;have HA9:=Kh hA9
   clear hA9 hw9 hgF hF hT9 hb9 hg9 hown8 hg8 hgn hH7 hH6 hT6 hg6 C2 HH5 HT5 HG5 HB5 HW5
   have hWL2:W.length≤2∧∀ c∈W,c < 2:=by rw [HWE.out];exact HWF.out.2.2.1 _ (tH (by rw [← HNE.out];exact hq))
   have hW2:=hWL2.1
   have HW2:=Kh hWL2.2
   clear hWL2
   go_wp2
   go_loopg [9,10,11,12,13,14] letters (fun gh ov i v11 v12 v13 v14 wx=>∃ (a:Nat) (row:List Int) (sr:Option Addr) (cr:Nat),gh+a=letters∧i=.int .i64 a∧row.length=a∧ov=.slice sr row.length cr∧(∀ a',a' < a→DefAt WL W a' (row.getD a' 0))∧wx.ownsRow w9.heap.size 3 1 (.slice sr row.length cr) row.length (ints row)∧w9.grownBy wx none)
   case atStart=>exact ⟨0,[],none,0,by omega,rfl,rfl,rfl,(fun a' h=>by omega),World.ownsRow_nil _ _ _ _,zW _ _⟩
   case round =>
    obtain ⟨a,row,sr,cr,hg,rfl,rfl,rfl,hrd,hown,hgx⟩:=hrel
    have HGA2:=Kh hg;have HOWR:=Kh hown;have HGX:=Kh hgx;have HRD:=Kh hrd
    clear hg hown hgx hrd
    by_cases ha:row.length < letters
    ·have ha':(row.length:Int) < letters:=by omega
     have h97:IntKind.i64.wrap (97+(row.length:Int))=97+(row.length:Int):=IntWalk.i64_in _ (by omega)
     have hby:IntKind.u8.wrap (97+(row.length:Int))=97+(row.length:Int):=IntWalk.u8_in _ (by omega)
     obtain ⟨Y,hY⟩:∃ Y,Y=strOfNums [97+(row.length:Int)]:=⟨_,rfl⟩
     have hcv:∀ (W:World) (g:Nat),W.cell? ⟨g,0,none⟩=some (.int .u8 (97+(row.length:Int)))→(convert 89 9 (.slice (some ⟨g,0,none⟩) 1 1)).run Tryd.prog W=.ok (.string Y) W:=fun W g h=>by rw [hY];exact mL 89 5 Tryd.underlying89 Tryd.underlying5 9 Tryd.underlying9 h
     have hcc:∀ W0:World,(Op.stringOp .add X Y).run Tryd.prog W0=.ok (.string (X ++ Y)) W0:=fun W0=>run_string_add_sum W0 X Y (by
      rw [hY,HX.out,strOfNums_size,strOfNums_size];simp [lets];omega)
     have HXY:Hid (X ++ Y=strOfNums (lets (W ++ [row.length]))):=Kh (by rw [HX.out,hY,cK];simp [lets])
     have hga:=Ga wr (.cells #[.int .u8 (97+(row.length:Int))] 5) none
     have HOA:=Kh (yF HOWR.out hga (by simp));have HGB:=Kh (zG HGX.out hga (by simp))
     clear hY hga
     go_wp2
     clear hcv hcc h97 hby
     obtain ⟨wb,hwb⟩:∃ wb,wb=wr.alloc (.cells #[.int .u8 (97+(row.length:Int))] 5):=⟨_,rfl⟩
     try rw [← hwb] at HOA HGB ⊢
     clear hwb
     have HV:Hid (∀ c∈W ++ [row.length],c < 100):=Kh (fun c hc=>by
      rcases List.mem_append.1 hc with hc|hc
      ·have:=HW2.out c hc;omega
      ·rw [List.mem_singleton] at hc;omega)
     have HVL:Hid ((W ++ [row.length]).length=W.length+1):=Kh (by simp)
     have HLAST:Hid ((W ++ [row.length]).drop W.length∈WL):=Kh (by
      rw [List.drop_append_of_le_length (Nat.le_refl _),List.drop_length,List.nil_append]
      exact HWF.out.2.2.2 _ ha)
     obtain ⟨V,hV⟩:∃ V,V=W ++ [row.length]:=⟨_,rfl⟩
     rw [← hV] at HV HVL HXY HLAST
     have HVE:=Kh hV
     clear hV
     have hsz9:=HGB.out.size
     go_loopg [11,12,13,14] (W.length+1) (fun gh v11 v12 v13 v14 wy=>wy=wb∧((∃ j,v12=.int .i64 (-1)∧j≤W.length∧gh+j=W.length+1∧v11=.string (strOfNums (lets (V.drop j)))∧∀ j',j' < j→V.drop j' ∉ WL)∨(∃ (x:Nat) (y:ByteArray),v12=.int .i64 (x:Int)∧v11=.string y∧DefAt WL W row.length x)))
     case atStart=>exact ⟨rfl,.inl ⟨0,rfl,by omega,by omega,by rw [HXY.out];rfl,fun j' h=>by omega⟩⟩
     case round =>
      obtain ⟨hwe,hst⟩:=hrel
      subst hwe
      rcases hst with ⟨j,rfl,hj,hgj,rfl,hno⟩|⟨x,y,rfl,rfl,hdef⟩
      ·have HGJ:=Kh hgj;have HNO:=Kh hno
       clear hgj hno
       obtain ⟨Z,hZ⟩:∃ Z,Z=strOfNums (lets (V.drop j)):=⟨_,rfl⟩
       have hZs:Z.size=W.length+1 - j:=by rw [hZ,strOfNums_size];simp [lets,HVL.out]
       rw [← hZ]
       have HZ:=Kh hZ
       have hZ1:1≤Z.size:=by omega
       have hZ3:Z.size≤3:=by omega
       have HZS:=Kh hZs
       clear hZ hZs
       go_wp2
       have HAC:=Kh (HA9.out.kept HGB.out (by simp))
       go_loopg [12,13,14,52] N (fun gh v12 v13 v14 i wz=>wz=wr∧∃ (k:Nat) (m:Int),gh+k=N∧i=.int .i64 k∧v12=.int .i64 m∧((m = -1∧∀ k',k' < k→WL.getD k' []≠V.drop j)∨(0≤m∧m < N∧WL.getD m.toNat []=V.drop j)))
       case atStart=>exact ⟨rfl,0,-1,by omega,rfl,rfl,.inl ⟨rfl,fun k' h=>by omega⟩⟩
       case round =>
        obtain ⟨hwe,k,m,hgk,rfl,rfl,hm⟩:=hrel
        subst hwe
        have HGK:=Kh hgk;have HM:=Kh hm
        clear hgk hm
        by_cases hk:k < N
        ·have hk':(k:Int) < N:=by omega
         have hck:=HAC.out.strL k (by rw [← HNE.out];exact hk)
         obtain ⟨K2,hK2⟩:∃ K2,K2=strOfNums (lets (WL.getD k [])):=⟨_,rfl⟩
         rw [← hK2] at hck
         have HK2:=Kh hK2
         clear hK2
         by_cases hx:WL.getD k []=V.drop j
         ·have heq:=Kh hx
          have hbq:(K2.toList == Z.toList)=true:=by rw [HK2.out,HZ.out,hx];simp
          clear hx
          go_wp2
          go_roundg (N - (k+1))
          case measure=>have:=HGK.out;omega
          case rel=>exact ⟨rfl,k+1,k,by omega,by go_num,rfl,.inr ⟨by omega,by omega,by simpa using heq.out⟩⟩
         ·have hne:=Kh hx
          have hbq:(K2.toList == Z.toList)=false:=by
           rw [beq_eq_false_iff_ne]
           intro e
           refine hx (lets_inj (fun c hc=>?_) (fun c hc=>HV.out c (List.mem_of_mem_drop hc)) (by rw [← HK2.out,← HZ.out];exact bytes_same e))
           have:=(HWF.out.2.2.1 _ (tH (d:=[]) (by rw [← HNE.out];exact hk))).2 c hc
           omega
          clear hx
          go_wp2
          go_roundg (N - (k+1))
          case measure=>have:=HGK.out;omega
          case rel =>
           refine ⟨rfl,k+1,m,by omega,by go_num,rfl,?_⟩
           rcases HM.out with ⟨e1,e2⟩|e1
           ·refine .inl ⟨e1,fun k' h=>?_⟩
            rcases Nat.lt_or_ge k' k with h2|h2
            ·exact e2 k' h2
            ·have:k'=k:=by omega
             subst this;exact hne.out
           ·exact .inr e1
        ·have hkN:k=N:=by have:=HGK.out;omega
         have HHM:=Kh HM.out
         go_wp2
         have hcut:Hid (Z.extract 1 Z.size=strOfNums (lets (V.drop (j+1)))):=Kh (by
          apply ByteArray.ext
          apply Array.toList_inj.1
          rw [HZ.out,ByteArray.data_extract,Array.toList_extract,strOfNums_data,strOfNums_data,List.extract_eq_take_drop,strOfNums_size]
          rw [List.take_of_length_le (by simp)]
          rw [show V.drop (j+1)=(V.drop j).drop 1 by rw [List.drop_drop]]
          simp [lets,List.map_drop])
         rcases HHM.out with ⟨e1,e2⟩|⟨e1,e2,e3⟩
         ·go_roundg (W.length+1 - (j+1))
          case measure=>have:=HGJ.out;omega
          case rel =>
           have hnin:V.drop j ∉ WL:=fun hm=>by
            obtain ⟨k',hk',e4⟩:=List.getElem_of_mem hm
            exact e2 k' (by rw [hkN,HNE.out];exact hk') (by rw [← e4];simp [List.getD_eq_getElem?_getD,hk'])
           have hjW:j < W.length:=by
            rcases Nat.lt_or_ge j W.length with h|h
            ·exact h
            ·have e5:j=W.length:=by omega
             rw [e5] at hnin
             exact absurd HLAST.out hnin
           exact ⟨rfl,.inl ⟨j+1,by rw [e1],by omega,by omega,by rw [hcut.out],fun j' h=>by
            rcases Nat.lt_or_ge j' j with h2|h2
            ·exact HNO.out j' h2
            ·have:j'=j:=by omega
             subst this;exact hnin⟩⟩
         ·go_roundg (W.length+1 - (j+1))
          case measure=>have:=HGJ.out;omega
          case rel =>
           refine ⟨rfl,.inr ⟨m.toNat,Z.extract 1 Z.size,by rw [Int.toNat_of_nonneg e1],rfl,?_⟩⟩
           rw [Int.toNat_of_nonneg e1]
           exact ⟨e1,by rw [← HNE.out];exact e2,j,hj,by rw [e3,HVE.out],fun j' h=>by rw [← HVE.out];exact HNO.out j' h⟩
      ·have HDX:=Kh hdef
       have hx0:¬ (x:Int) = -1:=by omega
       clear hdef
       go_wp2_with (first|(at_builtin;refine app1 rfl _ _ _ rfl yC w9.heap.size _ row.length (ints row) rfl HOA.out _ rfl rfl ?c1 ?c2 ?c3 ?_)|fail)
       case c1=>unfold maxLen;omega
       case c2=>omega
       case c3=>exact hsz9
       intro sr' cr' w10 hown10 hg10 hlt10
       have HO10:=Kh hown10
       have HG10:=Kh (zG HGB.out hg10 (fun k e=>(HOA.out.lt k e).1))
       clear hown10 hg10
       go_wp2
       go_roundg (letters - (row.length+1))
       case measure=>have:=HGA2.out;omega
       case rel =>
        refine ⟨row.length+1,row ++ [(x:Int)],sr',cr',by omega,by go_num,by simp,by simp,fun a' h=>?_,?_,HG10.out⟩
        ·rcases Nat.lt_or_ge a' row.length with h2|h2
         ·rw [List.getD_eq_getElem?_getD,List.getElem?_append_left h2,← List.getD_eq_getElem?_getD]
          exact HRD.out a' h2
         ·have e:a'=row.length:=by omega
          subst e
          rw [List.getD_eq_getElem?_getD,List.getElem?_append_right (Nat.le_refl _)]
          simpa using HDX.out
        ·rw [show ints (row ++ [(x:Int)])=ints row ++ [.int .i64 (x:Int)] by simp [ints],List.length_append,List.length_singleton]
         exact HO10.out
    ·have hrn:row.length=letters:=by have:=HGA2.out;omega
     have hH:=HF.out.grow HGX.out
     have HTX:=Kh (HT9.out.kept HGX.out (by simp))
     have HAX:=Kh (HA9.out.kept HGX.out (by simp))
     have hzp:P+1≤w9.heap.size:=Nat.le_of_lt (zQ HF.out.box)
     have hrow:=yJ HOWR.out hzp
     have hdis:∀ i (hi:i < hs.length),∀ k,hs[i].ownBlock=some k→(Value.slice sr row.length cr).ownBlock≠some k:=fun i hi k hk e=>by
      have h1:=(HF.out.rows.lt hi hk).2
      have h2:=(HOWR.out.lt k e).1
      omega
     have HDIS:=Kh hdis
     obtain ⟨d0,d1,d2,d3⟩:=zR hH.box
     have hzx:=zQ hH.box
     have hlt9:=HT9.out.lt
     have HHX:=Kh hH;have HRW:=Kh hrow;have HRN:=Kh hrn
     have HGW:=Kh (zG HG9.out HGX.out (by simp));have HBX:=Kh (zE HB9.out HGX.out (by simp))
     clear hH hrow hrn hdis d0 d1 d2 HOWR HGX HF HT9 HG9 HB9
     have HON:=Kh HHX.out.ownN
     go_wp2_with (first|(at_builtin;refine app1 rfl _ _ _ rfl vO (P+1) _ t.length hs rfl HON.out _ rfl rfl ?c1 ?c2 ?c3 ?_)|fail)
     case c1=>have:=HTL.out;unfold maxLen;omega
     case c2=>have:=HTL.out;omega
     case c3=>omega
     intro sn' cn' w11 hown11 hg11 hlt11
     have hbx:=zE HHX.out.box hg11 (fun e=>zS HHX.out.ownN HHX.out.box (by decide) e)
     obtain ⟨d0,d1,d2,d3⟩:=zR hbx
     have f2:=zD hbx 3
     obtain ⟨hN,hgN⟩:=HHX.out.pushN hown11 hg11 HRW.out HDIS.out rfl
     have hTN:=(HTX.out.kept hg11 (fun k e=>by have:=(HHX.out.ownN.lt k e).1;omega)).kept (zH w11 ⟨P+1,3,none⟩ (.slice sn' (t.length+1) cn')) (fun k e=>by have e:P+1=k:=Oj e;omega)
     have hbN:=zE (zE HBX.out hg11 (fun e=>by have:=(HHX.out.ownN.lt _ e).1;omega)) (zH w11 ⟨P+1,3,none⟩ (.slice sn' (t.length+1) cn')) (by simp)
     have hAN:=(HAX.out.keptOwn HHX.out.ownN (by decide) hg11).kept (zH w11 ⟨P+1,3,none⟩ (.slice sn' (t.length+1) cn')) (by simp;omega)
     have hgN2:w.grownBy (w11.setCell ⟨P+1,3,none⟩ (.slice sn' (t.length+1) cn')) (some tb):=zG (zG HGW.out hg11 (fun k e=>by have:=(HHX.out.ownN.lt k e).1;have:=HPE.out;omega)) (zH w11 ⟨P+1,3,none⟩ (.slice sn' (t.length+1) cn')) (fun k e=>by have e:P+1=k:=Oj e;have:=HPE.out;omega)
     have HGK:=Kh hN;have HTN2:=Kh hTN;have HBN2:=Kh hbN;have HGN2:=Kh hgN2;have HAN2:=Kh hAN
     clear hgN hbx hN hTN hbN hgN2 hAN hown11 hg11
     go_wp2
     go_roundg (N - (fs.length+1))
     case measure=>have:=HG.out;omega
     case rel =>
      refine ⟨fs.length+1,fs ++ [decide (b=1)],t ++ [row],_,sa',sc',sn',cn',by omega,by go_num,by simp,by simp [HTL.out],?_,?_,HGK.out,HTN2.out,HBN2.out,HAN2.out,HGN2.out⟩
      ·intro r hr
       rcases List.mem_append.1 hr with hr|hr
       ·exact HRI.out r hr
       ·rw [List.mem_singleton] at hr
        subst hr
        refine ⟨HRN.out,fun x hx=>?_⟩
        obtain ⟨a,ha3,rfl⟩:=List.getElem_of_mem hx
        have hd:=HRD.out a ha3
        have e:r.getD a 0=r[a]:=by simp [List.getD_eq_getElem?_getD,ha3]
        rw [e] at hd
        exact ⟨hd.1,by rw [HNE.out];exact hd.2.1⟩
      ·intro q' a h3 h4
       unfold ent
       rcases Nat.lt_or_ge q' fs.length with h5|h5
       ·have h6:q' < t.length:=by rw [HTL.out];exact h5
        rw [List.getD_eq_getElem?_getD (l:=t ++ [row]),List.getElem?_append_left h6,← List.getD_eq_getElem?_getD]
        exact HDF.out q' a h5 h4
       ·have h6:q'=t.length:=by have:=HTL.out;omega
        subst h6
        rw [List.getD_eq_getElem?_getD (l:=t ++ [row]),List.getElem?_append_right (Nat.le_refl _),HTL.out,← HWE.out]
        simpa using HRD.out a (by rw [HRN.out];exact h4)
  ·have hfn:fs.length=N:=by have:=HG.out;omega
   have hB:=HH.out
   have htl:=HTL.out
   have HFN:=Kh hfn;have HBU:=Kh hB
   obtain ⟨d0,d1,d2,d3⟩:=zR HH.out.box
   obtain ⟨e0,e1,e2,e3⟩:=zR HB1R.out
   have f0:=zD HB1R.out 0;have f1:=zD HB1R.out 1;have f2:=zD HB1R.out 2;have f3:=zD HB1R.out 3
   clear hB hfn htl
   go_wp2
   refine bodyPost_ret (v:=.agg #[.int .i64 letters,.int .i64 0,.slice sf fs.length cf,.slice sn t.length cn]) (by simp [results,Tryd.results91,go_sem,e0,e1,e2,e3]) rfl ?_
   obtain ⟨hsR,hgR⟩:=pX HB1R.out (.int .i64 letters) (.int .i64 0) (.slice sf fs.length cf) (.slice sn t.length cn)
   have htb2:=HTR.out.lt
   have hfn:=HFN.out;have htl:=HTL.out
   refine ⟨_,⟨letters,0,fs,t⟩,N,rfl,⟨P+1,hs,sf,cf,sn,cn,rfl,by have:=HPE.out;omega,(HBU.out.base (by have:=HPE.out;omega)).far hgR HB1R.out (by omega)⟩,HRI.out.vd h1 (by omega) hN1 (by omega) hfn (htl.trans hfn) (by omega) (by omega),hN7,⟨rfl,fun k hk=>?_⟩,HTR.out.kept hgR (fun k e=>by have e:P=k:=Oj e;omega),zG HGR.out hgR (fun k e=>by have e:P=k:=Oj e;have:=HPE.out;omega)⟩
   have hk:letters=k:=Int.ofNat.inj hk
   subst hk
   refine ⟨most,hm1,hm2,by rw [← HWLE.out];exact HNE.out,fun q a hq3 ha3=>?_⟩
   rw [← HWLE.out]
   exact HDF.out q a (by rw [hfn];exact hq3) ha3
def AnyD (m:DfaV) (n:Nat):Prop:=OrdD m n∨qDN m n∨DefD m n∨True
theorem lF.weak {R R':DfaV→Nat→Prop} {B tb:Nat} {w:World} {letters most most':Nat} {e:Ending} {w':World} (h:lF R B tb w letters most e w') (hR:∀ m n,R m n→R' m n) (hm:most≤most'):lF R' B tb w letters most' e w':=by
 obtain ⟨v,m,n,h1,h2,h3,h4,h5,h6,h7⟩:=h
 exact ⟨v,m,n,h1,h2,h3,Nat.le_trans h4 hm,hR m n h5,h6,h7⟩
theorem bO.r {B tb:Nat} {w:World} {letters most:Nat} {e:Ending} {w':World} (h:bO B tb w letters most e w'):lF (fun _ _=>True) B tb w letters most e w':=by
 obtain ⟨v,m,n,h1,h2,h3,h4,h6,h7⟩:=h
 exact ⟨v,m,n,h1,h2,h3,h4,trivial,h6,h7⟩
set_option maxRecDepth 100000 in
set_option maxHeartbeats 4000000 in
theorem many_any (B tb:Nat) (w:World) (letters most:Nat) (h1:1≤letters) (h2:letters≤2) (hm1:1≤most) (hm:most≤500) (hT:wD B w tb) :
  Calls Tryd.prog 50 #[.pointer (some ⟨tb,0,none⟩),.int .i64 (letters:Int),.int .i64 (most:Int)] w (lF AnyD B tb w letters 500):=by
 have htb:=hT.lt
 have hBt:=hT.ge
 obtain ⟨P,hP⟩:∃ P,P=w.heap.size:=⟨_,rfl⟩
 have HPE:=Kh hP
 obtain ⟨wA,hWA⟩:∃ wA,wA=w.alloc (.cells #[.int .i64 0,.int .i64 0,.slice none 0 0,.slice none 0 0] 28):=⟨_,rfl⟩
 have hbA:=heap_alloc_new w (.cells #[.int .i64 0,.int .i64 0,.slice none 0 0,.slice none 0 0] 28)
 have hgA:=Ga w (.cells #[.int .i64 0,.int .i64 0,.slice none 0 0,.slice none 0 0] 28) none
 have hzA:=zO w (.cells #[.int .i64 0,.int .i64 0,.slice none 0 0,.slice none 0 0] 28)
 rw [← hWA] at hbA hgA hzA
 rw [← hP] at hbA hzA htb
 have HTA:=Kh (hT.kept hgA (by simp))
 have HBA:=Kh hbA;have HGA:=Kh hgA;have HWA:=Kh hWA
 clear hbA hgA hWA hT
 go_enter Tryd.func50,Tryd.ntmps50
 go_upto_region 1 with fail
 rw [← HWA.out,← HPE.out]
 clear hP
 go_wp2_with fail
 refine (tN B tb _ _ (by omega) HTA.out).mono ?_
 rintro e w1 ⟨r,rfl,hr0,hr1,hT1,hg1⟩
 replace hr1:=hr1 (by omega)
 have HB1:=Kh (zE HBA.out hg1 (by simp;omega))
 have HG1:=Kh (zF (zG (zW w (some tb)) HGA.out (by simp)) hg1)
 have HT1:=Kh hT1
 have hz1:=hg1.size
 clear hT1 hg1 HTA HBA
 have fin:∀ (R:DfaV→Nat→Prop) (mo:Nat) (e:Ending) (w2:World),(∀ m n,R m n→AnyD m n)→mo≤500→lF R B tb w1 letters mo e w2→∃ (v:Value) (y0 y1:Int) (y2 y3:Option Addr) (n2 n3 c2 c3:Nat),e=.returned v∧v=.agg #[.int .i64 y0,.int .i64 y1,.slice y2 n2 c2,.slice y3 n3 c3]∧w2.cell? ⟨P,0,none⟩=some (.int .i64 0)∧w2.cell? ⟨P,1,none⟩=some (.int .i64 0)∧w2.cell? ⟨P,2,none⟩=some (.slice none 0 0)∧w2.cell? ⟨P,3,none⟩=some (.slice none 0 0)∧(∀ k,w2.frozen? ⟨P,k,none⟩=false)∧lF AnyD B tb w letters 500 (.returned v) ((((w2.setCell ⟨P,0,none⟩ (.int .i64 y0)).setCell ⟨P,1,none⟩ (.int .i64 y1)).setCell ⟨P,2,none⟩ (.slice y2 n2 c2)).setCell ⟨P,3,none⟩ (.slice y3 n3 c3)):=by
  intro R mo e w2 hR hmo h
  obtain ⟨v,m,n,rfl,⟨o,hs,sf,cf,sn,cn,rfl,ho,hH⟩,hvd,hnm,hr,hT2,hg2⟩:=h
  have hb2:=zE HB1.out hg2 (by simp;omega)
  obtain ⟨d0,d1,d2,d3⟩:=zR hb2
  obtain ⟨hsR,hgR⟩:=pX hb2 (.int .i64 m.letters) (.int .i64 m.start) (.slice sf m.final.length cf) (.slice sn m.next.length cn)
  refine ⟨_,_,_,_,_,_,_,_,_,rfl,rfl,d0,d1,d2,d3,fun k=>zD hb2 k,_,m,n,rfl,⟨o,hs,sf,cf,sn,cn,rfl,by have:=HPE.out;omega,(hH.base (by have:=HPE.out;omega)).far hgR hb2 (by omega)⟩,hvd,by omega,hR m n hr,hT2.kept hgR (fun k e=>by have e:P=k:=Oj e;omega),zG (zF HG1.out hg2) hgR (fun k e=>by have e:P=k:=Oj e;have:=HPE.out;omega)⟩
 have HFIN:=Kh fin
 clear fin
 by_cases e1:r=1
 ·subst e1
  go_wp2_with fail
  refine (mord_any B tb w1 letters most h1 (by omega) hm1 hm HT1.out).mono ?_
  intro e w2 h
  obtain ⟨v,y0,y1,y2,y3,n2,n3,q2,q3,rfl,rfl,c0,c1,c2,c3,fz,hD⟩:=HFIN.out OrdD most e w2 (fun _ _ h=>.inl h) hm h
  have f0:=fz 0;have f1:=fz 1;have f2:=fz 2;have f3:=fz 3
  have HD:=Kh hD
  clear hD fz h
  go_wp2
  refine bodyPost_ret (v:=.agg #[.int .i64 y0,.int .i64 y1,.slice y2 n2 q2,.slice y3 n3 q3]) (by simp [results,Tryd.results50,go_sem,c0,c1,c2,c3]) rfl ?_
  exact HD.out
 by_cases e2:r=2
 ·subst e2
  have hmn:min (most:Int) 4=((min most 4:Nat):Int):=by omega
  obtain ⟨mm,hmm⟩:∃ mm,mm=min most 4:=⟨_,rfl⟩
  rw [← hmm] at hmn
  have hmm1:1≤mm:=by omega
  have hmm4:mm≤4:=by omega
  clear hmm
  go_wp2_with fail
  refine (aM B tb w1 letters mm h1 (by omega) hmm1 (by omega) HT1.out).mono ?_
  intro e w2 h
  obtain ⟨v,y0,y1,y2,y3,n2,n3,q2,q3,rfl,rfl,c0,c1,c2,c3,fz,hD⟩:=HFIN.out qDN mm e w2 (fun _ _ h=>.inr (.inl h)) (by omega) h
  have f0:=fz 0;have f1:=fz 1;have f2:=fz 2;have f3:=fz 3
  have HD:=Kh hD
  clear hD fz h
  go_wp2
  refine bodyPost_ret (v:=.agg #[.int .i64 y0,.int .i64 y1,.slice y2 n2 q2,.slice y3 n3 q3]) (by simp [results,Tryd.results50,go_sem,c0,c1,c2,c3]) rfl ?_
  exact HD.out
 by_cases e3:r=3
 ·subst e3
  go_wp2_with fail
  refine (mdef_any B tb w1 letters h1 h2 HT1.out).mono ?_
  intro e w2 h
  obtain ⟨v,y0,y1,y2,y3,n2,n3,q2,q3,rfl,rfl,c0,c1,c2,c3,fz,hD⟩:=HFIN.out DefD 7 e w2 (fun _ _ h=>.inr (.inr (.inl h))) (by omega) h
  have f0:=fz 0;have f1:=fz 1;have f2:=fz 2;have f3:=fz 3
  have HD:=Kh hD
  clear hD fz h
  go_wp2
  refine bodyPost_ret (v:=.agg #[.int .i64 y0,.int .i64 y1,.slice y2 n2 q2,.slice y3 n3 q3]) (by simp [results,Tryd.results50,go_sem,c0,c1,c2,c3]) rfl ?_
  exact HD.out
 ·go_wp2_with fail
  refine (qBM B tb w1 letters most h1 (by omega) hm1 hm HT1.out).mono ?_
  intro e w2 h
  obtain ⟨v,y0,y1,y2,y3,n2,n3,q2,q3,rfl,rfl,c0,c1,c2,c3,fz,hD⟩:=HFIN.out (fun _ _=>True) most e w2 (fun _ _ _=>.inr (.inr (.inr trivial))) hm h.r
  have f0:=fz 0;have f1:=fz 1;have f2:=fz 2;have f3:=fz 3
  have HD:=Kh hD
  clear hD fz h
  go_wp2
  refine bodyPost_ret (v:=.agg #[.int .i64 y0,.int .i64 y1,.slice y2 n2 q2,.slice y3 n3 q3]) (by simp [results,Tryd.results50,go_sem,c0,c1,c2,c3]) rfl ?_
  exact HD.out
def LettersOk (B tb:Nat) (w:World) (e:Ending) (w':World):Prop:=∃ r:Nat,e=.returned (.int .i64 (r:Int))∧1≤r∧r≤2∧wD B w' tb∧w.grownBy w' (some tb)
set_option maxHeartbeats 400000 in
theorem letters_any (B tb:Nat) (w:World) (hT:wD B w tb) :
  Calls Tryd.prog 13 #[.pointer (some ⟨tb,0,none⟩)] w (LettersOk B tb w):=by
 have HN:=Kh (tN B tb w 8 (by omega) hT)
 clear hT
 go_enter Tryd.func13,Tryd.ntmps13
 go_wp2_with fail
 refine HN.out.mono ?_
 rintro e w1 ⟨r,rfl,hr0,hr1,hT1,hg1⟩
 have hr8:=hr1 (by omega)
 have HT1:=Kh hT1;have HG1:=Kh hg1
 clear hT1 hg1 hr1
 go_wp2
 go_ret
 refine ⟨(2 - r / 7).toNat,?_,by omega,by omega,HT1.out,HG1.out⟩
 show Ending.returned (.int .i64 (2 - r / 7))=_
 exact yH (by omega)
theorem qCD.dfa {w w':World} {v:Value} {m:DfaV} {n k:Nat} (h:qCD w w' v m) (hd:VD m n k):mG w'.heap.size w' v m:=by
 obtain ⟨o,hs,sf,cf,sn,cn,rfl,_,hh⟩:=h
 exact (hh.built (by rw [hd.hn,hd.nl])).dfa
theorem qI.nil (B:Nat) (w:World):qI B w (.slice none 0 0) []:=⟨[],.inl ⟨rfl,rfl⟩,rY.nil⟩
def qAS (S:Option SynV):List (List Nat) × List Nat:=match S with
 | some S=>(S.tab,S.images)
 | none=>([],[])
def qCJ (d:DfaV) (S:Option SynV):Prop:=match S with
 | some S=>∃ (n k m:Nat) (M:DfaV),VD d n k∧M=minD d k∧VD M m k∧m≤32∧SynE (kR M m k) m (st0 M) M.final S
 | none=>Huge d
def qAC (most:Nat) (T:List (List Nat)) (im:List Nat):Prop :=
 (∃ (d:DfaV) (n k:Nat) (S:SynV),VD d n k∧k≤2∧qCJ d (some S)∧S.tab.length≤most∧T=S.tab∧im=S.images) ∨
 ∃ (d:DfaV) (n:Nat) (S:Option SynV),VD d n 1∧n≤4∧qDN d n∧qCJ d S∧T=(qAS S).1∧im=(qAS S).2
def nZ (B tb most:Nat) (w:World) (e:Ending) (w':World):Prop :=
 ∃ (T:List (List Nat)) (im:List Nat) (vT vI:Value),e=.returned (.tuple #[vT,vI])∧qI w'.heap.size w' vT T∧RowT w'.heap.size 3 w' vI (nats im)∧qAC most T im∧wD B w' tb∧w.grownBy w' (some tb)
theorem nZ.drew {B tb most:Nat} {w w':World} {e:Ending} (h:nZ B tb most w e w') (m:Nat):nZ B tb most w e (w'.drewN m):=by
 obtain ⟨T,im,vT,vI,h1,h2,h3,h4,h5,h6⟩:=h
 have hg:=zJ w' m none
 exact ⟨T,im,vT,vI,h1,(h2.kept hg (by simp) (by simp)).mono hg.size,(h3.kept hg (by simp)).mono hg.size,h4,h5.kept hg (by simp),zG h6 hg (by simp)⟩
set_option maxRecDepth 100000 in
set_option maxHeartbeats 2000000 in
theorem table40_any (B tb most:Nat) (w:World) (hmo:most≤400) (hT:wD B w tb) :
  Calls Tryd.prog 18 #[.pointer (some ⟨tb,0,none⟩),.int .i64 (most:Int)] w (nZ B tb most w):=by
 have HLE:=Kh (letters_any B tb w hT)
 have HMOST:=Kh hmo
 clear hT
 go_enter Tryd.func18,Tryd.ntmps18
 go_wp2_with fail
 refine HLE.out.mono ?_
 rintro e w1 ⟨r,rfl,hr1,hr2,hT1,hg1⟩
 have HMA:=Kh (many_any B tb w1 r 3 hr1 hr2 (by omega) (by omega) hT1)
 have HG1:=Kh hg1
 clear hT1 hg1
 go_wp2_with fail
 refine HMA.out.mono ?_
 rintro e w2 ⟨v2,d,n,rfl,hdo,hvd,hn,hR,hT2,hg2⟩
 have HOF:=Kh (qAM w2.heap.size w2 v2 d (Nat.le_refl _) (hdo.dfa hvd))
 have HT2:=Kh hT2;have HVD:=Kh hvd;have HG2:=Kh (zF HG1.out hg2)
 clear hdo hvd hR hT2 hg2
 go_wp2_with fail
 refine HOF.out.mono ?_
 have hsec:∀ W:World,wD B W tb→Hid (Calls Tryd.prog 14 #[.pointer (some ⟨tb,0,none⟩),.int .i64 1,.int .i64 4] W (lF qDN B tb W 1 4)):=fun W h=>Kh (aM B tb W 1 4 (by omega) (by omega) (by omega) (by omega) h)
 have HSEC:=Kh hsec
 clear hsec
 rintro e w3 (⟨c,rfl,hc,hc1,hc2,hg3⟩|⟨S,v3,n',k',m,M,hvd',hM,hVM,hm,rfl,hSE,hSA,hg3⟩)
 ·have hT3:=HT2.out.kept hg3 (by simp)
  have hgal:=Ga w3 (.cells #[.int .i64 0,.slice none 0 0,.slice none 0 0,.slice none 0 0,.slice none 0 0,.slice none 0 0] 33) none
  have hb:=heap_alloc_new w3 (.cells #[.int .i64 0,.slice none 0 0,.slice none 0 0,.slice none 0 0,.slice none 0 0,.slice none 0 0] 33)
  obtain ⟨w4,hw4⟩:∃ w4,w4=w3.alloc (.cells #[.int .i64 0,.slice none 0 0,.slice none 0 0,.slice none 0 0,.slice none 0 0,.slice none 0 0] 33):=⟨_,rfl⟩
  rw [← hw4] at hgal hb
  obtain ⟨o,ho⟩:∃ o,o=w3.heap.size:=⟨_,rfl⟩
  rw [← ho] at hb
  have hT4:=hT3.kept hgal (by simp)
  have HPE:=HSEC.out w4 hT4
  have hto:=HT2.out.lt
  have HG4:=Kh (zG (zG HG2.out hg3 (by simp)) hgal (by simp));have HW4:=Kh hw4;have HB:=Kh hb;have HOE:=Kh ho
  have hot:tb < o:=by have:=hg3.size;omega
  have hos:w.heap.size≤o:=by have:=HG2.out.size;have:=hg3.size;omega
  have HT4:=Kh hT4
  clear hT3 hg3 hgal hw4 hb ho hT4 hto hc1 hc2
  go_upto_region 2 with fail
  rw [← HW4.out,← HOE.out]
  go_wp2_with fail
  refine HPE.out.mono ?_
  rintro e w5 ⟨v5,d5,n5,rfl,hdo5,hvd5,hn5,hR5,hT5,hg5⟩
  have HOF5:=Kh (qAM w5.heap.size w5 v5 d5 (Nat.le_refl _) (hdo5.dfa hvd5))
  have HT5:=Kh hT5;have HVD5:=Kh hvd5;have HG5:=Kh (zF HG4.out hg5);have HR5:=Kh hR5
  have HB5:=Kh (zE HB.out hg5 (fun e=>by have e:tb=o:=Oj e;omega))
  clear hdo5 hvd5 hR5 hT5 hg5
  go_wp2_with fail
  refine HOF5.out.mono ?_
  rintro e w6 (⟨c6,rfl,hc6,_,hc62,hg6⟩|⟨S6,v6,n6,k6,m6,M6,hvd6,hM6,hVM6,hm6,rfl,hSE6,hSA6,hg6⟩)
  ·have HHU:=Kh (hc62 (bT HVD5.out)).2
   clear hc62
   have hb6:=zE HB5.out hg6 (by simp)
   obtain ⟨p0,p1,p2,p3,p4,p5⟩:=yT hb6
   have f0:=zD hb6 0;have f1:=zD hb6 1;have f2:=zD hb6 2;have f3:=zD hb6 3;have f4:=zD hb6 4;have f5:=zD hb6 5
   have HB6:=Kh hb6;have HG6:=Kh (zG HG5.out hg6 (by simp));have HT6:=Kh (HT5.out.kept hg6 (by simp))
   clear hb6 hg6
   go_upto_region 4 with fail
   obtain ⟨hsZ,hgZ⟩:=tP HB6.out (.int .i64 0) (.slice none 0 0) (.slice none 0 0) (.slice none 0 0) (.slice none 0 0) (.slice none 0 0)
   obtain ⟨wZ,hwZ⟩:∃ wZ,wZ=((((((w6.setCell ⟨o,0,none⟩ (.int .i64 0)).setCell ⟨o,1,none⟩ (.slice none 0 0)).setCell ⟨o,2,none⟩ (.slice none 0 0)).setCell ⟨o,3,none⟩ (.slice none 0 0)).setCell ⟨o,4,none⟩ (.slice none 0 0)).setCell ⟨o,5,none⟩ (.slice none 0 0)):=⟨_,rfl⟩
   rw [← hwZ] at hsZ hgZ ⊢
   have HTZ:=Kh (HT6.out.kept hgZ (fun j e=>by have e:o=j:=Oj e;have:=HT6.out.ge;omega))
   have HGZ:=Kh (zG HG6.out hgZ (fun j e=>by have e:o=j:=Oj e;omega))
   have HGO:=Kh hgZ
   obtain ⟨z0,z1,z2,z3,z4,z5⟩:=yT hsZ
   clear hwZ hsZ hgZ p0 p1 p2 p3 p4 p5 f0 f1 f2 f3 f4 f5 z0 z2 z4 z5
   go_quiet (fail)
   go_wp2
   refine bodyPost_ret (v:=.tuple #[.slice none 0 0,.slice none 0 0]) (by simp [results,Tryd.results18,go_sem]) rfl ?_
   refine nZ.drew ?_ _
   exact ⟨[],[],_,_,rfl,qI.nil _ _,.inl ⟨rfl,rfl⟩,.inr ⟨d5,n5,none,HVD5.out,hn5,HR5.out,HHU.out,rfl,rfl⟩,HTZ.out,HGZ.out⟩
  ·have HSA6:=Kh hSA6
   obtain ⟨vT6,vW6,vI6,vA6,vP6,rfl,hT6,hW6,hI6,hA6,hPl6⟩:=id hSA6
   obtain ⟨tA6,tC6,rfl⟩:=(qI.tmat hT6).shape
   obtain ⟨wA6,wC6,rfl⟩:=hW6.shape
   obtain ⟨iA6,iC6,rfl⟩:=hI6.shape
   obtain ⟨aA6,aC6,rfl⟩:=hA6.shape
   obtain ⟨lA6,lC6,rfl⟩:=hPl6.shape
   obtain ⟨tn6,htn6⟩:∃ x,x=S6.tab.length:=⟨_,rfl⟩
   obtain ⟨wn6,hwn6⟩:∃ x,x=(tX S6.words).length:=⟨_,rfl⟩
   obtain ⟨in6,hin6⟩:∃ x,x=(nats S6.images).length:=⟨_,rfl⟩
   obtain ⟨an6,han6⟩:∃ x,x=(bls S6.accept).length:=⟨_,rfl⟩
   obtain ⟨ln6,hln6⟩:∃ x,x=(bls S6.plus).length:=⟨_,rfl⟩
   rw [← htn6] at hT6;rw [← hin6] at hI6
   rw [← htn6,← hwn6,← hin6,← han6,← hln6]
   have HTT6:=Kh hT6;have HI6:=Kh hI6
   have HE6:Hid (qCJ d5 (some S6)):=Kh ⟨n6,k6,m6,M6,hvd6,hM6,hVM6,hm6,hSE6⟩
   clear hSA6 hT6 hW6 hI6 hA6 hPl6 htn6 hwn6 hin6 han6 hln6 hvd6 hM6 hVM6 hm6 hSE6
   have hb6:=zE HB5.out hg6 (by simp)
   obtain ⟨p0,p1,p2,p3,p4,p5⟩:=yT hb6
   have f0:=zD hb6 0;have f1:=zD hb6 1;have f2:=zD hb6 2;have f3:=zD hb6 3;have f4:=zD hb6 4;have f5:=zD hb6 5
   have HB6:=Kh hb6;have HG6:=Kh (zG HG5.out hg6 (by simp));have HT6:=Kh (HT5.out.kept hg6 (by simp))
   clear hb6 hg6
   go_upto_region 4 with fail
   obtain ⟨hsZ,hgZ⟩:=tP HB6.out (.int .i64 S6.k) (.slice tA6 tn6 tC6) (.slice wA6 wn6 wC6) (.slice iA6 in6 iC6) (.slice aA6 an6 aC6) (.slice lA6 ln6 lC6)
   obtain ⟨wZ,hwZ⟩:∃ wZ,wZ=((((((w6.setCell ⟨o,0,none⟩ (.int .i64 S6.k)).setCell ⟨o,1,none⟩ (.slice tA6 tn6 tC6)).setCell ⟨o,2,none⟩ (.slice wA6 wn6 wC6)).setCell ⟨o,3,none⟩ (.slice iA6 in6 iC6)).setCell ⟨o,4,none⟩ (.slice aA6 an6 aC6)).setCell ⟨o,5,none⟩ (.slice lA6 ln6 lC6)):=⟨_,rfl⟩
   rw [← hwZ] at hsZ hgZ ⊢
   have HTZ:=Kh (HT6.out.kept hgZ (fun j e=>by have e:o=j:=Oj e;have:=HT6.out.ge;omega))
   have HGZ:=Kh (zG HG6.out hgZ (fun j e=>by have e:o=j:=Oj e;omega))
   have HGO:=Kh hgZ
   obtain ⟨z0,z1,z2,z3,z4,z5⟩:=yT hsZ
   clear hwZ hsZ hgZ p0 p1 p2 p3 p4 p5 f0 f1 f2 f3 f4 f5 z0 z2 z4 z5
   go_quiet (fail)
   go_wp2
   refine bodyPost_ret (v:=.tuple #[.slice tA6 tn6 tC6,.slice iA6 in6 iC6]) (by simp [results,Tryd.results18,go_sem]) rfl ?_
   refine nZ.drew ?_ _
   exact ⟨S6.tab,S6.images,_,_,rfl,(qI.kept HTT6.out HGO.out (fun j e=>.inr (by have e:o=j:=Oj e;subst e;exact ⟨_,_,_,HB6.out,by decide⟩)) (fun j e=>.inr (by have e:o=j:=Oj e;subst e;exact ⟨_,_,_,HB6.out,by decide⟩))).mono HGO.out.size,(HI6.out.kept HGO.out (fun j e=>.inr (by have e:o=j:=Oj e;subst e;exact ⟨_,_,_,HB6.out,by decide⟩))).mono HGO.out.size,.inr ⟨d5,n5,some S6,HVD5.out,hn5,HR5.out,HE6.out,rfl,rfl⟩,HTZ.out,HGZ.out⟩
 ·obtain ⟨vT,vW,vI,vA,vP,rfl,hT,hW,hI,hA,hPl⟩:=id hSA
  obtain ⟨tA,tC,rfl⟩:=(qI.tmat hT).shape
  obtain ⟨wA,wC,rfl⟩:=hW.shape
  obtain ⟨iA,iC,rfl⟩:=hI.shape
  obtain ⟨aA,aC,rfl⟩:=hA.shape
  obtain ⟨lA,lC,rfl⟩:=hPl.shape
  obtain ⟨wn,hwn⟩:∃ wn,wn=(tX S.words).length:=⟨_,rfl⟩
  obtain ⟨iN,hin⟩:∃ iN,iN=(nats S.images).length:=⟨_,rfl⟩
  obtain ⟨aN,han⟩:∃ aN,aN=(bls S.accept).length:=⟨_,rfl⟩
  obtain ⟨lN,hln⟩:∃ lN,lN=(bls S.plus).length:=⟨_,rfl⟩
  rw [← hin] at hI
  rw [← hwn,← hin,← han,← hln]
  have hT3:=HT2.out.kept hg3 (by simp)
  have hgal:=Ga w3 (.cells #[.int .i64 S.k,.slice tA S.tab.length tC,.slice wA wn wC,.slice iA iN iC,.slice aA aN aC,.slice lA lN lC] 33) none
  have hb:=heap_alloc_new w3 (.cells #[.int .i64 S.k,.slice tA S.tab.length tC,.slice wA wn wC,.slice iA iN iC,.slice aA aN aC,.slice lA lN lC] 33)
  obtain ⟨w4,hw4⟩:∃ w4,w4=w3.alloc (.cells #[.int .i64 S.k,.slice tA S.tab.length tC,.slice wA wn wC,.slice iA iN iC,.slice aA aN aC,.slice lA lN lC] 33):=⟨_,rfl⟩
  rw [← hw4] at hgal hb
  obtain ⟨o,ho⟩:∃ o,o=w3.heap.size:=⟨_,rfl⟩
  rw [← ho] at hb
  have hT4:=hT3.kept hgal (by simp)
  have HPE:=HSEC.out w4 hT4
  have hto:=HT2.out.lt
  have HG4:=Kh (zG (zG HG2.out hg3 (by simp)) hgal (by simp));have HW4:=Kh hw4;have HB:=Kh hb;have HOE:=Kh ho
  have hot:tb < o:=by have:=hg3.size;omega
  have hos:w.heap.size≤o:=by have:=HG2.out.size;have:=hg3.size;omega
  have HT4:=Kh hT4
  have HTT:=Kh ((qI.kept hT hgal (by simp) (by simp)).mono hgal.size);have HI:=Kh ((hI.kept hgal (by simp)).mono hgal.size)
  have HE1:Hid (qCJ d (some S)):=Kh ⟨n',k',m,M,hvd',hM,hVM,hm,hSE⟩
  have hk2:Hid (r≤2):=Kh hr2
  obtain ⟨c0,c1,c2,c3,c4,c5⟩:=yT hb
  clear hT3 hg3 hgal hw4 hb ho hT4 hto hvd' hM hVM hm hSE hSA hT hW hI hA hPl hwn hin han hln c0 c2 c4 c5
  go_upto_region 2 with fail
  rw [← HW4.out,← HOE.out]
  by_cases hmm:most < S.tab.length
  ·have hmm':(most:Int) < S.tab.length:=by omega
   clear c3 HTT HI
   go_wp2_with fail
   refine HPE.out.mono ?_
   rintro e w5 ⟨v5,d5,n5,rfl,hdo5,hvd5,hn5,hR5,hT5,hg5⟩
   have HOF5:=Kh (qAM w5.heap.size w5 v5 d5 (Nat.le_refl _) (hdo5.dfa hvd5))
   have HT5:=Kh hT5;have HVD5:=Kh hvd5;have HG5:=Kh (zF HG4.out hg5);have HR5:=Kh hR5
   have HB5:=Kh (zE HB.out hg5 (fun e=>by have e:tb=o:=Oj e;omega))
   clear hdo5 hvd5 hR5 hT5 hg5
   go_wp2_with fail
   refine HOF5.out.mono ?_
   rintro e w6 (⟨c6,rfl,hc6,_,hc62,hg6⟩|⟨S6,v6,n6,k6,m6,M6,hvd6,hM6,hVM6,hm6,rfl,hSE6,hSA6,hg6⟩)
   ·have HHU:=Kh (hc62 (bT HVD5.out)).2
    clear hc62
    have hb6:=zE HB5.out hg6 (by simp)
    obtain ⟨p0,p1,p2,p3,p4,p5⟩:=yT hb6
    have f0:=zD hb6 0;have f1:=zD hb6 1;have f2:=zD hb6 2;have f3:=zD hb6 3;have f4:=zD hb6 4;have f5:=zD hb6 5
    have HB6:=Kh hb6;have HG6:=Kh (zG HG5.out hg6 (by simp));have HT6:=Kh (HT5.out.kept hg6 (by simp))
    clear hb6 hg6
    go_upto_region 4 with fail
    obtain ⟨hsZ,hgZ⟩:=tP HB6.out (.int .i64 0) (.slice none 0 0) (.slice none 0 0) (.slice none 0 0) (.slice none 0 0) (.slice none 0 0)
    obtain ⟨wZ,hwZ⟩:∃ wZ,wZ=((((((w6.setCell ⟨o,0,none⟩ (.int .i64 0)).setCell ⟨o,1,none⟩ (.slice none 0 0)).setCell ⟨o,2,none⟩ (.slice none 0 0)).setCell ⟨o,3,none⟩ (.slice none 0 0)).setCell ⟨o,4,none⟩ (.slice none 0 0)).setCell ⟨o,5,none⟩ (.slice none 0 0)):=⟨_,rfl⟩
    rw [← hwZ] at hsZ hgZ ⊢
    have HTZ:=Kh (HT6.out.kept hgZ (fun j e=>by have e:o=j:=Oj e;have:=HT6.out.ge;omega))
    have HGZ:=Kh (zG HG6.out hgZ (fun j e=>by have e:o=j:=Oj e;omega))
    have HGO:=Kh hgZ
    obtain ⟨z0,z1,z2,z3,z4,z5⟩:=yT hsZ
    clear hwZ hsZ hgZ p0 p1 p2 p3 p4 p5 f0 f1 f2 f3 f4 f5 z0 z2 z4 z5
    go_quiet (fail)
    go_wp2
    refine bodyPost_ret (v:=.tuple #[.slice none 0 0,.slice none 0 0]) (by simp [results,Tryd.results18,go_sem]) rfl ?_
    refine nZ.drew ?_ _
    exact ⟨[],[],_,_,rfl,qI.nil _ _,.inl ⟨rfl,rfl⟩,.inr ⟨d5,n5,none,HVD5.out,hn5,HR5.out,HHU.out,rfl,rfl⟩,HTZ.out,HGZ.out⟩
   ·have HSA6:=Kh hSA6
    obtain ⟨vT6,vW6,vI6,vA6,vP6,rfl,hT6,hW6,hI6,hA6,hPl6⟩:=id hSA6
    obtain ⟨tA6,tC6,rfl⟩:=(qI.tmat hT6).shape
    obtain ⟨wA6,wC6,rfl⟩:=hW6.shape
    obtain ⟨iA6,iC6,rfl⟩:=hI6.shape
    obtain ⟨aA6,aC6,rfl⟩:=hA6.shape
    obtain ⟨lA6,lC6,rfl⟩:=hPl6.shape
    obtain ⟨tn6,htn6⟩:∃ x,x=S6.tab.length:=⟨_,rfl⟩
    obtain ⟨wn6,hwn6⟩:∃ x,x=(tX S6.words).length:=⟨_,rfl⟩
    obtain ⟨in6,hin6⟩:∃ x,x=(nats S6.images).length:=⟨_,rfl⟩
    obtain ⟨an6,han6⟩:∃ x,x=(bls S6.accept).length:=⟨_,rfl⟩
    obtain ⟨ln6,hln6⟩:∃ x,x=(bls S6.plus).length:=⟨_,rfl⟩
    rw [← htn6] at hT6;rw [← hin6] at hI6
    rw [← htn6,← hwn6,← hin6,← han6,← hln6]
    have HTT6:=Kh hT6;have HI6:=Kh hI6
    have HE6:Hid (qCJ d5 (some S6)):=Kh ⟨n6,k6,m6,M6,hvd6,hM6,hVM6,hm6,hSE6⟩
    clear hSA6 hT6 hW6 hI6 hA6 hPl6 htn6 hwn6 hin6 han6 hln6 hvd6 hM6 hVM6 hm6 hSE6
    have hb6:=zE HB5.out hg6 (by simp)
    obtain ⟨p0,p1,p2,p3,p4,p5⟩:=yT hb6
    have f0:=zD hb6 0;have f1:=zD hb6 1;have f2:=zD hb6 2;have f3:=zD hb6 3;have f4:=zD hb6 4;have f5:=zD hb6 5
    have HB6:=Kh hb6;have HG6:=Kh (zG HG5.out hg6 (by simp));have HT6:=Kh (HT5.out.kept hg6 (by simp))
    clear hb6 hg6
    go_upto_region 4 with fail
    obtain ⟨hsZ,hgZ⟩:=tP HB6.out (.int .i64 S6.k) (.slice tA6 tn6 tC6) (.slice wA6 wn6 wC6) (.slice iA6 in6 iC6) (.slice aA6 an6 aC6) (.slice lA6 ln6 lC6)
    obtain ⟨wZ,hwZ⟩:∃ wZ,wZ=((((((w6.setCell ⟨o,0,none⟩ (.int .i64 S6.k)).setCell ⟨o,1,none⟩ (.slice tA6 tn6 tC6)).setCell ⟨o,2,none⟩ (.slice wA6 wn6 wC6)).setCell ⟨o,3,none⟩ (.slice iA6 in6 iC6)).setCell ⟨o,4,none⟩ (.slice aA6 an6 aC6)).setCell ⟨o,5,none⟩ (.slice lA6 ln6 lC6)):=⟨_,rfl⟩
    rw [← hwZ] at hsZ hgZ ⊢
    have HTZ:=Kh (HT6.out.kept hgZ (fun j e=>by have e:o=j:=Oj e;have:=HT6.out.ge;omega))
    have HGZ:=Kh (zG HG6.out hgZ (fun j e=>by have e:o=j:=Oj e;omega))
    have HGO:=Kh hgZ
    obtain ⟨z0,z1,z2,z3,z4,z5⟩:=yT hsZ
    clear hwZ hsZ hgZ p0 p1 p2 p3 p4 p5 f0 f1 f2 f3 f4 f5 z0 z2 z4 z5
    go_quiet (fail)
    go_wp2
    refine bodyPost_ret (v:=.tuple #[.slice tA6 tn6 tC6,.slice iA6 in6 iC6]) (by simp [results,Tryd.results18,go_sem]) rfl ?_
    refine nZ.drew ?_ _
    exact ⟨S6.tab,S6.images,_,_,rfl,(qI.kept HTT6.out HGO.out (fun j e=>.inr (by have e:o=j:=Oj e;subst e;exact ⟨_,_,_,HB6.out,by decide⟩)) (fun j e=>.inr (by have e:o=j:=Oj e;subst e;exact ⟨_,_,_,HB6.out,by decide⟩))).mono HGO.out.size,(HI6.out.kept HGO.out (fun j e=>.inr (by have e:o=j:=Oj e;subst e;exact ⟨_,_,_,HB6.out,by decide⟩))).mono HGO.out.size,.inr ⟨d5,n5,some S6,HVD5.out,hn5,HR5.out,HE6.out,rfl,rfl⟩,HTZ.out,HGZ.out⟩
  ·have hmm':¬ (most:Int) < S.tab.length:=by omega
   obtain ⟨tl,htl⟩:∃ tl,tl=S.tab.length:=⟨_,rfl⟩
   rw [← htl] at c1 hmm'
   have HTL:=Kh htl
   rw [← htl]
   clear htl
   go_upto_region 4 with fail
   go_quiet (fail)
   go_wp2
   refine bodyPost_ret (v:=.tuple #[.slice tA tl tC,.slice iA iN iC]) (by simp [results,Tryd.results18,go_sem]) rfl ?_
   refine nZ.drew ?_ _
   exact ⟨S.tab,S.images,_,_,rfl,by rw [HTL.out];exact HTT.out,HI.out,.inl ⟨d,n,r,S,HVD.out,hk2.out,HE1.out,by have:=HTL.out;omega,rfl,rfl⟩,HT4.out,HG4.out⟩
def Pos (l:List Nat):Prop:=0 < l.length∧0 ∉ l
theorem qDA {n:Nat} {l:List Nat} (hl:∀ b∈l,b < 2 ^ n) {a:Nat} (ha:a∈l) (h0:a≠0):Pos (wT n l):=by
 obtain ⟨b,hb,hab⟩:=lV hl _ a (Nat.le_refl _) ha
 refine ⟨List.length_pos_of_mem hb,fun h=>?_⟩
 rcases ((jK hl).1 h).2 a ha with e|e
 ·exact h0 e.symm
 ·exact e (Nat.zero_and a)
theorem Pos.ex {l:List Nat} (h:Pos l):∃ a∈l,a≠0:=by
 obtain ⟨a,ha⟩:=List.exists_mem_of_length_pos h.1
 exact ⟨a,ha,fun e=>h.2 (e ▸ ha)⟩
theorem start_pos' {t:List (List Int)} {im:List Int} (h:Good t im):Pos (uH t im) :=
 qDA (nT h) (a:=2 ^ (vC t).toNat) (by simp [genL]) (Nat.ne_of_gt (Nat.two_pow_pos _))
theorem Pos.round {n:Nat} {tb:Nat→Nat→Nat} {l:List Nat} (ht:Tb n tb) (hl:∀ b∈l,b < 2 ^ n) (h:Pos l):Pos (zV n tb l):=by
 obtain ⟨a,ha,h0⟩:=h.ex
 exact qDA (vJ ht hl) (vK.2 (.inl ha)) h0
def intL (l:List Nat):List Int:=l.map fun (x:Nat)=>(x:Int)
theorem kO (l:List Nat):(intL l).length=l.length:=by simp [intL]
theorem intL_getD (l:List Nat) (i:Nat):(intL l).getD i 0=(l.getD i 0:Nat):=by
 simp only [intL,List.getD,List.getElem?_map]
 cases l[i]? <;> rfl
theorem aK (l:List Nat):natL (intL l)=l:=by simp [natL,intL,Function.comp_def]
theorem famB_int {n:Nat} {l:List Nat} (h:kD n (l,false)) (hp:Pos l):famB n (intL l)=true:=by
 have hs:l.Pairwise (· < ·):=by
  have:=mS n l
  have h2:wT n l=l:=h.2
  rwa [h2] at this
 have h1:∀ b∈l,b < 2 ^ n:=h.1
 have hft:oR n (intL l) (intL l).length=true:=by
  simp only [oR,List.all_eq_true,List.mem_range]
  intro i hi
  rw [kO] at hi
  have hm:=h1 _ (pE hi)
  have h0:l.getD i 0≠0:=fun e=>hp.2 (e ▸ pE hi)
  simp only [dB,setB,intL_getD,Bool.and_eq_true,decide_eq_true_eq]
  refine ⟨⟨by omega,by omega⟩,?_⟩
  by_cases hi0:i=0
  ·exact .inl hi0
  ·have:=fM hs (i:=i - 1) (j:=i) (by omega) hi
   exact .inr (by omega)
 rw [qDC (by rw [kO];exact hp.1) hft,aK,kO,decide_eq_true_eq]
 have h2:wT n l=l:=h.2
 rw [h2]
theorem row_not_box {B:Nat} {w:World} {a:Option Addr} {n sc pb e:Nat} {l:List Nat} {p q:Value} (h:Row B w (.slice a n sc) (nats l)) (h0:0 < l.length) (hb:w.heap[pb]?=some (.cells #[p,q] e (0,0))) (hp:∀ z,p≠.int .i64 z) (hq:∀ z,q≠.int .i64 z) :
  ∃ k off,a=some ⟨k,off,none⟩∧n=l.length∧l.length≤sc∧sc≤maxLen∧uD w k off (nats l)∧k≠pb:=by
 obtain ⟨k,off,cap,e1,h2,h3,h4,h5⟩:=h.some_ (by rw [zN];exact h0)
 simp only [Value.slice.injEq] at e1
 obtain ⟨rfl,rfl,rfl⟩:=e1
 refine ⟨k,off,rfl,by rw [zN],by rw [zN] at h3;exact h3,h4,h5,?_⟩
 rintro rfl
 have hc:=h5.nat 0 h0
 rw [Nat.add_zero,cell_of_row w k off _ _ _ hb] at hc
 match off,hc with
 | 0,hc=>simp at hc;exact hp _ hc
 | 1,hc=>simp at hc;exact hq _ hc
 | n+2,hc=>simp at hc
set_option maxHeartbeats 800000 in
theorem rclosure_any (B:Nat) (w:World) (v iv:Value) (t:List (List Int)) (im:List Int) (hB:B≤w.heap.size) (h:Mat B w v t) (hi:Row B w iv (ints im)) :
  Calls Tryd.prog 29 #[v,iv] w (qAG w t im):=by
 have HBG:=Kh (rbegin_any B w v iv t im hB h hi)
 have H:=Kh h;have HI:=Kh hi
 clear h hi
 go_enter Tryd.func29,Tryd.ntmps29
 go_wp2_with fail
 refine HBG.out.mono ?_
 rintro e w1 ⟨hg1,hc⟩
 have HG1:=Kh hg1
 have hz1:=hg1.size
 clear HBG hg1
 rcases hc with ⟨hz,rfl⟩|⟨hz,sa,sc,rfl,hown⟩
 ·obtain ⟨E,hE⟩:∃ E,E=yS t im:=⟨_,rfl⟩
  rw [← hE] at hz ⊢
  have HE:=Kh hE
  have e1:(E == 0)=false:=by rw [beq_eq_false_iff_ne];exact hz
  clear hE
  go_wp2
  go_loopg [7] 0 (fun gh i wr=>i=.int .i64 E∧wr=w1.alloc (.cells #[.slice none 0 0,.bool false] 49))
  case atStart=>exact ⟨rfl,rfl⟩
  case round =>
   obtain ⟨rfl,rfl⟩:=hrel
   go_wp2
   refine bodyPost_ret (v:=.tuple #[.slice none 0 0,.int .i64 E]) (by simp [results,Tryd.results29,go_sem]) rfl ?_
   exact ⟨zG HG1.out (Ga _ _ none) (by simp),.inl ⟨by rw [← HE.out];exact hz,by rw [← HE.out]⟩⟩
 ·have hgd:=uP.1 hz
  have HGD:=Kh hgd;have HZ:=Kh hz
  have hle:=hgd.le
  have hva:=hgd.valid
  have HTB:=Kh (oK hva)
  have hpos:=fL hgd
  obtain ⟨k0,rfl,hsc1,hsc2,harr⟩:=yK hown hpos
  have hkl:=hown.lt k0 rfl
  obtain ⟨l0,hl0⟩:∃ l0,l0=uH t im:=⟨_,rfl⟩
  have HPS:Hid (Pos l0):=Kh (by rw [hl0];exact start_pos' hgd)
  have HF0:Hid (kD t.length (l0,false)):=Kh (by rw [hl0];exact gO hgd)
  rw [← hl0] at hpos hown hsc1 harr ⊢
  have HRA:=Kh harr.row
  have HL0:=Kh hl0
  have HGO:Hid (kV t.length (entN t) l0 l0 false):=Kh ⟨HF0.out,0,rfl⟩
  clear hown harr hl0 hgd hva hz
  go_wp2
  obtain ⟨wA,hWA⟩:∃ wA,wA=w1.alloc (.cells #[.slice (some ⟨k0,0,none⟩) l0.length sc,.bool false] 49):=⟨_,rfl⟩
  have HRB:Hid (wA.heap[w1.heap.size]?=some (.cells #[.slice (some ⟨k0,0,none⟩) l0.length sc,.bool false] 49 (0,0))):=Kh (by rw [hWA];exact heap_alloc_new w1 _)
  have hgA:w1.grownBy wA none:=by rw [hWA];exact Ga w1 _ none
  rw [← hWA]
  have HGA:=Kh (zF HG1.out hgA)
  have HRW:=Kh (HRA.out.kept hgA (by simp))
  have hk0:k0≠w1.heap.size:=by omega
  clear hWA hgA HRA HG1
  obtain ⟨bx,hbx⟩:∃ bx,bx=w1.heap.size:=⟨_,rfl⟩
  rw [← hbx] at HRB hk0 hz1 ⊢
  clear hbx
  go_loopg [7] (togo t.length l0 false) (fun gh i wr=>i=.int .i64 0∧∃ (k off sc:Nat) (l:List Nat) (d:Bool),gh=togo t.length l d∧kV t.length (entN t) l0 l d∧Hid (Pos l)∧uD wr k off (nats l)∧l.length≤sc∧sc≤maxLen∧k≠bx∧w.grownBy wr none∧wr.heap[bx]?=some (.cells #[.slice (some ⟨k,off,none⟩) l.length sc,.bool d] 49 (0,0)))
  case atStart=>exact ⟨rfl,k0,0,sc,l0,false,rfl,HGO.out,HPS,HRW.out,hsc1,hsc2,hk0,HGA.out,HRB.out⟩
  case round =>
   clear HGO HPS HRW HGA HRB hsc1 hsc2 hk0
   obtain ⟨rfl,k,off,sc,l,d,hg,hgo,hps,hrw,hs1,hs2,hkb,hgr,hrb⟩:=hrel
   have HG:=Kh hg;have HGO:=Kh hgo;have HRW:=Kh hrw;have HGR:=Kh hgr;have HRB:=Kh hrb
   have cr0:=zI hrb 0 (by simp)
   have cr1:=zI hrb 1 (by simp)
   have fr0:=zD hrb 0
   have fr1:=zD hrb 1
   simp only [List.getElem_toArray,List.getElem_cons_zero,List.getElem_cons_succ] at cr0 cr1
   have HROW:Hid (Row wr.heap.size wr (.slice (some ⟨k,off,none⟩) l.length sc) (nats l)):=Kh (.inr ⟨k,off,sc,by rw [zN],hrw.1,by rw [zN];exact hs1,hs2,hrw⟩)
   clear hg hgo hrw hgr hrb
   cases d with
   | true =>
    go_wp2
    refine bodyPost_ret (v:=.tuple #[.slice (some ⟨k,off,none⟩) l.length sc,.int .i64 0]) (by simp [results,Tryd.results29,go_sem]) rfl ?_
    refine ⟨HGR.out,.inr ⟨HZ.out,_,rfl,?_⟩⟩
    have:=HGO.out.stop HTB.out HF0.out
    unfold tK
    rw [← HL0.out,← this]
    exact HROW.out
   | false =>
    have hadv:=radvance_any wr.heap.size wr v iv (.slice (some ⟨k,off,none⟩) l.length sc) t im (intL l) false 1 (Nat.le_refl _) ((H.out.kept HGR.out (by simp)).mono (by have:=HGR.out.size;omega)) ((HI.out.kept HGR.out (by simp)).mono (by have:=HGR.out.size;omega)) (by have:=HROW.out;rw [qCH] at this;exact this)
    have hE:advE t im (intL l) 1=0:=qDK HZ.out (by omega) (famB_int HGO.out.1 hps.out)
    have hL:advL t (intL l) false 1=(zV t.length (entN t) l,decide (zV t.length (entN t) l=l)):=by
     unfold advL
     rw [aK]
     show yZ _ _ (0+1) _=_
     rw [uL];rfl
    have HADV:=Kh hadv
    have HE0:=Kh hE;have HL1:=Kh hL
    have HP3:Hid (Pos (zV t.length (entN t) l)):=Kh (hps.out.round HTB.out HGO.out.1.1)
    have HM:Hid (togo t.length (zV t.length (entN t) l) (decide (zV t.length (entN t) l=l)) < togo t.length l false):=Kh (HGO.out.less HTB.out)
    have HGN:=Kh (HGO.out.step HTB.out)
    clear hadv hE hL
    go_wp2_with fail
    refine HADV.out.mono ?_
    rintro e w3 ⟨hg3,hc3⟩
    rcases hc3 with ⟨hne,_⟩|⟨_,v3,rfl,hrow3⟩
    ·exact absurd HE0.out hne
    rw [HL1.out] at hrow3 ⊢
    obtain ⟨R,hR⟩:∃ R,R=zV t.length (entN t) l:=⟨_,rfl⟩
    obtain ⟨D,hD⟩:∃ D,D=decide (zV t.length (entN t) l=l):=⟨_,rfl⟩
    rw [← hD,← hR] at HM HGN
    rw [← hR] at HP3
    dsimp only at hrow3 ⊢
    rw [← hD]
    rw [← hR] at hrow3
    obtain ⟨a3,c3,rfl⟩:=hrow3.shape
    rw [zN] at hrow3 ⊢
    have hr3:=zE HRB.out hg3 (by simp)
    obtain ⟨k3,o3,rfl,_,h31,h32,h33,h34⟩:=row_not_box hrow3 HP3.out.1 hr3 (by intro z;simp) (by intro z;simp)
    have HR3:=Kh hr3;have HRW3:=Kh h33
    have cr0':=zI hr3 0 (by simp)
    have cr1':=zI hr3 1 (by simp)
    have fr0':=zD hr3 0
    have fr1':=zD hr3 1
    simp only [List.getElem_toArray,List.getElem_cons_zero,List.getElem_cons_succ] at cr0' cr1'
    have HG3:Hid (w.grownBy w3 none):=Kh (zF HGR.out hg3)
    clear hrow3 hr3 h33 hg3 hR hD cr0 cr1 fr0 fr1
    go_wp2
    have hs5:w3.grownBy ((w3.setCell ⟨bx,0,none⟩ (.slice (some ⟨k3,o3,none⟩) R.length c3)).setCell ⟨bx,1,none⟩ (.bool D)) (some bx) :=
     zF (zH w3 ⟨bx,0,none⟩ _) (zH (w3.setCell ⟨bx,0,none⟩ (.slice (some ⟨k3,o3,none⟩) R.length c3)) ⟨bx,1,none⟩ _)
    have HR5:=Kh (eK HR3.out (.slice (some ⟨k3,o3,none⟩) R.length c3) (.bool D))
    have HG5:=Kh hs5
    clear hs5
    go_roundg (togo t.length R D)
    case measure=>rw [HG.out];exact HM.out
    case rel=>exact ⟨rfl,k3,o3,c3,R,D,rfl,HGN.out,HP3,HRW3.out.kept HG5.out (fun e=>h34 (Oj e).symm),h31,h32,h34,zG HG3.out HG5.out (fun x e=>by have:bx=x:=Oj e;omega),HR5.out⟩
noncomputable def derE (t:List (List Int)) (im:List Int) (s:Int):Int :=
 if yS t im≠0 then yS t im else if s=0∨setB t.length s=false then 1 else if tZ (intL (tK t im)) s=true then 0 else 9
theorem cC {t:List (List Int)} {im:List Int} {s:Int} (h:yS t im≠0):derE t im s=yS t im:=by rw [derE,if_pos h]
theorem fB {t:List (List Int)} {im:List Int} {s:Int} (h:yS t im=0) (hs:s=0∨setB t.length s=false):derE t im s=1:=by rw [derE,if_neg (by omega),if_pos hs]
theorem qDF {t:List (List Int)} {im:List Int} {s:Int} (h:yS t im=0) (hs:¬ (s=0∨setB t.length s=false)):derE t im s=if tZ (intL (tK t im)) s=true then 0 else 9:=by rw [derE,if_neg (by omega),if_neg hs]
set_option maxHeartbeats 400000 in
theorem eO (B:Nat) (w:World) (v iv:Value) (t:List (List Int)) (im:List Int) (s:Int) (hB:B≤w.heap.size) (h:Mat B w v t) (hi:Row B w iv (ints im)) :
  Calls Tryd.prog 37 #[v,iv,.int .i64 s] w fun e w'=>e=.returned (.int .i64 (derE t im s))∧w.grownBy w' none:=by
 have HM:=Kh (bB B w v iv t im h hi)
 have H:=Kh h;have HI:=Kh hi
 obtain ⟨ta,tc,rfl⟩:=h.shape
 clear h hi
 go_enter Tryd.func37,Tryd.ntmps37
 go_wp2_with fail
 refine HM.out.mono ?_
 rintro e w1 ⟨rfl,m,rfl⟩
 have HG1:=Kh (zJ w m none)
 by_cases hz:yS t im=0
 ·rw [hz]
  have HZ:=Kh hz
  have hle:=(uP.1 hz).le
  clear hz
  by_cases h0:s=0
  ·have HE:=Kh (fB (s:=s) HZ.out (.inl h0))
   subst h0
   go_wp2
   go_ret
   exact ⟨yH HE.out.symm,HG1.out⟩
  ·have e1:(s == 0)=false:=by rw [beq_eq_false_iff_ne];exact h0
   go_wp2_with fail
   refine (mT _ ta t.length tc s hle).mono ?_
   rintro e w2 ⟨rfl,rfl⟩
   cases hs:setB t.length s with
   | false =>
    have HE:=Kh (fB HZ.out (.inr hs))
    clear hs
    go_wp2
    go_ret
    exact ⟨yH HE.out.symm,HG1.out⟩
   | true =>
    have HE:=Kh (qDF (s:=s) HZ.out (by rw [hs];simp [h0]))
    have HC:=Kh (rclosure_any B (w.drewN m) _ iv t im hB (H.out.kept HG1.out (by simp)) (HI.out.kept HG1.out (by simp)))
    clear hs
    go_wp2_with fail
    refine HC.out.mono ?_
    rintro e w3 ⟨hg3,hc3⟩
    rcases hc3 with ⟨hne,_⟩|⟨_,v3,rfl,hrow3⟩
    ·exact absurd HZ.out hne
    rw [qCH] at hrow3
    have HW:=Kh (within_any _ w3 v3 (intL (tK t im)) s hrow3)
    have HG3:=Kh hg3
    clear hrow3 hg3
    go_wp2_with fail
    refine HW.out.mono ?_
    rintro e w4 ⟨rfl,rfl⟩
    cases hw:tZ (intL (tK t im)) s with
    | true =>
     rw [hw] at HE
     go_wp2
     go_ret
     exact ⟨yH (by rw [HE.out];rfl),zF HG1.out HG3.out⟩
    | false =>
     rw [hw] at HE
     go_wp2
     go_ret
     exact ⟨yH (by rw [HE.out];rfl),zF HG1.out HG3.out⟩
 ·have HE:=Kh (cC (s:=s) hz)
  obtain ⟨E,hE⟩:∃ E,E=yS t im:=⟨_,rfl⟩
  rw [← hE] at hz HE ⊢
  have e1:(E != 0)=true:=by rw [bne_iff_ne];exact hz
  clear hE
  go_wp2
  go_ret
  exact ⟨yH HE.out.symm,HG1.out⟩
theorem closeL_one:tK [[0,1],[1,0]] [1]=[3]:=by unfold tK uU;decide +kernel
theorem closeL_two:tK [[0,1],[1,1]] [1]=[1,2]:=by unfold tK uU;decide +kernel
theorem bR:xM [[0,1],[1,0]]=0:=rR (by decide +kernel) (lB (by
 unfold iV
 decide +kernel))
theorem valid_two:xM [[0,1],[1,1]]=0:=rR (by decide +kernel) (lB (by
 unfold iV
 decide +kernel))
theorem checkE_one:yS [[0,1],[1,0]] [1]=0:=by
 rw [yS,bR];decide +kernel
theorem checkE_two:yS [[0,1],[1,1]] [1]=0:=by
 rw [yS,valid_two];decide +kernel
theorem omegaP_one:fV [[0,1],[1,0]] 2=3:=by
 rw [fV,mayB,bR];decide +kernel
theorem rowAt_block {W:World} {a e:Nat} {zs:List Int} {cs:Array Value} (ha:W.heap[a]?=some (.cells cs e (0,0))) (hcs:cs.toList=ints zs):uD W a 0 (ints zs):=by
 refine ⟨zQ ha,fun i hi=>?_⟩
 have hi':i < cs.size:=by rw [← Array.length_toList,hcs];exact hi
 rw [Nat.zero_add,zI ha i hi']
 congr 1
 rw [← Array.getElem_toList]
 simp only [hcs]
theorem lO {B:Nat} {W:World} {a e n:Nat} {zs:List Int} {cs:Array Value} (ha:W.heap[a]?=some (.cells cs e (0,0))) (hcs:cs.toList=ints zs) (hn:zs.length=n) (hm:n≤maxLen) (hB:a < B):Row B W (.slice (some ⟨a,0,none⟩) n n) (ints zs) :=
 .inr ⟨a,0,n,by rw [zM,hn],hB,by rw [zM];omega,hm,rowAt_block ha hcs⟩
theorem qAO {B:Nat} {W:World} {a b c e e':Nat} {p q r s:Int} (ha:W.heap[a]?=some (.cells #[.int .i64 p,.int .i64 q] e (0,0))) (hb:W.heap[b]?=some (.cells #[.int .i64 r,.int .i64 s] e (0,0)))
  (hc:W.heap[c]?=some (.cells #[.slice (some ⟨a,0,none⟩) 2 2,.slice (some ⟨b,0,none⟩) 2 2] e' (0,0))) (h1:a < B) (h2:b < B) (h3:c < B):Mat B W (.slice (some ⟨c,0,none⟩) 2 2) [[p,q],[r,s]]:=by
 have hm:2≤maxLen:=by unfold maxLen;omega
 refine .inr ⟨c,0,2,fun x=>if x=0 then some ⟨a,0,none⟩ else some ⟨b,0,none⟩,fun _=>2,rfl,by simp,hm,⟨h3,zQ hc,fun x hx=>?_,fun x hx=>?_⟩⟩
 ·have hx2:x < 2:=by simpa using hx
  match x,hx2 with
  | 0,_=>exact zI hc 0 (by simp)
  | 1,_=>exact zI hc 1 (by simp)
 ·have hx2:x < 2:=by simpa using hx
  match x,hx2 with
  | 0,_=>exact lO (zs:=[p,q]) ha rfl rfl hm h1
  | 1,_=>exact lO (zs:=[r,s]) hb rfl rfl hm h2
theorem laid4 (w:World) (c1 c2 c3 c4:Array Value) (e1 e2 e3 e4:Nat):∀ W,W=(((w.alloc (.cells c1 e1)).alloc (.cells c2 e2)).alloc (.cells c3 e3)).alloc (.cells c4 e4) →
  W.heap[w.heap.size]?=some (.cells c1 e1 (0,0))∧W.heap[w.heap.size+1]?=some (.cells c2 e2 (0,0))∧W.heap[w.heap.size+2]?=some (.cells c3 e3 (0,0))∧W.heap[w.heap.size+3]?=some (.cells c4 e4 (0,0))∧w.grownBy W none∧W.heap.size=w.heap.size+4:=by
 rintro W rfl
 have g1:=Ga w (.cells c1 e1) none
 have g2:=Ga (w.alloc (.cells c1 e1)) (.cells c2 e2) none
 have g3:=Ga ((w.alloc (.cells c1 e1)).alloc (.cells c2 e2)) (.cells c3 e3) none
 have g4:=Ga (((w.alloc (.cells c1 e1)).alloc (.cells c2 e2)).alloc (.cells c3 e3)) (.cells c4 e4) none
 have h1:=heap_alloc_new w (.cells c1 e1)
 have h2:=heap_alloc_new (w.alloc (.cells c1 e1)) (.cells c2 e2)
 have h3:=heap_alloc_new ((w.alloc (.cells c1 e1)).alloc (.cells c2 e2)) (.cells c3 e3)
 have h4:=heap_alloc_new (((w.alloc (.cells c1 e1)).alloc (.cells c2 e2)).alloc (.cells c3 e3)) (.cells c4 e4)
 simp only [zO] at h2 h3 h4
 exact ⟨zE h1 (zF (zF g2 g3) g4) (by simp),zE h2 (zF g3 g4) (by simp),zE h3 g4 (by simp),h4,zF (zF (zF g1 g2) g3) g4,by simp only [zO]⟩
theorem laid3 (w:World) (c1 c2 c3:Array Value) (e1 e2 e3:Nat):∀ W,W=((w.alloc (.cells c1 e1)).alloc (.cells c2 e2)).alloc (.cells c3 e3) →
  W.heap[w.heap.size]?=some (.cells c1 e1 (0,0))∧W.heap[w.heap.size+1]?=some (.cells c2 e2 (0,0))∧W.heap[w.heap.size+2]?=some (.cells c3 e3 (0,0))∧w.grownBy W none∧W.heap.size=w.heap.size+3:=by
 rintro W rfl
 have g1:=Ga w (.cells c1 e1) none
 have g2:=Ga (w.alloc (.cells c1 e1)) (.cells c2 e2) none
 have g3:=Ga ((w.alloc (.cells c1 e1)).alloc (.cells c2 e2)) (.cells c3 e3) none
 have h1:=heap_alloc_new w (.cells c1 e1)
 have h2:=heap_alloc_new (w.alloc (.cells c1 e1)) (.cells c2 e2)
 have h3:=heap_alloc_new ((w.alloc (.cells c1 e1)).alloc (.cells c2 e2)) (.cells c3 e3)
 simp only [zO] at h2 h3
 exact ⟨zE h1 (zF g2 g3) (by simp),zE h2 g3 (by simp),h3,zF (zF g1 g2) g3,by simp only [zO]⟩
set_option maxHeartbeats 800000 in
theorem rE (w:World) (hT:TabOk w):Calls Tryd.prog 17 #[] w fun e w'=>e=.returned (.bool true)∧w.grownBy w' none:=by
 have HT:=Kh hT
 clear hT
 go_enter Tryd.func17,Tryd.ntmps17
 go_wp2_with fail
 obtain ⟨wA,hWA⟩:∃ wA,wA=(((w.alloc (.cells #[.int .i64 0,.int .i64 1] 3)).alloc (.cells #[.int .i64 1,.int .i64 0] 3)).alloc (.cells #[.slice (some ⟨w.heap.size,0,none⟩) 2 2,.slice (some ⟨w.heap.size+1,0,none⟩) 2 2] 22)).alloc (.cells #[.int .i64 1] 3):=⟨_,rfl⟩
 obtain ⟨h1,h2,h3,h4,hgA,hzA⟩:=laid4 w _ _ _ _ _ _ _ _ wA hWA
 rw [← hWA]
 have hcl:=eS wA.heap.size wA _ _ [[0,1],[1,0]] [1] (Nat.le_refl _) (qAO h1 h2 h3 (by omega) (by omega) (by omega)) (lO (n:=1) (zs:=[1]) h4 rfl rfl (by unfold maxLen;omega) (by omega)) (HT.out.kept hgA (by simp))
 have HC:=Kh hcl;have HGA:=Kh hgA
 clear hcl hgA h1 h2 h3 h4 hWA
 refine HC.out.mono ?_
 rintro e w1 ⟨hg1,hc1⟩
 rcases hc1 with ⟨hne,_⟩|⟨_,v1,rfl,hr1⟩
 ·exact absurd checkE_one hne
 rw [closeL_one] at hr1
 have HG1:Hid (w.grownBy w1 none):=Kh (zF HGA.out hg1)
 have HR1:Hid (Row w1.heap.size w1 v1 (ints [3])):=Kh hr1
 have hz1:=hg1.size
 clear hr1 hg1 HC HGA
 go_wp2_with fail
 obtain ⟨wB,hWB⟩:∃ wB,wB=(((w1.alloc (.cells #[.int .i64 0,.int .i64 1] 3)).alloc (.cells #[.int .i64 1,.int .i64 1] 3)).alloc (.cells #[.slice (some ⟨w1.heap.size,0,none⟩) 2 2,.slice (some ⟨w1.heap.size+1,0,none⟩) 2 2] 22)).alloc (.cells #[.int .i64 1] 3):=⟨_,rfl⟩
 obtain ⟨h1,h2,h3,h4,hgB,hzB⟩:=laid4 w1 _ _ _ _ _ _ _ _ wB hWB
 rw [← hWB]
 have hcl:=eS wB.heap.size wB _ _ [[0,1],[1,1]] [1] (Nat.le_refl _) (qAO h1 h2 h3 (by omega) (by omega) (by omega)) (lO (n:=1) (zs:=[1]) h4 rfl rfl (by unfold maxLen;omega) (by omega)) (HT.out.kept (zF HG1.out hgB) (by simp))
 have HC:=Kh hcl;have HGB:=Kh hgB
 clear hcl hgB h1 h2 h3 h4 hWB
 refine HC.out.mono ?_
 rintro e w2 ⟨hg2,hc2⟩
 rcases hc2 with ⟨hne,_⟩|⟨_,v2,rfl,hr2⟩
 ·exact absurd checkE_two hne
 rw [closeL_two] at hr2
 have HG12:Hid (w1.grownBy w2 none):=Kh (zF HGB.out hg2)
 have HR2:Hid (Row w2.heap.size w2 v2 (ints [1,2])):=Kh hr2
 have hz2:=hg2.size
 clear hr2 hg2 HC HGB
 have HGA3:=Kh (Ga w2 (.cells #[.int .i64 3] 3) none)
 have HS3:=Kh (lL w1.heap.size (w2.heap.size+1) (w2.alloc (.cells #[.int .i64 3] 3)) v1 _ [3] [3] ((HR1.out.kept HG12.out (by simp)).kept HGA3.out (by simp)) (qCQ w2 [3] #[.int .i64 3] rfl 1 rfl (by unfold maxLen;omega)))
 go_wp2_with fail
 refine HS3.out.mono ?_
 rintro e w3 ⟨rfl,m3,rfl⟩
 have HG3:=Kh (zF HGA3.out (zJ (w2.alloc (.cells #[.int .i64 3] 3)) m3 none))
 obtain ⟨w3,hw3⟩:∃ w3,w3=(w2.alloc (.cells #[.int .i64 3] 3)).drewN m3:=⟨_,rfl⟩
 rw [← hw3] at HG3 ⊢
 clear hw3 HS3 HGA3
 have HGA4:=Kh (Ga w3 (.cells #[.int .i64 1,.int .i64 2] 3) none)
 have HS4:=Kh (lL w2.heap.size (w3.heap.size+1) (w3.alloc (.cells #[.int .i64 1,.int .i64 2] 3)) v2 _ [1,2] [1,2] ((HR2.out.kept HG3.out (by simp)).kept HGA4.out (by simp)) (qCQ w3 [1,2] #[.int .i64 1,.int .i64 2] rfl 2 rfl (by unfold maxLen;omega)))
 go_wp2_with fail
 refine HS4.out.mono ?_
 rintro e w4 ⟨rfl,m4,rfl⟩
 have HG4:=Kh (zF HGA4.out (zJ (w3.alloc (.cells #[.int .i64 1,.int .i64 2] 3)) m4 none))
 obtain ⟨w4,hw4⟩:∃ w4,w4=(w3.alloc (.cells #[.int .i64 1,.int .i64 2] 3)).drewN m4:=⟨_,rfl⟩
 rw [← hw4] at HG4 ⊢
 clear hw4 HS4 HGA4
 have HGW:Hid (w.grownBy w4 none):=Kh (zF (zF (zF HG1.out HG12.out) HG3.out) HG4.out)
 go_wp2_with fail
 obtain ⟨wC,hWC⟩:∃ wC,wC=((w4.alloc (.cells #[.int .i64 0,.int .i64 1] 3)).alloc (.cells #[.int .i64 1,.int .i64 0] 3)).alloc (.cells #[.slice (some ⟨w4.heap.size,0,none⟩) 2 2,.slice (some ⟨w4.heap.size+1,0,none⟩) 2 2] 22):=⟨_,rfl⟩
 obtain ⟨h1,h2,h3,hgC,hzC⟩:=laid3 w4 _ _ _ _ _ _ wC hWC
 rw [← hWC]
 have hom:=pomega_any wC.heap.size wC _ [[0,1],[1,0]] 2 (Nat.le_refl _) (qAO h1 h2 h3 (by omega) (by omega) (by omega)) (HT.out.kept (zF HGW.out hgC) (by simp))
 rw [omegaP_one] at hom
 have HOM:=Kh hom;have HGC:=Kh hgC
 clear hom hgC h1 h2 h3 hWC
 refine HOM.out.mono ?_
 rintro e w5 ⟨rfl,hg5⟩
 have HG5:=Kh hg5
 clear hg5
 go_wp2
 go_ret
 exact ⟨zZ rfl,zF (zF HGW.out HGC.out) HG5.out⟩
theorem qAC.le {most:Nat} {T:List (List Nat)} {im:List Nat} (h:qAC most T im):T.length≤400:=by
 have key:∀ (d:DfaV) (S:SynV),qCJ d (some S)→S.tab.length≤400:=fun d S h=>by
  obtain ⟨n,k,m,M,_,_,_,_,el,pr,la,ri,mm,_,h1,_,h2,_⟩:=h
  rw [h2,wU];exact h1
 rcases h with ⟨d,n,k,S,_,_,h1,_,rfl,_⟩|⟨d,n,S,_,_,_,h1,rfl,_⟩
 ·exact key d S h1
 ·cases S with
  | none=>simp [qAS]
  | some S=>exact key d S h1
end Go.Proofs.YtdjhoadoiknaoaaDoor
namespace Go.Proofs.YtdjhoadoiknaoaaDoor
section
variable {gs:List (List Nat)} {n:Nat} {el:List (List Nat)} {pr la:List Int} {ri:List (List Nat)}
theorem Enm.ent (h:Enm gs n el pr la ri el.length) (hg:∀ g∈gs,IsT n g) {x y:Nat} (hx:x < el.length) (hy:y < el.length):entN (tabI (tabE pr la ri el.length)) x y < el.length∧el.getD (entN (tabI (tabE pr la ri el.length)) x y) []=vQ (el.getD x []) (el.getD y []):=by
 rw [tabI_entN];exact h.tab hg hx hy
theorem Enm.entI (h:Enm gs n el pr la ri el.length) (hg:∀ g∈gs,IsT n g) {x y z:Nat} (hx:x < el.length) (hy:y < el.length) (hz:z < el.length) (e:el.getD z []=vQ (el.getD x []) (el.getD y [])):entN (tabI (tabE pr la ri el.length)) x y=z :=
 nodup_getD h.en.nodup (h.ent hg hx hy).1 hz ((h.ent hg hx hy).2.trans e.symm)
theorem uG:(tabI (tabE pr la ri el.length)).length=el.length:=by rw [xC,wU]
theorem Enm.shape (h:Enm gs n el pr la ri el.length) (hg:∀ g∈gs,IsT n g) (h4:el.length≤400):uZ (tabI (tabE pr la ri el.length))=0:=by
 have hp:=h.en.pos
 unfold uZ
 rw [uG,if_neg (by omega),if_neg (by omega),if_pos]
 rw [List.all_eq_true]
 intro r hr
 obtain ⟨x,hx,rfl⟩:=List.getElem_of_mem hr
 have hx':x < el.length:=by rw [uG] at hx;exact hx
 rw [← zY (d:=[]) hx]
 have hl:((tabI (tabE pr la ri el.length)).getD x []).length=el.length:=by
  rw [jB,List.length_map,zY (by rw [wU];exact hx')]
  simp [tabE,qT]
 refine qS.2 ⟨hl,fun y hy=>?_⟩
 rw [hl] at hy
 have e:=gK (tabE pr la ri el.length) x y
 have h1:=(h.tab hg hx' hy).1
 unfold Go.Proofs.YtdjhoadoiknaoaaDoor.ent at e
 rw [e]
 omega
theorem Enm.assoc (h:Enm gs n el pr la ri el.length) (hg:∀ g∈gs,IsT n g):bQ (tabI (tabE pr la ri el.length)):=by
 intro g hg' x y hx hy
 rw [uG] at hg' hx hy
 obtain ⟨a1,a2⟩:=h.ent hg hx hg'
 obtain ⟨b1,b2⟩:=h.ent hg hg' hy
 obtain ⟨c1,c2⟩:=h.ent hg hx b1
 refine h.entI hg a1 hy c1 ?_
 rw [c2,b2,a2,eQ (h.en.it _ (tH hx)) (h.en.it _ (tH hg'))]
theorem Enm.isId (h:Enm gs n el pr la ri el.length) (hg:∀ g∈gs,IsT n g):isId (tabI (tabE pr la ri el.length)) 0=true:=by
 have hp:=h.en.pos
 refine List.all_eq_true.2 fun x hx=>?_
 rw [List.mem_range,uG] at hx
 have hit:IsT n (el.getD x []):=h.en.it _ (tH hx)
 unfold idAt
 rw [h.entI hg hp hx hx (by rw [h.en.one,bH hit]),h.entI hg hx hp hx (by rw [h.en.one,aY hit])]
 simp
theorem Enm.ident (h:Enm gs n el pr la ri el.length) (hg:∀ g∈gs,IsT n g):vC (tabI (tabE pr la ri el.length))=0:=by
 have:=kP (t:=tabI (tabE pr la ri el.length)) (e:=0) (by rw [uG];exact h.en.pos) (h.isId hg) (fun x hx=>by omega)
 exact this
theorem Enm.good (h:Enm gs n el pr la ri el.length) (hg:∀ g∈gs,IsT n g) (h12:el.length≤12) (h1:1≤gs.length) (h6:gs.length≤6):Good (tabI (tabE pr la ri el.length)) ((imgE gs el).map fun (x:Nat)=>(x:Int)) where
 valid:=rR (h.shape hg (by omega)) (h.assoc hg)
 ident:=⟨0,h.ident hg,by rw [uG];exact h.en.pos,h.isId hg⟩
 le:=by rw [uG];exact h12
 im0:=by rw [List.length_map,pD];exact h1
 im6:=by rw [List.length_map,pD];exact h6
 inb:=by
  rw [qB,uG]
  intro y hy
  have hy':y < gs.length:=by rw [List.length_map,pD] at hy;exact hy
  rw [uF (x:=0) (by rw [pD];exact hy')]
  have:(imgE gs el).getD y 0 < el.length:=by
   unfold imgE
   rw [uF (x:=[]) hy']
   exact List.idxOf_lt_length_of_mem (h.image hg hy')
  omega
end
def bI:List Nat→Nat
 | []=>0
 | x :: f=>x+4 * bI f
theorem qBW:∀ f:List Nat,(∀ x∈f,x < 4)→bI f < 4 ^ f.length
 | [],_=>by simp [bI]
 | x :: f,h=>by
  have ih:=qBW f (fun y hy=>h y (by simp [hy]))
  have hx:=h x (by simp)
  rw [bI,List.length_cons,Nat.pow_succ];omega
theorem aZ:∀ f g:List Nat,f.length=g.length→(∀ x∈f,x < 4)→(∀ x∈g,x < 4)→bI f=bI g→f=g
 | [],[],_,_,_,_=>rfl
 | [],_ :: _,h,_,_,_=>by simp at h
 | _ :: _,[],h,_,_,_=>by simp at h
 | x :: f,y :: g,h,hf,hg,e=>by
  have hx:=hf x (by simp)
  have hy:=hg y (by simp)
  rw [bI,bI] at e
  obtain rfl:x=y:=by omega
  rw [aZ f g (by simpa using h) (fun z hz=>hf z (by simp [hz])) (fun z hz=>hg z (by simp [hz])) (by omega)]
theorem fZ {α β:Type} {f:α→β}:∀ {l:List α},l.Nodup→(∀ a∈l,∀ b∈l,f a=f b→a=b)→(l.map f).Nodup
 | [],_,_=>by simp
 | a :: l,h,hi=>by
  rw [List.nodup_cons] at h
  rw [List.map_cons,List.nodup_cons]
  refine ⟨fun hm=>?_,fZ h.2 (fun x hx y hy=>hi x (by simp [hx]) y (by simp [hy]))⟩
  obtain ⟨b,hb,e⟩:=List.mem_map.1 hm
  rw [hi b (by simp [hb]) a (by simp) e] at hb
  exact h.1 hb
theorem few_of_four {m:Nat} (hm:m≤4) {l:List (List Nat)} (hn:l.Nodup) (hl:∀ f∈l,IsT m f):l.length≤256:=by
 have h4:∀ f∈l,∀ x∈f,x < 4:=fun f hf x hx=>by have:=(hl f hf).2 x hx;omega
 have h:=pS (l:=l.map bI) (n:=256) (fZ hn fun a ha b hb e=>aZ a b (by rw [(hl a ha).1,(hl b hb).1]) (h4 a ha) (h4 b hb) e) (fun q hq=>by
  obtain ⟨f,hf,rfl⟩:=List.mem_map.1 hq
  have h1:=qBW f (h4 f hf)
  rw [(hl f hf).1] at h1
  have:4 ^ m≤4 ^ 4:=Nat.pow_le_pow_right (by omega) hm
  omega)
 simpa using h
theorem not_huge {d:DfaV} (h:d.final.length≤4):¬ Huge d:=by
 rintro ⟨m,hm,h1|⟨el,hn,h4,hit⟩⟩
 ·omega
 ·have:=few_of_four (by omega) hn hit;omega
def powT (n:Nat) (g:List Nat):Nat→List Nat
 | 0=>List.range n
 | k+1=>vQ (powT n g k) g
theorem pow_four {n:Nat} (hn:n≤4) {g:List Nat} (hg:IsT n g):powT n g 4∈[powT n g 0,powT n g 1,powT n g 2,powT n g 3]:=by
 obtain ⟨hl,hx⟩:=hg
 have k4:∀ a b c d:Fin 4,powT 4 [a.1,b.1,c.1,d.1] 4∈[powT 4 [a.1,b.1,c.1,d.1] 0,powT 4 [a.1,b.1,c.1,d.1] 1,powT 4 [a.1,b.1,c.1,d.1] 2,powT 4 [a.1,b.1,c.1,d.1] 3]:=by decide +kernel
 have k3:∀ a b c:Fin 3,powT 3 [a.1,b.1,c.1] 4∈[powT 3 [a.1,b.1,c.1] 0,powT 3 [a.1,b.1,c.1] 1,powT 3 [a.1,b.1,c.1] 2,powT 3 [a.1,b.1,c.1] 3]:=by decide +kernel
 have k2:∀ a b:Fin 2,powT 2 [a.1,b.1] 4∈[powT 2 [a.1,b.1] 0,powT 2 [a.1,b.1] 1,powT 2 [a.1,b.1] 2,powT 2 [a.1,b.1] 3]:=by decide +kernel
 have k1:∀ a:Fin 1,powT 1 [a.1] 4∈[powT 1 [a.1] 0,powT 1 [a.1] 1,powT 1 [a.1] 2,powT 1 [a.1] 3]:=by decide +kernel
 match n,g,hl,hx with
 | 0,[],_,_=>decide
 | 1,[a],_,h=>exact k1 ⟨a,h a (by simp)⟩
 | 2,[a,b],_,h=>exact k2 ⟨a,h a (by simp)⟩ ⟨b,h b (by simp)⟩
 | 3,[a,b,c],_,h=>exact k3 ⟨a,h a (by simp)⟩ ⟨b,h b (by simp)⟩ ⟨c,h c (by simp)⟩
 | 4,[a,b,c,d],_,h=>exact k4 ⟨a,h a (by simp)⟩ ⟨b,h b (by simp)⟩ ⟨c,h c (by simp)⟩ ⟨d,h d (by simp)⟩
theorem valW_pow {gs:List (List Nat)} {n:Nat} (h1:gs.length=1) (w:List Nat) (hw:∀ a∈w,a < gs.length):valW gs n w=powT n (gs.getD 0 []) w.length:=by
 suffices hs:∀ (m:Nat) (w:List Nat),w.length=m→(∀ a∈w,a < gs.length)→valW gs n w=powT n (gs.getD 0 []) m from hs _ w rfl hw
 intro m
 induction m with
 | zero =>
  intro w hl _
  have:w=[]:=List.eq_nil_of_length_eq_zero hl
  subst this
  rfl
 | succ m ih =>
  intro w hl hw
  obtain ⟨v,a,rfl⟩:∃ v a,w=v ++ [a]:=⟨w.dropLast,w.getLast (by intro e;rw [e] at hl;simp at hl),(List.dropLast_concat_getLast _).symm⟩
  have ha:a=0:=by have:=hw a (by simp);omega
  subst ha
  rw [fG,ih v (by simpa using hl) (fun b hb=>hw b (by simp [hb]))]
  rfl
theorem pow_in {n:Nat} (hn:n≤4) {g:List Nat} (hg:IsT n g):∀ k,powT n g k∈[powT n g 0,powT n g 1,powT n g 2,powT n g 3]
 | 0=>by simp
 | k+1=>by
  have ih:=pow_in hn hg k
  have h4:=pow_four hn hg
  simp only [List.mem_cons,List.not_mem_nil,or_false] at ih
  show vQ (powT n g k) g∈_
  rcases ih with e|e|e|e
  ·rw [e];exact List.mem_cons_of_mem _ (by simp [powT])
  ·rw [e];exact List.mem_cons_of_mem _ (List.mem_cons_of_mem _ (by simp [powT]))
  ·rw [e];exact List.mem_cons_of_mem _ (List.mem_cons_of_mem _ (List.mem_cons_of_mem _ (by simp [powT])))
  ·rw [e];exact h4
theorem EnI.four {gs:List (List Nat)} {n:Nat} {el:List (List Nat)} {pr la:List Int} (h:EnI gs n el pr la) (hg:∀ g∈gs,IsT n g) (h1:gs.length=1) (hn:n≤4):el.length≤4:=by
 have hg0:IsT n (gs.getD 0 []):=hg _ (tH (by omega))
 have hin:∀ f∈el,f∈[powT n (gs.getD 0 []) 0,powT n (gs.getD 0 []) 1,powT n (gs.getD 0 []) 2,powT n (gs.getD 0 []) 3]:=by
  intro f hf
  obtain ⟨i,hi,rfl⟩:=List.getElem_of_mem hf
  have e:=h.word i hi
  rw [zY hi] at e
  rw [e,valW_pow h1 _ (kZ h.words i hi).1]
  exact pow_in hn hg0 _
 obtain ⟨L,hL⟩:∃ L,L=[powT n (gs.getD 0 []) 0,powT n (gs.getD 0 []) 1,powT n (gs.getD 0 []) 2,powT n (gs.getD 0 []) 3]:=⟨_,rfl⟩
 have hL4:L.length=4:=by rw [hL];rfl
 rw [← hL] at hin
 have h:=pS (l:=el.map fun f=>L.idxOf f) (n:=4) (fZ h.nodup fun a ha b hb e=>by
  have h1:=iL (d:=[]) (hin a ha)
  have h2:=iL (d:=[]) (hin b hb)
  rw [← h1,← h2,e]) (fun q hq=>by
  obtain ⟨f,hf,rfl⟩:=List.mem_map.1 hq
  rw [← hL4];exact List.idxOf_lt_length_of_mem (hin f hf))
 simpa using h
theorem qAC.good {most:Nat} {T:List (List Nat)} {im:List Nat} (h:qAC most T im) (h4:4≤most) (h12:most≤12):Good (tabI T) (im.map fun (x:Nat)=>(x:Int))∧T.length≤most∧(tabI T).length=T.length∧vC (tabI T)=0:=by
 rcases h with ⟨d,n,k,S,hvd,hk,hof,hl,rfl,rfl⟩|⟨d,n,S,hvd,hn,_,hof,rfl,rfl⟩
 ·obtain ⟨n',k',m,M,hvd',hM,hVM,hm,el,pr,la,ri,mm,hen,_,_,hT,_,hI,_⟩:=hof
  have hgl:=tW M m k'
  have hgT:=eH hVM
  rw [hT,hI]
  rw [hT,wU] at hl
  exact ⟨hen.good hgT (by omega) (by rw [hgl];exact hVM.k1) (by rw [hgl];exact hVM.k6),by rw [wU];exact hl,xC _,hen.ident hgT⟩
 ·cases S with
  | none=>exact absurd hof (not_huge (by rw [hvd.hn];exact hn))
  | some S =>
   obtain ⟨n',k',m,M,hvd',hM,hVM,hm,el,pr,la,ri,mm,hen,_,_,hT,_,hI,_⟩:=hof
   have hgl:=tW M m k'
   have hgT:=eH hVM
   have hk1:k'=1:=by have:=hvd.hk;have:=hvd'.hk;omega
   have hnn:n'=n:=by rw [← hvd'.hn,hvd.hn]
   have hmn:m≤4:=by
    have e1:M.final.length=m:=hVM.hn
    have e2:=(min_vd hvd').hn
    rw [← hM,e1] at e2
    have:=qCX hvd'
    omega
   have hl:=hen.en.four hgT (by rw [hgl];exact hk1) hmn
   show Good (tabI S.tab) (S.images.map _)∧S.tab.length≤most∧(tabI S.tab).length=S.tab.length∧vC (tabI S.tab)=0
   rw [hT,hI]
   exact ⟨hen.good hgT (by omega) (by rw [hgl];exact hVM.k1) (by rw [hgl];exact hVM.k6),by rw [wU];omega,xC _,hen.ident hgT⟩
end Go.Proofs.YtdjhoadoiknaoaaDoor
namespace Go.Proofs.YtdjhoadoiknaoaaDoor
open Go.RowKit
def rT (letters:Int) (c:UInt8):Bool:=decide (97≤(c.toNat:Int)∧(c.toNat:Int) - 97 < letters)
def yN (s:ByteArray) (letters:Int):Bool:=decide (1≤letters∧letters≤6∧s.size≤2048) && s.data.toList.all (rT letters)
theorem pN (s:ByteArray) (letters:Int) (k:Nat) (hk:k < s.size) (h:(s[k].toNat:Int) < 97∨letters≤((s[k].toNat:Int) - 97) % 256):yN s letters=false:=by
 have hm:s[k]∈s.data.toList:=by
  have:s[k]=s.data[k]'(by simpa using hk):=rfl
  rw [this];simp
 have h2:rT letters s[k]=false:=by
  have:=UInt8.toNat_lt s[k]
  simp [rT];omega
 unfold yN
 rw [Bool.and_eq_false_iff];right
 rw [List.all_eq_false];exact ⟨_,hm,by simp [h2]⟩
theorem qCB (s:ByteArray) (letters:Int) (k:Nat) (hk:k < s.size) (h:(s.data.toList.take k).all (rT letters)=true)
  (h1:97≤(s[k].toNat:Int)∧((s[k].toNat:Int) - 97) % 256 < letters):(s.data.toList.take (k+1)).all (rT letters)=true:=by
 rw [List.take_succ_eq_append_getElem (by simpa using hk),List.all_append,h]
 have:s.data.toList[k]'(by simpa using hk)=s[k]:=rfl
 have h3:=UInt8.toNat_lt s[k]
 simp [this,rT];omega
theorem kY (s:ByteArray) (letters:Int) (k:Nat) (hk:s.size≤k) (h:1≤letters∧letters≤6∧s.size≤2048) (ha:(s.data.toList.take k).all (rT letters)=true):yN s letters=true:=by
 rw [List.take_of_length_le (by simpa using hk)] at ha
 simp [yN,ha,h]
set_option maxHeartbeats 400000 in
theorem wordValid_any (s:ByteArray) (letters:Int) (w:World) (hs:s.size≤maxLen) :
  Calls Tryd.prog 72 #[.string s,.int .i64 letters] w fun e w'=>e=.returned (.bool (yN s letters))∧w=w':=by
 unfold maxLen at hs
 by_cases h1:letters < 1
 ·go_enter Tryd.func72,Tryd.ntmps72
  go_wp2
  go_ret
  exact ⟨zZ (by simp [yN];omega),rfl⟩
 by_cases h2:6 < letters
 ·go_enter Tryd.func72,Tryd.ntmps72
  go_wp2
  go_ret
  exact ⟨zZ (by simp [yN];omega),rfl⟩
 by_cases h3:2048 < s.size
 ·go_enter Tryd.func72,Tryd.ntmps72
  go_wp2
  go_ret
  exact ⟨zZ (by simp [yN];omega),rfl⟩
 go_enter Tryd.func72,Tryd.ntmps72
 go_wp2
 go_loop [19] (fun i=>∃ k:Nat,k≤s.size∧i=.int .i64 k∧(s.data.toList.take k).all (rT letters)=true) (fun i=>s.size - (intOf i).toNat)
 case atStart=>exact ⟨0,Nat.zero_le _,rfl,rfl⟩
 case round =>
  obtain ⟨k,hk,rfl,hall⟩:=hrel
  have HA:=Kh hall;clear hall
  by_cases hlt:k < s.size
  ·go_wp2
   ·go_ret
    exact ⟨zZ (by rw [eq_comm];exact pN s letters k hlt (by omega)),rfl⟩
   ·go_round
    case rel=>exact ⟨k+1,by omega,by go_num,qCB s letters k hlt HA.out (by omega)⟩
    case measure=>simp [intOf];omega
   ·go_ret
    exact ⟨zZ (by rw [eq_comm];exact pN s letters k hlt (by omega)),rfl⟩
  ·go_wp2
   go_ret
   exact ⟨zZ (by rw [eq_comm];exact kY s letters k (by omega) (by omega) HA.out),rfl⟩
end Go.Proofs.YtdjhoadoiknaoaaDoor
namespace Go.Proofs.YtdjhoadoiknaoaaDoor
section
variable {n:Nat} {tb:Nat→Nat→Nat}
theorem mO {a a' b b':Nat} (ha:a &&& a'=a) (hb:b &&& b'=b):zU n tb a b &&& zU n tb a' b'=zU n tb a b:=by
 refine sV.2 fun z hz=>?_
 obtain ⟨x,y,hx,hy,h1,h2,e⟩:=(xJ n tb a b z).1 hz
 exact (xJ n tb a' b' z).2 ⟨x,y,hx,hy,sV.1 ha x h1,sV.1 hb y h2,e⟩
theorem powSet_mono {a a':Nat} (ha:a &&& a'=a) (k:Nat):xG n tb a k &&& xG n tb a' k=xG n tb a k:=by
 induction k with
 | zero=>exact ha
 | succ k ih=>exact mO ih ha
theorem dO (h:Tb n tb) {a m:Nat} (hi:zU n tb (xG n tb a m) (xG n tb a m)=xG n tb a m) (j:Nat):xG n tb a ((m+1) * j+m)=xG n tb a m:=by
 induction j with
 | zero=>simp
 | succ j ih =>
  have:=dP h a ((m+1) * j+m) m
  rw [ih,hi] at this
  rw [show (m+1) * (j+1)+m=(m+1) * j+m+m+1 from by rw [Nat.mul_succ];omega]
  exact this.symm
theorem or_mono {a a' b b':Nat} (ha:a &&& a'=a) (hb:b &&& b'=b):(a ||| b) &&& (a' ||| b')=a ||| b:=by
 refine sV.2 fun z hz=>?_
 rw [Nat.testBit_or,Bool.or_eq_true] at hz ⊢
 rcases hz with hz|hz
 ·exact .inl (sV.1 ha z hz)
 ·exact .inr (sV.1 hb z hz)
theorem omegaGo_is {a:Nat}:∀ (k x:Nat),Ends n tb a k x→∃ m,zU n tb (xG n tb a m) (xG n tb a m)=xG n tb a m∧rZ n tb a k x=xG n tb a m ||| zU n tb (xG n tb a m) a:=by
 intro k
 induction k with
 | zero =>
  rintro x ⟨i,m,rfl,hm,e⟩
  obtain rfl:m=0:=by omega
  exact ⟨i,e,rfl⟩
 | succ k ih =>
  intro x hx
  by_cases hi:zU n tb x x=x
  ·obtain ⟨i,m,rfl,_,_⟩:=hx
   exact ⟨i,hi,mQ hi⟩
  ·obtain ⟨j,e,hj⟩:=eL hx hi
   obtain rfl:k=j:=by omega
   rw [mR hi]
   exact ih _ hj
theorem fT (h:Tb n tb) {a:Nat} (ha:a < 2 ^ n):∃ m,zU n tb (xG n tb a m) (xG n tb a m)=xG n tb a m∧yM n tb a=xG n tb a m ||| zU n tb (xG n tb a m) a :=
 omegaGo_is _ _ (iQ h ha)
theorem omegaSet_mono (h:Tb n tb) {a b:Nat} (ha:a < 2 ^ n) (hb:b < 2 ^ n) (hab:a &&& b=a):yM n tb a &&& yM n tb b=yM n tb a:=by
 obtain ⟨i,hi,ei⟩:=fT h ha
 obtain ⟨j,hj,ej⟩:=fT h hb
 have h1:=dO h hi j
 have h2:=dO h hj i
 have e:(i+1) * j+i=(j+1) * i+j:=by rw [Nat.succ_mul,Nat.succ_mul,Nat.mul_comm i j];omega
 have hp:xG n tb a i &&& xG n tb b j=xG n tb a i:=by
  rw [← h1,← h2,← e]
  exact powSet_mono hab _
 rw [ei,ej]
 exact or_mono hp (mO hp hab)
theorem closed_prod (ht:Tb n tb) {l:List Nat} (hl:∀ b∈l,b < 2 ^ n) (hc:zV n tb l=l) {a b:Nat} (ha:xV l a=true) (hb:xV l b=true):xV l (zU n tb a b)=true:=by
 obtain ⟨x,hx,hax⟩:=yX.1 ha
 obtain ⟨y,hy,hby⟩:=yX.1 hb
 have h1:xV (wV n tb l) (zU n tb a b)=true:=yX.2 ⟨zU n tb x y,vK.2 (.inr ⟨x,hx,.inl ⟨y,hy,rfl⟩⟩),mO hax hby⟩
 rw [← sS (vJ ht hl)] at h1
 rw [← hc];exact h1
theorem closed_omega (ht:Tb n tb) {l:List Nat} (hl:∀ b∈l,b < 2 ^ n) (hc:zV n tb l=l) {a:Nat} (ha:xV l a=true):xV l (yM n tb a)=true:=by
 obtain ⟨x,hx,hax⟩:=yX.1 ha
 have hxl:=hl x hx
 have h1:xV (wV n tb l) (yM n tb a)=true:=yX.2 ⟨yM n tb x,vK.2 (.inr ⟨x,hx,.inr rfl⟩),omegaSet_mono ht (qCO hax hxl) hxl hax⟩
 rw [← sS (vJ ht hl)] at h1
 rw [← hc];exact h1
end
end Go.Proofs.YtdjhoadoiknaoaaDoor
namespace Go.Proofs.YtdjhoadoiknaoaaDoor
section
variable {n:Nat} {tb:Nat→Nat→Nat}
theorem iZ (ht:Tb n tb):∀ (k:Nat) (l:List Nat) (d:Bool),kD n (l,d)→(d=true→zV n tb l=l) →
  ((yZ n tb k (l,d)).2=true→zV n tb (yZ n tb k (l,d)).1=(yZ n tb k (l,d)).1)∧(∀ s,xV l s=true→xV (yZ n tb k (l,d)).1 s=true)∧kD n (yZ n tb k (l,d))
 | 0,l,d,hf,hd=>⟨hd,fun _ h=>h,hf⟩
 | k+1,l,true,hf,hd=>by
  rw [uM]
  exact ⟨hd,fun _ h=>h,hf⟩
 | k+1,l,false,hf,_=>by
  rw [uL]
  have ih:=iZ ht k (zV n tb l) (decide (zV n tb l=l)) (nV ht hf) (fun h=>by
   have e:=of_decide_eq_true h
   rw [e,e])
  exact ⟨ih.1,fun s hs=>ih.2.1 s (kG ht hf.1 hs),ih.2.2⟩
theorem closeFrom_inv (ht:Tb n tb) {l:List Nat} (hf:kD n (l,false)) :
  zV n tb (uU n tb l)=uU n tb l∧(∀ s,xV l s=true→xV (uU n tb l) s=true)∧(∀ b∈uU n tb l,b < 2 ^ n)∧wT n (uU n tb l)=uU n tb l:=by
 have h:=iZ ht (2 ^ n+1) l false hf (by simp)
 have h2:=mN ht (2 ^ n+1) l hf (by have:=gap_le n l;omega)
 exact ⟨h.1 h2,h.2.1,h.2.2.1,h.2.2.2⟩
end
end Go.Proofs.YtdjhoadoiknaoaaDoor
namespace Go.Proofs.YtdjhoadoiknaoaaDoor
open Go.RowKit
structure StepV where
 op:Int
 a:Int
 b:Int
 word:ByteArray
 set:Int
instance:Inhabited StepV:=⟨⟨0,0,0,ByteArray.empty,0⟩⟩
structure StepsAt (w:World) (g:Nat) (ss:List StepV):Prop where
 lt:g < w.heap.size
 op:∀ i,i < ss.length→w.cell? ⟨g,i * 5,none⟩=some (.int .i64 (ss.getD i default).op)
 a:∀ i,i < ss.length→w.cell? ⟨g,i * 5+1,none⟩=some (.int .i64 (ss.getD i default).a)
 b:∀ i,i < ss.length→w.cell? ⟨g,i * 5+2,none⟩=some (.int .i64 (ss.getD i default).b)
 word:∀ i,i < ss.length→w.cell? ⟨g,i * 5+3,none⟩=some (.string (ss.getD i default).word)
 set:∀ i,i < ss.length→w.cell? ⟨g,i * 5+4,none⟩=some (.int .i64 (ss.getD i default).set)
theorem StepsAt.kept {w w':World} {g:Nat} {ss:List StepV} {row:Option Nat} (h:StepsAt w g ss) (hg:w.grownBy w' row) (hr:row≠some g):StepsAt w' g ss:=by
 have hb:=hg.block g h.lt (fun e=>hr e.symm)
 exact ⟨Nat.lt_of_lt_of_le h.lt hg.size,fun i hi=>(World.cell?_of_block hb).trans (h.op i hi),fun i hi=>(World.cell?_of_block hb).trans (h.a i hi),fun i hi=>(World.cell?_of_block hb).trans (h.b i hi),fun i hi=>(World.cell?_of_block hb).trans (h.word i hi),fun i hi=>(World.cell?_of_block hb).trans (h.set i hi)⟩
def hits (s:Int) (x:StepV):Bool:=bits .and .i64 x.set s == s
def rM (ss:List StepV) (s:Int):Int:=match ss.findIdx? (hits s) with
 | some i=>i
 | none=>-1
def noHit (ss:List StepV) (s:Int) (k:Nat):Prop:=∀ i,i < k→hits s (ss.getD i default)=false
theorem find_hit {ss:List StepV} {s:Int} {k:Nat} (hk:k < ss.length) (h:noHit ss s k) (hh:hits s (ss.getD k default)=true):rM ss s=k:=by
 have:ss.findIdx? (hits s)=some k:=by
  rw [List.findIdx?_eq_some_iff_getElem]
  refine ⟨hk,by simpa [List.getD,List.getElem?_eq_getElem hk] using hh,fun j hj=>?_⟩
  have:=h j hj
  simp [List.getD,List.getElem?_eq_getElem (show j < ss.length by omega)] at this
  simp [this]
 rw [rM,this]
theorem find_none {ss:List StepV} {s:Int} (h:noHit ss s ss.length):rM ss s = -1:=by
 have:ss.findIdx? (hits s)=none:=by
  rw [List.findIdx?_eq_none_iff]
  intro x hx
  obtain ⟨i,hi,rfl⟩:=List.getElem_of_mem hx
  have:=h i hi
  simpa [List.getD,List.getElem?_eq_getElem hi] using this
 rw [rM,this]
set_option maxHeartbeats 800000 in
theorem find_any (w:World) (dp g n cap e:Nat) (x0 x2:Value) (ss:List StepV) (s:Int) (hd:w.heap[dp]?=some (.cells #[x0,.slice (some ⟨g,0,none⟩) ss.length cap,x2] e (0,0))) (hs:StepsAt w g ss) (hl:ss.length≤100000) :
  Calls Tryd.prog 76 #[.pointer (some ⟨dp,0,none⟩),.int .i64 s] w fun r w'=>r=.returned (.int .i64 (rM ss s))∧w.grownBy w' none:=by
 have HS:=Kh hs
 have cd:=zI hd 1 (by simp)
 simp only [List.getElem_toArray,List.getElem_cons_zero,List.getElem_cons_succ] at cd
 clear hs hd
 go_enter Tryd.func76,Tryd.ntmps76
 go_wp2
 go_loopg [12] ss.length (fun gh i wr=>∃ k:Nat,gh+k=ss.length∧i=.int .i64 k∧Hid (noHit ss s k)∧w.grownBy wr none)
 case atStart=>exact ⟨0,rfl,rfl,Kh (fun i hi=>absurd hi (by omega)),zW _ _⟩
 case round =>
  clear cd
  obtain ⟨k,hg,rfl,hno,hgr⟩:=hrel
  have HG:=Kh hg;have HGR:=Kh hgr
  clear hg
  by_cases hk:k < ss.length
  ·have hk':(k:Int) < ss.length:=by omega
   have hsr:=HS.out.kept hgr (by simp)
   have c0:=hsr.op k hk
   have c1:=hsr.a k hk
   have c2:=hsr.b k hk
   have c3:=hsr.word k hk
   have c4:=hsr.set k hk
   obtain ⟨st,hst⟩:∃ st,st=ss.getD k default:=⟨_,rfl⟩
   rw [← hst] at c0 c1 c2 c3 c4
   have HST:=Kh hst
   clear hsr hst hgr
   cases hb:(bits .and .i64 st.set s == s) with
   | true =>
    have HF:Hid (rM ss s=k):=Kh (find_hit hk hno.out (by rw [← HST.out];exact hb))
    go_wp2
    go_ret
    exact ⟨yH HF.out.symm,yA HGR.out _⟩
   | false =>
    have HN:Hid (noHit ss s (k+1)):=Kh (fun i hi=>by
     rcases Nat.lt_succ_iff_lt_or_eq.1 hi with hi|rfl
     ·exact hno.out i hi
     ·rw [← HST.out];exact hb)
    go_wp2
    go_roundg (ss.length - (k+1))
    case measure=>have:=HG.out;omega
    case rel=>exact ⟨k+1,by omega,by go_num,HN,yA HGR.out _⟩
  ·have HF:Hid (rM ss s = -1):=Kh (find_none (fun i hi=>hno.out i (by have:=HG.out;omega)))
   go_wp2
   go_ret
   exact ⟨yH HF.out.symm,HGR.out⟩
def StepV.vals (x:StepV):List Value:=[.int .i64 x.op,.int .i64 x.a,.int .i64 x.b,.string x.word,.int .i64 x.set]
def yI (ss:List StepV):List Value:=ss.flatMap StepV.vals
theorem qF (ss:List StepV) (x:StepV):yI (ss ++ [x])=yI ss ++ x.vals:=by simp [yI]
structure Elem5 (P:Program) (t e:TypeId) (z:Value) (bytes:Nat):Prop where
 ht:P.underlying t=some (.slice e)
 hi:(P.info? e).map (fun i=>(i.zero,i.size,i.bytes))=some (some z,5,bytes)
 hz:z.cells.size=5
theorem eM:∃ z bytes,Elem5 Tryd.prog 56 60 z bytes∧bytes≤64:=⟨.agg #[.int .i64 0,.int .i64 0,.int .i64 0,.string ByteArray.empty,.int .i64 0],48,⟨by kernel_rfl,by kernel_rfl,by rfl⟩,by decide⟩
theorem qCL {P:Program} {w:World} {o:Oper} {a:Act} {K:Act→World→Prop} {Q:Exit→Act→World→Prop} (s x:Operand) (t:TypeId)
  (ho:o.op=.call { callee:=.builtin .append,args:=#[s,x],argTypes:=#[t,t] })
  {e:TypeId} {z:Value} {bytes:Nat} (E:Elem5 P t e z bytes) (base:Nat) (v:Value) (n:Nat) (xs:List Value) (hs:a.eval s=v) (hown:w.ownsRow base e 5 v n xs)
  (st:StepV) (g:Nat) (hx:a.eval x=.slice (some ⟨g,0,none⟩) 1 1) (m:Nat × Nat) (hg:w.heap[g]?=some (.cells #[.int .i64 st.op,.int .i64 st.a,.int .i64 st.b,.string st.word,.int .i64 st.set] e m)) (h63:n+1≤maxLen) (hbytes:(n+1) * bytes≤140737488355328) (hbase:base≤w.heap.size)
  (h:∀ sa sc w',w'.ownsRow base e 5 (.slice sa (n+1) sc) (n+1) (xs ++ st.vals)→w.grownBy w' v.ownBlock→K (a.put o.dst (.slice sa (n+1) sc)) w'):o.wp P a w K Q:=by
 obtain ⟨i,hi,hz,hsz,hby⟩:=info_parts E.hi
 refine wp_append_own w s x t ho base e i z 5 bytes E.ht hi hz hsz hby E.hz (by decide) v n xs hs hown ⟨g,0,none⟩ 1 1 st.vals hx rfl (fun j u' hj=>?_) (fun u hu=>?_) h63 hbytes hbase ?_
 ·have hjl:j < 5:=by
   rcases Nat.lt_or_ge j 5 with h|h
   ·exact h
   ·rw [List.getElem?_eq_none (by simpa [StepV.vals] using h)] at hj;cases hj
  have hadd:(⟨g,0,none⟩:Addr).add j=⟨g,j,none⟩:=by unfold Addr.add;split <;> simp_all
  rw [hadd,zI hg j (by simpa using hjl)]
  match j,hjl,hj with
  | 0,_,hj=>simpa [StepV.vals] using hj
  | 1,_,hj=>simpa [StepV.vals] using hj
  | 2,_,hj=>simpa [StepV.vals] using hj
  | 3,_,hj=>simpa [StepV.vals] using hj
  | 4,_,hj=>simpa [StepV.vals] using hj
 ·simp [StepV.vals] at hu
  rcases hu with rfl|rfl|rfl|rfl|rfl <;> rfl
 ·intro v' w' h1 h2 _
  obtain ⟨sa,sc,rfl⟩:=pR h1
  exact h sa sc w' h1 h2
theorem step_app5 {P:Program} {ops:Array Oper} {w:World} {o:Oper} {a:Act} {K:Act→World→Prop} {Q:Exit→Act→World→Prop} {R:Prop} (hgd:o.guard=none) (s x:Operand) (t:TypeId)
  (ho:o.op=.call { callee:=.builtin .append,args:=#[s,x],argTypes:=#[t,t] })
  {e:TypeId} {z:Value} {bytes:Nat} (E:Elem5 P t e z bytes) (base:Nat) (v:Value) (n:Nat) (xs:List Value) (hs:a.eval s=v) (hown:w.ownsRow base e 5 v n xs)
  (st:StepV) (g:Nat) (hx:a.eval x=.slice (some ⟨g,0,none⟩) 1 1) (m:Nat × Nat) (hg:w.heap[g]?=some (.cells #[.int .i64 st.op,.int .i64 st.a,.int .i64 st.b,.string st.word,.int .i64 st.set] e m)) (h63:n+1≤maxLen) (hbytes:(n+1) * bytes≤140737488355328) (hbase:base≤w.heap.size)
  (h:∀ sa sc w',w'.ownsRow base e 5 (.slice sa (n+1) sc) (n+1) (xs ++ st.vals)→w.grownBy w' v.ownBlock→K (a.put o.dst (.slice sa (n+1) sc)) w'):if Region.wanted o (yielded ops a.tmps)=true then Oper.wp P o a w K Q else R:=by
 have hw:Region.wanted o (yielded ops a.tmps)=true:=by simp [Region.wanted,hgd]
 rw [if_pos hw]
 exact qCL s x t ho E base v n xs hs hown st g hx m hg h63 hbytes hbase h
theorem pP:∀ (ss:List StepV) (i c:Nat),i < ss.length→c < 5→(yI ss)[i * 5+c]?=(ss.getD i default).vals[c]?
 | [],i,c,hi,_=>by simp at hi
 | x :: ss,0,c,_,hc=>by
  show (x.vals ++ yI ss)[0 * 5+c]?=_
  rw [List.getElem?_append_left (by simp [StepV.vals];omega)]
  simp
 | x :: ss,i+1,c,hi,hc=>by
  show (x.vals ++ yI ss)[(i+1) * 5+c]?=_
  rw [List.getElem?_append_right (by simp [StepV.vals];omega),show (i+1) * 5+c - x.vals.length=i * 5+c from by simp [StepV.vals];omega,pP ss i c (by simpa using hi) hc]
  simp
theorem StepsAt.of_owns {w:World} {base e n g cap:Nat} {ss:List StepV} (h:w.ownsRow base e 5 (.slice (some ⟨g,0,none⟩) n cap) n (yI ss)):StepsAt w g ss:=by
 have hadd:∀ j,(⟨g,0,none⟩:Addr).add j=⟨g,j,none⟩:=fun j=>by unfold Addr.add;split <;> simp_all
 have key:∀ i c u,i < ss.length→c < 5→(ss.getD i default).vals[c]?=some u→w.cell? ⟨g,i * 5+c,none⟩=some u:=fun i c u hi hc hu=>by
  have:=h.cells (g:=g) rfl (i * 5+c) u (by rw [pP ss i c hi hc];exact hu)
  rwa [hadd] at this
 exact ⟨(h.lt g rfl).2,fun i hi=>key i 0 _ hi (by omega) rfl,fun i hi=>key i 1 _ hi (by omega) rfl,fun i hi=>key i 2 _ hi (by omega) rfl,fun i hi=>key i 3 _ hi (by omega) rfl,fun i hi=>key i 4 _ hi (by omega) rfl⟩
structure StepsO (w:World) (g off:Nat) (ss:List StepV):Prop where
 lt:g < w.heap.size
 op:∀ i,i < ss.length→w.cell? ⟨g,off+i * 5,none⟩=some (.int .i64 (ss.getD i default).op)
 a:∀ i,i < ss.length→w.cell? ⟨g,off+i * 5+1,none⟩=some (.int .i64 (ss.getD i default).a)
 b:∀ i,i < ss.length→w.cell? ⟨g,off+i * 5+2,none⟩=some (.int .i64 (ss.getD i default).b)
 word:∀ i,i < ss.length→w.cell? ⟨g,off+i * 5+3,none⟩=some (.string (ss.getD i default).word)
 set:∀ i,i < ss.length→w.cell? ⟨g,off+i * 5+4,none⟩=some (.int .i64 (ss.getD i default).set)
theorem StepsO.kept {w w':World} {g off:Nat} {ss:List StepV} {row:Option Nat} (h:StepsO w g off ss) (hg:w.grownBy w' row) (hr:row≠some g):StepsO w' g off ss:=by
 have hb:=hg.block g h.lt (fun e=>hr e.symm)
 exact ⟨Nat.lt_of_lt_of_le h.lt hg.size,fun i hi=>(World.cell?_of_block hb).trans (h.op i hi),fun i hi=>(World.cell?_of_block hb).trans (h.a i hi),fun i hi=>(World.cell?_of_block hb).trans (h.b i hi),fun i hi=>(World.cell?_of_block hb).trans (h.word i hi),fun i hi=>(World.cell?_of_block hb).trans (h.set i hi)⟩
theorem StepsO.of_at {w:World} {g:Nat} {ss:List StepV} (h:StepsAt w g ss):StepsO w g 0 ss :=
 ⟨h.lt,fun i hi=>by rw [Nat.zero_add];exact h.op i hi,fun i hi=>by rw [Nat.zero_add];exact h.a i hi,fun i hi=>by rw [Nat.zero_add];exact h.b i hi,fun i hi=>by rw [Nat.zero_add];exact h.word i hi,fun i hi=>by rw [Nat.zero_add];exact h.set i hi⟩
def SRow (B:Nat) (w:World) (v:Value) (ss:List StepV):Prop :=
 (∃ a cap,v=.slice a 0 cap∧ss=[])∨∃ b off cap,v=.slice (some ⟨b,off,none⟩) ss.length cap∧b < B∧ss.length≤cap∧cap≤maxLen∧StepsO w b off ss
theorem SRow.kept {B:Nat} {w w':World} {v:Value} {ss:List StepV} {row:Option Nat} (h:SRow B w v ss) (hg:w.grownBy w' row) (hr:∀ k,row=some k→B≤k):SRow B w' v ss:=by
 rcases h with h|⟨b,off,cap,h1,h2,h3,h4,h5⟩
 ·exact .inl h
 ·exact .inr ⟨b,off,cap,h1,h2,h3,h4,h5.kept hg (fun e=>by have:=hr b e;omega)⟩
theorem SRow.mono {B B':Nat} {w:World} {v:Value} {ss:List StepV} (h:SRow B w v ss) (hB:B≤B'):SRow B' w v ss:=by
 rcases h with h|⟨b,off,cap,h1,h2,h3⟩
 ·exact .inl h
 ·exact .inr ⟨b,off,cap,h1,by omega,h3⟩
theorem SRow.shape {B:Nat} {w:World} {v:Value} {ss:List StepV} (h:SRow B w v ss):∃ a c,v=.slice a ss.length c:=by
 rcases h with ⟨a,c,rfl,rfl⟩|⟨b,off,cap,rfl,_⟩
 ·exact ⟨a,c,rfl⟩
 ·exact ⟨_,_,rfl⟩
theorem SRow.some_ {B:Nat} {w:World} {v:Value} {ss:List StepV} (h:SRow B w v ss) (hp:0 < ss.length):∃ b off cap,v=.slice (some ⟨b,off,none⟩) ss.length cap∧b < B∧ss.length≤cap∧cap≤maxLen∧StepsO w b off ss:=by
 rcases h with ⟨a,c,rfl,rfl⟩|h
 ·simp at hp
 ·exact h
theorem SRow.len_le {B:Nat} {w:World} {v:Value} {ss:List StepV} (h:SRow B w v ss):ss.length≤maxLen:=by
 rcases h with ⟨a,c,rfl,rfl⟩|⟨b,off,cap,rfl,h1,h2,h3,_⟩
 ·exact Nat.zero_le _
 ·omega
theorem SRow.of_owns {w:World} {base e:Nat} {v:Value} {n:Nat} {ss:List StepV} (h:w.ownsRow base e 5 v n (yI ss)) (hl:ss.length=n):SRow w.heap.size w v ss:=by
 obtain ⟨sa,sc,rfl⟩:=pR h
 rcases id h.2 with ⟨e1,e2⟩|⟨g,cap,cur,e1,hb,hg,hnc,hcm,hcs,htake⟩
 ·simp only [Value.slice.injEq] at e1
  obtain ⟨rfl,rfl,rfl⟩:=e1
  exact .inl ⟨_,_,rfl,List.eq_nil_of_length_eq_zero hl⟩
 ·simp only [Value.slice.injEq] at e1
  obtain ⟨rfl,_,rfl⟩:=e1
  subst hl
  exact .inr ⟨g,0,sc,rfl,zQ hg,hnc,hcm,StepsO.of_at (StepsAt.of_owns h)⟩
def oJ (t:List (List Int)) (im:List Int) (x:Nat) (l:List UInt8):Nat:=l.foldl (fun x c=>entN t x (im.getD (c.toNat - 97) 0).toNat) x
theorem dF (t:List (List Int)) (im:List Int) (x:Nat) (l:List UInt8) (c:UInt8):oJ t im x (l ++ [c])=entN t (oJ t im x l) (im.getD (c.toNat - 97) 0).toNat:=by simp [oJ,List.foldl_append]
def oneN (t:List (List Int)):Nat:=(vC t).toNat
def befB (a:Int) (i:Nat):Bool:=decide (0≤a∧a < i)
def tI (t:List (List Int)) (im:List Int) (ss:List StepV) (i:Nat):Bool :=
 let s:=ss.getD i default
 if s.op=1 then decide (s.a=0) && decide (s.b=0) && yN s.word im.length && decide (s.set=((2 ^ oJ t im (oneN t) s.word.data.toList:Nat):Int))
 else if s.op=2 then s.word.toList.isEmpty && befB s.a i && befB s.b i && decide (s.set=((zU t.length (entN t) (ss.getD s.a.toNat default).set.toNat (ss.getD s.b.toNat default).set.toNat:Nat):Int))
 else if s.op=3 then s.word.toList.isEmpty && befB s.a i && decide (s.b=0) && decide (s.set=((yM t.length (entN t) (ss.getD s.a.toNat default).set.toNat:Nat):Int))
 else false
def sX (t:List (List Int)) (im:List Int) (ss:List StepV) (k:Nat):Prop:=∀ i,i < k→tI t im ss i=true
noncomputable def derB (t:List (List Int)) (im:List Int) (ss:List StepV):Bool:=decide (yS t im=0) && decide (0 < ss.length) && (List.range ss.length).all (tI t im ss)
theorem cD {t:List (List Int)} {im:List Int} {ss:List StepV} (h:yS t im≠0):derB t im ss=false:=by simp [derB,h]
theorem qBV {t:List (List Int)} {im:List Int} {ss:List StepV} (h:ss.length=0):derB t im ss=false:=by simp [derB,h]
theorem xX {t:List (List Int)} {im:List Int} {ss:List StepV} {k:Nat} (hk:k < ss.length) (h:tI t im ss k=false):derB t im ss=false:=by
 have:(List.range ss.length).all (tI t im ss)=false:=by
  rw [List.all_eq_false];exact ⟨k,List.mem_range.2 hk,by simp [h]⟩
 simp [derB,this]
theorem bG {t:List (List Int)} {im:List Int} {ss:List StepV} (h:yS t im=0) (h0:0 < ss.length) (hs:sX t im ss ss.length):derB t im ss=true:=by
 have:(List.range ss.length).all (tI t im ss)=true:=by
  rw [List.all_eq_true];exact fun i hi=>hs i (List.mem_range.1 hi)
 simp [derB,this,h,h0]
theorem tT {t:List (List Int)} {im:List Int} {ss:List StepV} {k:Nat} (h:sX t im ss k) (hk:tI t im ss k=true):sX t im ss (k+1):=fun i hi=>by
 rcases Nat.lt_succ_iff_lt_or_eq.1 hi with hi|rfl
 ·exact h i hi
 ·exact hk
theorem jA {t:List (List Int)} {im:List Int} (hg:Good t im):∀ (l:List UInt8) (x:Nat),(∀ c∈l,rT im.length c=true)→x < t.length→oJ t im x l < t.length
 | [],x,_,hx=>hx
 | c :: l,x,hl,hx=>by
  have hs:=(uY hg.valid).1
  have hc:=hl c (by simp)
  simp only [rT,decide_eq_true_eq] at hc
  have h1:=qB.1 hg.inb (c.toNat - 97) (by omega)
  exact jA hg l _ (fun d hd=>hl d (by simp [hd])) (uX hs hx (by omega))
theorem mP {t:List (List Int)} {im:List Int} (hg:Good t im):oneN t < t.length∧vC t=(oneN t:Nat):=by
 obtain ⟨e,h1,h2,_⟩:=hg.ident
 have:oneN t=e:=by rw [oneN,h1];rfl
 exact ⟨by omega,by rw [this,h1]⟩
theorem xY {a:Int} {i:Nat}:befB a i=true ↔ 0≤a∧a < i:=by simp [befB]
theorem step_set {t:List (List Int)} {im:List Int} {ss:List StepV} (hg:Good t im) {k:Nat} (h:sX t im ss k):∀ i,i < k→0≤(ss.getD i default).set∧(ss.getD i default).set < ((2 ^ t.length:Nat):Int):=by
 have hT:=oK hg.valid
 intro i
 induction i using Nat.strongRecOn with
 | ind i ih =>
  intro hi
  have key:∀ n:Nat,n < 2 ^ t.length→(ss.getD i default).set=(n:Int)→0≤(ss.getD i default).set∧(ss.getD i default).set < ((2 ^ t.length:Nat):Int):=fun n h1 h2=>by omega
  have h:=h i hi
  simp only [tI] at h
  split at h
  ·simp only [Bool.and_eq_true,decide_eq_true_eq] at h
   refine key _ ?_ h.2
   have hw:=h.1.2
   simp only [yN,Bool.and_eq_true,List.all_eq_true] at hw
   exact Nat.pow_lt_pow_right (by omega) (jA hg _ _ hw.2 (mP hg).1)
  split at h
  ·simp only [Bool.and_eq_true,decide_eq_true_eq] at h
   exact key _ (wP hT.lt _ _) h.2
  split at h
  ·simp only [Bool.and_eq_true,decide_eq_true_eq] at h
   obtain ⟨⟨⟨_,h2⟩,_⟩,h4⟩:=h
   have hb:=xY.1 h2
   have:=ih (ss.getD i default).a.toNat (by omega) (by omega)
   exact key _ (tR hT (by omega)) h4
  ·simp at h
set_option maxHeartbeats 400000 in
theorem valid01_any (s:ByteArray) (letters:Int) (w:World) (hs:s.size≤maxLen) :
  Calls Tryd.prog 70 #[.string s,.int .i64 letters] w fun e w'=>e=.returned (.bool (yN s letters))∧w=w':=by
 unfold maxLen at hs
 by_cases h1:¬ (1≤letters∧letters≤6)
 ·have e1:decide (1≤letters∧letters≤6)=false:=decide_eq_false h1
  go_enter Tryd.func70,Tryd.ntmps70
  go_wp2_with fail
  refine (xD w letters).mono ?_
  rintro e w' ⟨rfl,rfl⟩
  rw [e1]
  go_wp2
  go_ret
  exact ⟨zZ (by simp [yN];omega),rfl⟩
 have e1:decide (1≤letters∧letters≤6)=true:=by simpa using h1
 by_cases h3:2048 < s.size
 ·go_enter Tryd.func70,Tryd.ntmps70
  go_wp2_with fail
  refine (xD w letters).mono ?_
  rintro e w' ⟨rfl,rfl⟩
  rw [e1]
  go_wp2
  go_ret
  exact ⟨zZ (by simp [yN];omega),rfl⟩
 go_enter Tryd.func70,Tryd.ntmps70
 go_wp2_with fail
 refine (xD w letters).mono ?_
 rintro e w' ⟨rfl,rfl⟩
 rw [e1]
 go_wp2
 go_loop [5] (fun i=>∃ k:Nat,k≤s.size∧i=.int .i64 k∧(s.data.toList.take k).all (rT letters)=true) (fun i=>s.size - (intOf i).toNat)
 case atStart=>exact ⟨0,Nat.zero_le _,rfl,rfl⟩
 case round =>
  obtain ⟨k,hk,rfl,hall⟩:=hrel
  have HA:=Kh hall;clear hall
  by_cases hlt:k < s.size
  ·go_wp2
   ·go_ret
    exact ⟨zZ (by rw [eq_comm];exact pN s letters k hlt (by omega)),rfl⟩
   ·go_round
    case rel=>exact ⟨k+1,by omega,by go_num,qCB s letters k hlt HA.out (by omega)⟩
    case measure=>simp [intOf];omega
   ·go_ret
    exact ⟨zZ (by rw [eq_comm];exact pN s letters k hlt (by omega)),rfl⟩
  ·go_wp2
   go_ret
   exact ⟨zZ (by rw [eq_comm];exact kY s letters k (by omega) (by omega) HA.out),rfl⟩
theorem qN (w:World) (a i:Int) :
  Calls Tryd.prog 74 #[.int .i64 a,.int .i64 i] w fun e w'=>e=.returned (.bool (decide (0≤a∧a < i)))∧w=w':=by
 by_cases h:0≤a
 ·go_enter Tryd.func74,Tryd.ntmps74
  go_wp2
  go_ret
  exact ⟨zZ (by simp [h]),rfl⟩
 ·go_enter Tryd.func74,Tryd.ntmps74
  go_wp2
  go_ret
  exact ⟨zZ (by simp;omega),rfl⟩
theorem qBZ (s:ByteArray) (k:Nat) (hk:k < s.size):s.data.toList.take (k+1)=s.data.toList.take k ++ [s[k]]:=by
 rw [List.take_succ_eq_append_getElem (by simpa using hk)]
 rfl
theorem qDJ {s:ByteArray} {letters:Int} (h:yN s letters=true) (k:Nat) (hk:k < s.size):97≤(s[k].toNat:Int)∧(s[k].toNat:Int) - 97 < letters:=by
 simp only [yN,Bool.and_eq_true,List.all_eq_true] at h
 have hm:s[k]∈s.data.toList:=by
  have:s[k]=s.data[k]'(by simpa using hk):=rfl
  rw [this];simp
 simpa [rT] using h.2 _ hm
set_option maxRecDepth 100000 in
set_option maxHeartbeats 800000 in
theorem value_any (B:Nat) (w:World) (v iv:Value) (t:List (List Int)) (im:List Int) (x0:Nat) (s:ByteArray) (h:Mat B w v t) (hi:Row B w iv (ints im)) (hg:Good t im) (hx:x0 < t.length) (hs:yN s im.length=true) :
  Calls Tryd.prog 73 #[v,iv,.int .i64 (x0:Int),.string s] w fun e w'=>e=.returned (.int .i64 ((oJ t im x0 s.data.toList:Nat):Int))∧∃ m,w'=w.drewN m:=by
 have hsh:=(uY hg.valid).1
 have hz:s.size≤2048:=by simp only [yN,Bool.and_eq_true,decide_eq_true_eq] at hs;omega
 obtain ⟨b,off,cap,RB,RO,RC,rfl,hc1,hc2,hq⟩:=h.sq hsh
 obtain ⟨ib,io,ic,rfl,_,hi1,hi2,hra⟩:=hi.some_ (by rw [zM];exact hg.im0)
 rw [zM] at hi1 ⊢
 have h6:=hg.im6
 have hmx:cap≤9223372036854775807:=by unfold maxLen at hc2;omega
 have hmi:ic≤9223372036854775807:=by unfold maxLen at hi2;omega
 have HQ:=Kh hq;have HRA:=Kh hra;have HG:=Kh hg;have HS:=Kh hs;have HSH:=Kh hsh
 have hn12:=hg.le
 clear h hi hq hra hg hs hsh hi2 hc2
 go_enter Tryd.func73,Tryd.ntmps73
 go_wp2
 go_loopg [9,14] s.size (fun gh v9 i wr=>∃ (k m x:Nat),gh+k=s.size∧i=.int .i64 (k:Int)∧v9=.int .i64 (x:Int)∧x < t.length∧Hid (x=oJ t im x0 (s.data.toList.take k))∧wr=w.drewN m)
 case atStart=>exact ⟨0,0,x0,rfl,rfl,rfl,hx,Kh rfl,rfl⟩
 case round =>
  obtain ⟨k,m,x,hgh,rfl,rfl,hxl,hxe,rfl⟩:=hrel
  have HGH:=Kh hgh;clear hgh
  by_cases hk:k < s.size
  ·have hk':(k:Int) < s.size:=by omega
   have hb:=qDJ HS.out k hk
   obtain ⟨c,hc⟩:∃ c,c=s[k].toNat:=⟨_,rfl⟩
   have h1:=qB.1 HG.out.inb (c - 97) (by omega)
   obtain ⟨y,hy⟩:∃ y:Nat,(y:Int)=im.getD (c - 97) 0:=⟨(im.getD (c - 97) 0).toNat,by omega⟩
   have ci:=HRA.out.int (c - 97) (by omega)
   rw [← hy] at ci h1
   have hyl:y < t.length:=by omega
   have c0:=HQ.out.hd x hxl
   have c1:=HQ.out.el x y hxl hyl
   have hrc:=HQ.out.cap x hxl
   have hrcm:RC x≤9223372036854775807:=by have:=hrc.2;unfold maxLen at this;omega
   obtain ⟨z,hz0⟩:∃ z,z=entN t x y:=⟨_,rfl⟩
   have hzl:z < t.length:=by rw [hz0];exact uX HSH.out hxl hyl
   rw [← hz0] at c1
   have HZ:Hid (z=oJ t im x0 (s.data.toList.take (k+1))):=Kh (by
    rw [qBZ s k hk,dF,← hxe.out,← hc,← hy];exact hz0)
   rw [← hc] at hb
   have hcw:IntKind.u8.wrap ((s[k].toNat:Int) - 97)=((c - 97:Nat):Int):=by
    rw [← hc];unfold IntKind.wrap;simp [IntKind.signed,IntKind.bits];omega
   obtain ⟨y0,hy0⟩:∃ y0,y0=c - 97:=⟨_,rfl⟩
   have hy6:y0 < im.length:=by omega
   have hy6':(y0:Int) < im.length:=by omega
   rw [← hy0] at hcw ci
   have hxl':(x:Int) < t.length:=by omega
   have hyl':(y:Int) < t.length:=by omega
   clear hz0 hy hb h1 hy0 hc
   go_wp2
   go_quiet (fail)
   go_wp2
   go_roundg (s.size - (k+1))
   case measure=>have:=HGH.out;omega
   case rel=>exact ⟨k+1,_,z,by omega,by go_num,rfl,hzl,HZ,rfl⟩
  ·have hkn:s.data.toList.take k=s.data.toList:=List.take_of_length_le (by simp;omega)
   rw [hkn] at hxe
   go_wp2
   go_ret
   exact ⟨yH (by rw [← hxe.out]),m,rfl⟩
theorem cell_still {w w':World} {p:Addr} {u:Value} {row:Option Nat} (h:w.cell? p=some u) (hg:w.grownBy w' row) (hr:∀ k,row=some k→k≠p.block):w'.cell? p=some u:=(World.cell?_of_block (hg.block p.block (World.block_lt_of_cell? w p h) (fun e=>hr _ e.symm rfl))).trans h
theorem wR {w:World} {p e:Nat} {x0 x1 x2 x3 x4:Value} (h:w.heap[p]?=some (.cells #[x0,x1,x2,x3,x4] e (0,0))):w.cell? ⟨p,0,none⟩=some x0∧w.cell? ⟨p,1,none⟩=some x1∧w.cell? ⟨p,2,none⟩=some x2∧w.cell? ⟨p,3,none⟩=some x3∧w.cell? ⟨p,4,none⟩=some x4:=by
 have c0:=zI h 0 (by simp)
 have c1:=zI h 1 (by simp)
 have c2:=zI h 2 (by simp)
 have c3:=zI h 3 (by simp)
 have c4:=zI h 4 (by simp)
 exact ⟨by simpa using c0,by simpa using c1,by simpa using c2,by simpa using c3,by simpa using c4⟩
theorem gM {t:List (List Int)} {im:List Int} {ss:List StepV} {i:Nat} {st:StepV} (e:st=ss.getD i default) (h1:st.op≠1) (h2:st.op≠2) (h3:st.op≠3):tI t im ss i=false:=by
 subst e;simp only [tI];rw [if_neg h1,if_neg h2,if_neg h3]
theorem oM {t:List (List Int)} {im:List Int} {ss:List StepV} {i:Nat} {st:StepV} (e:st=ss.getD i default) (h1:st.op=1):tI t im ss i=(decide (st.a=0) && decide (st.b=0) && yN st.word im.length && decide (st.set=((2 ^ oJ t im (oneN t) st.word.data.toList:Nat):Int))):=by
 subst e;simp only [tI];rw [if_pos h1]
theorem qJ {t:List (List Int)} {im:List Int} {ss:List StepV} {i:Nat} {st:StepV} (e:st=ss.getD i default) (h1:st.op=2):tI t im ss i=(st.word.toList.isEmpty && befB st.a i && befB st.b i && decide (st.set=((zU t.length (entN t) (ss.getD st.a.toNat default).set.toNat (ss.getD st.b.toNat default).set.toNat:Nat):Int))):=by
 subst e;simp only [tI];rw [if_neg (by omega),if_pos h1]
theorem lJ {t:List (List Int)} {im:List Int} {ss:List StepV} {i:Nat} {st:StepV} (e:st=ss.getD i default) (h1:st.op=3):tI t im ss i=(st.word.toList.isEmpty && befB st.a i && decide (st.b=0) && decide (st.set=((yM t.length (entN t) (ss.getD st.a.toNat default).set.toNat:Nat):Int))):=by
 subst e;simp only [tI];rw [if_neg (by omega),if_neg (by omega),if_pos h1]
theorem lQ {P:Program} {f:FuncId} {args:Array Value} {w:World} {n:Nat} {v:Value} (h:Calls P f args (w.drewN n) fun e w'=>e=.returned v∧∃ m,w'=(w.drewN n).drewN m):Calls P f args (w.drewN n) fun e w''=>e=.returned v∧∃ m,w''=w.drewN m :=
 h.mono fun _ _ ⟨he,m,hm⟩=>⟨he,n+m,by rw [hm,World.drewN_drewN]⟩
set_option maxRecDepth 100000 in
set_option maxHeartbeats 2000000 in
theorem oT (B:Nat) (w:World) (v iv sv:Value) (t:List (List Int)) (im:List Int) (ss:List StepV) (hB:B≤w.heap.size) (h:Mat B w v t) (hi:Row B w iv (ints im)) (hs:SRow B w sv ss) (hw:∀ i,i < ss.length→(ss.getD i default).word.size≤maxLen) (hT:TabOk w) :
  Calls Tryd.prog 35 #[v,iv,sv] w fun e w'=>e=.returned (.bool (derB t im ss))∧w.grownBy w' none:=by
 have hsl:=hs.len_le
 unfold maxLen at hsl
 have HCH:=Kh (eT B w v iv t im hB h hi)
 have H:=Kh h;have HI:=Kh hi;have HS:=Kh hs;have HW:=Kh hw;have HT:=Kh hT
 obtain ⟨ta,tc,rfl⟩:=h.shape
 obtain ⟨ia,ic,rfl⟩:=hi.shape
 obtain ⟨sa,sc,rfl⟩:=hs.shape
 rw [zM] at HCH HI ⊢
 clear h hi hs hw hT
 go_enter Tryd.func35,Tryd.ntmps35
 go_wp2_with fail
 refine HCH.out.mono ?_
 rintro e w1 ⟨rfl,hg1⟩
 have HG1:=Kh hg1
 clear HCH hg1
 by_cases hz:yS t im≠0
 ·have HD:=Kh (cD (ss:=ss) hz)
  obtain ⟨E,hE⟩:∃ E,E=yS t im:=⟨_,rfl⟩
  rw [← hE] at hz ⊢
  have e1:(E != 0)=true:=by rw [bne_iff_ne];exact hz
  clear hE hz
  go_wp2
  go_ret
  exact ⟨zZ HD.out.symm,HG1.out⟩
 replace hz:yS t im=0:=by omega
 rw [hz]
 by_cases hl:ss.length=0
 ·have HD:=Kh (qBV (t:=t) (im:=im) hl)
  have e1:((ss.length:Int) == 0)=true:=by rw [hl];rfl
  clear hz
  go_wp2
  go_ret
  exact ⟨zZ HD.out.symm,HG1.out⟩
 have hgd:=uP.1 hz
 have e1:((ss.length:Int) == 0)=false:=by rw [beq_eq_false_iff_ne];omega
 have hle:=hgd.le
 have hva:=hgd.valid
 have HZ:=Kh hz;have HGD:=Kh hgd;have HVA:=Kh hva;have HTB:=Kh (oK hva);have HSH:=Kh (uY hva).1
 obtain ⟨gb,go_,gcap,ge,hgB,hgc,hgm,hso⟩:=HS.out.some_ (by omega)
 simp only [Value.slice.injEq] at ge
 obtain ⟨rfl,_,rfl⟩:=ge
 have HSO:=Kh hso
 have hgm':sc≤9223372036854775807:=by unfold maxLen at hgm;omega
 have HN:=Kh (qZ B w1 _ t (by have:=HG1.out.size;omega) (H.out.kept HG1.out (by simp)) hva hle (HT.out.kept HG1.out (by simp)))
 clear hz hgd hva hso hgm
 go_wp2_with fail
 refine HN.out.mono ?_
 rintro e w2 ⟨p,go,rfl,hs2,hg2⟩
 have HG2:=Kh (zG HG1.out hg2 (by simp))
 have HS2:=Kh hs2
 have HID:=Kh (mU B w2 _ t (by have:=HG2.out.size;omega) (H.out.kept HG2.out (by simp)))
 rw [pU HVA.out,(mP HGD.out).2] at HID
 have hz12:=HG1.out.size
 have hz2:=hg2.size
 have hgo:=hs2.go_lt
 clear HN hs2 hg2
 go_wp2_with fail
 refine HID.out.mono ?_
 rintro e w3 ⟨rfl,hg3⟩
 have HG3:=Kh (zG HG2.out hg3 (by simp))
 have HS3:=Kh (HS2.out.kept hg3 (by simp))
 have HZ3:=Kh hg3.size
 clear HID hg3
 go_wp2
 go_loopg [27] ss.length (fun gh i wr=>∃ (k:Nat),gh+k=ss.length∧i=.int .i64 (k:Int)∧Hid (sX t im ss k)∧vD w1.heap.size w2.heap.size wr p go t.length (entN t)∧w.grownBy wr none∧w2.heap.size≤wr.heap.size)
 case atStart=>exact ⟨0,rfl,rfl,Kh (fun i hi=>absurd hi (by omega)),HS3.out,HG3.out,HZ3.out⟩
 case round =>
  clear HS3 HG3 HZ3
  obtain ⟨k,hgh,rfl,hst,hsr,hgr,hzr⟩:=hrel
  have HGH:=Kh hgh;have HSR:=Kh hsr;have HGR:=Kh hgr
  clear hgh hsr hgr
  by_cases hk:¬ k < ss.length
  ·have HD:=Kh (bG HZ.out (by omega) (fun i hi=>hst.out i (by have:=HGH.out;omega)))
   go_wp2
   go_ret
   exact ⟨zZ HD.out.symm,HGR.out⟩
  replace hk:k < ss.length:=by omega
  have hk':(k:Int) < ss.length:=by omega
  have hso:=HSO.out.kept HGR.out (by simp)
  have c0:=hso.op k hk
  have c1:=hso.a k hk
  have c2:=hso.b k hk
  have c3:=hso.word k hk
  have c4:=hso.set k hk
  obtain ⟨st,hst0⟩:∃ st,st=ss.getD k default:=⟨_,rfl⟩
  rw [← hst0] at c0 c1 c2 c3 c4
  have HST:=Kh hst0
  have HWZ:Hid (st.word.size≤maxLen):=Kh (by rw [hst0];exact HW.out k hk)
  clear hst0 hso
  obtain ⟨wb,hwb⟩:∃ W,W=wr.alloc (.cells #[.int .i64 st.op,.int .i64 st.a,.int .i64 st.b,.string st.word,.int .i64 st.set] 60):=⟨_,rfl⟩
  have hgb:wr.grownBy wb none:=by rw [hwb];exact Ga wr _ none
  have hbb:=heap_alloc_new wr (.cells #[.int .i64 st.op,.int .i64 st.a,.int .i64 st.b,.string st.word,.int .i64 st.set] 60)
  rw [← hwb] at hbb
  obtain ⟨o,ho⟩:∃ o,o=wr.heap.size:=⟨_,rfl⟩
  rw [← ho] at hbb
  have HWB:=Kh hwb;have HO:=Kh ho;have HBB:=Kh hbb
  have HGB:=Kh (zG HGR.out hgb (by simp));have HSB:=Kh (HSR.out.kept hgb (by simp))
  have hzb:w2.heap.size≤wb.heap.size:=Nat.le_trans hzr hgb.size
  have hoz:w2.heap.size≤o:=by omega
  clear hwb hgb hbb ho
  go_upto_region 8 with fail
  rw [← HWB.out,← HO.out]
  clear c0 c1 c2 c3 c4
  obtain ⟨b0,b1,b2,b3,b4⟩:=wR HBB.out
  by_cases hp1:st.op=1
  ·have q1:(st.op == 1)=true:=by rw [hp1];rfl
   have HB:=Kh (oM (t:=t) (im:=im) HST.out hp1)
   clear hp1
   by_cases ha:st.a≠0
   ·have qa:(st.a == 0)=false:=by rw [beq_eq_false_iff_ne];exact ha
    have HD:Hid (derB t im ss=false):=Kh (xX hk (by rw [HB.out];simp [ha]))
    go_wp2
    go_quiet (fail)
    go_wp2
    go_ret
    exact ⟨zZ HD.out.symm,zG HGB.out (zJ wb _ none) (by simp)⟩
   replace ha:st.a=0:=by omega
   have qa:(st.a == 0)=true:=by rw [ha];rfl
   by_cases hb:st.b≠0
   ·have qb:(st.b == 0)=false:=by rw [beq_eq_false_iff_ne];exact hb
    have HD:Hid (derB t im ss=false):=Kh (xX hk (by rw [HB.out];simp [hb]))
    go_wp2
    go_quiet (fail)
    go_wp2
    go_ret
    exact ⟨zZ HD.out.symm,zG HGB.out (zJ wb _ none) (by simp)⟩
   replace hb:st.b=0:=by omega
   have qb:(st.b == 0)=true:=by rw [hb];rfl
   obtain ⟨wv,hwv⟩:∃ wv,wv=yN st.word im.length:=⟨_,rfl⟩
   have HWV:=Kh hwv
   have HCV:∀ W:World,Hid (Calls Tryd.prog 72 #[.string st.word,.int .i64 im.length] W fun e w'=>e=.returned (.bool wv)∧W=w'):=fun W=>Kh (by rw [hwv];exact wordValid_any st.word im.length W HWZ.out)
   rw [← hwv] at HB
   clear hwv
   cases wv with
   | false =>
    have HD:Hid (derB t im ss=false):=Kh (xX hk (by rw [HB.out];simp))
    go_wp2
    go_quiet ((go_at_call 72;exact wO (HCV _).out))
    go_wp2
    go_ret
    exact ⟨zZ HD.out.symm,zG HGB.out (zJ wb _ none) (by simp)⟩
   | true =>
    have hvl:=jA HGD.out st.word.data.toList (oneN t) (by
     have:=HWV.out.symm
     simp only [yN,Bool.and_eq_true,List.all_eq_true] at this
     exact this.2) (mP HGD.out).1
    have hval:∀ W:World,wb.grownBy W none→Calls Tryd.prog 73 #[.slice ta t.length tc,.slice ia im.length ic,.int .i64 (oneN t:Int),.string st.word] W fun e w'=>e=.returned (.int .i64 ((oJ t im (oneN t) st.word.data.toList:Nat):Int))∧∃ m,w'=W.drewN m:=fun W hW =>
     value_any B W _ _ t im (oneN t) st.word ((H.out.kept HGB.out (by simp)).kept hW (by simp)) ((HI.out.kept HGB.out (by simp)).kept hW (by simp)) HGD.out (mP HGD.out).1 HWV.out.symm
    obtain ⟨V,hV⟩:∃ V,V=oJ t im (oneN t) st.word.data.toList:=⟨_,rfl⟩
    rw [← hV] at hvl hval HB
    have HVAL:=Kh hval
    have hsh:=qE (m:=V) (by omega)
    have hsh':=nG (m:=V) (by omega)
    obtain ⟨X,hX⟩:∃ X,X=2 ^ V:=⟨_,rfl⟩
    rw [← hX] at hsh hsh' HB
    clear hV hX hval
    by_cases hv:st.set=(X:Int)
    ·have qv:(st.set == (X:Int))=true:=by rw [hv];simp
     have HBT:Hid (tI t im ss k=true):=Kh (by rw [HB.out];simp [ha,hb,hv])
     go_wp2
     go_quiet ((first|(go_at_call 72;exact wO (HCV _).out)|(go_at_call 73;exact lQ (HVAL.out _ (zJ wb _ none)))|fail))
     go_wp2
     go_roundg (ss.length - (k+1))
     case measure=>have:=HGH.out;omega
     case rel=>exact ⟨k+1,by have:=HGH.out;omega,by go_num,Kh (tT hst.out HBT.out),HSB.out.kept (zJ wb _ none) (by simp),zG HGB.out (zJ wb _ none) (by simp),hzb⟩
    ·have qv:(st.set == (X:Int))=false:=by rw [beq_eq_false_iff_ne];exact hv
     have HD:Hid (derB t im ss=false):=Kh (xX hk (by rw [HB.out];simp [hv]))
     go_wp2
     go_quiet ((first|(go_at_call 72;exact wO (HCV _).out)|(go_at_call 73;exact lQ (HVAL.out _ (zJ wb _ none)))|fail))
     go_wp2
     go_ret
     exact ⟨zZ HD.out.symm,zG HGB.out (zJ wb _ none) (by simp)⟩
  by_cases hp2:st.op=2
  ·have q1:(st.op == 1)=false:=by rw [hp2];rfl
   have q2:(st.op == 2)=true:=by rw [hp2];rfl
   have HB:=Kh (qJ (t:=t) (im:=im) HST.out hp2)
   clear hp1 hp2
   obtain ⟨ew,hew⟩:∃ ew,ew=st.word.toList.isEmpty:=⟨_,rfl⟩
   have qw:st.word.toList.isEmpty=ew:=hew.symm
   rw [← hew] at HB
   clear hew
   cases ew with
   | false =>
    have HD:Hid (derB t im ss=false):=Kh (xX hk (by rw [HB.out];simp))
    go_wp2
    go_quiet (fail)
    go_wp2
    go_ret
    exact ⟨zZ HD.out.symm,zG HGB.out (zJ wb _ none) (by simp)⟩
   | true =>
    by_cases ha:¬ (0≤st.a∧st.a < k)
    ·have qa:decide (0≤st.a∧st.a < (k:Int))=false:=decide_eq_false ha
     have HD:Hid (derB t im ss=false):=Kh (xX hk (by rw [HB.out];simp [befB,qa]))
     have HBA:∀ W:World,Hid (Calls Tryd.prog 74 #[.int .i64 st.a,.int .i64 k] W fun e w'=>e=.returned (.bool false)∧W=w'):=fun W=>Kh (by rw [← qa];exact qN W st.a k)
     go_wp2
     go_quiet ((go_at_call 74;exact wO (HBA _).out))
     go_wp2
     go_ret
     exact ⟨zZ HD.out.symm,zG HGB.out (zJ wb _ none) (by simp)⟩
    replace ha:0≤st.a∧st.a < k:=Decidable.not_not.1 ha
    have qa:decide (0≤st.a∧st.a < (k:Int))=true:=decide_eq_true ha
    have HBA:∀ W:World,Hid (Calls Tryd.prog 74 #[.int .i64 st.a,.int .i64 k] W fun e w'=>e=.returned (.bool true)∧W=w'):=fun W=>Kh (by rw [← qa];exact qN W st.a k)
    by_cases hb:¬ (0≤st.b∧st.b < k)
    ·have qb:decide (0≤st.b∧st.b < (k:Int))=false:=decide_eq_false hb
     have HD:Hid (derB t im ss=false):=Kh (xX hk (by rw [HB.out];simp [befB,qb]))
     have HBB2:∀ W:World,Hid (Calls Tryd.prog 74 #[.int .i64 st.b,.int .i64 k] W fun e w'=>e=.returned (.bool false)∧W=w'):=fun W=>Kh (by rw [← qb];exact qN W st.b k)
     clear qa qb
     go_wp2
     go_quiet ((go_at_call 74;first|with_reducible exact wO (HBA _).out|with_reducible exact wO (HBB2 _).out))
     go_wp2
     go_ret
     exact ⟨zZ HD.out.symm,zG HGB.out (zJ wb _ none) (by simp)⟩
    replace hb:0≤st.b∧st.b < k:=Decidable.not_not.1 hb
    have qb:decide (0≤st.b∧st.b < (k:Int))=true:=decide_eq_true hb
    have HBB2:∀ W:World,Hid (Calls Tryd.prog 74 #[.int .i64 st.b,.int .i64 k] W fun e w'=>e=.returned (.bool true)∧W=w'):=fun W=>Kh (by rw [← qb];exact qN W st.b k)
    obtain ⟨na,hna⟩:∃ na:Nat,(na:Int)=st.a:=⟨st.a.toNat,by omega⟩
    obtain ⟨nb,hnb⟩:∃ nb:Nat,(nb:Int)=st.b:=⟨st.b.toNat,by omega⟩
    have hak:na < ss.length:=by omega
    have hbk:nb < ss.length:=by omega
    have hak':(na:Int) < ss.length:=by omega
    have hbk':(nb:Int) < ss.length:=by omega
    have hsa:=step_set HGD.out hst.out na (by omega)
    have hsb:=step_set HGD.out hst.out nb (by omega)
    have HFA:Hid (befB st.a k=true∧befB st.b k=true):=Kh ⟨qa,qb⟩
    have hso:=HSO.out.kept HGB.out (by simp)
    have ca:=hso.set na hak
    have cb:=hso.set nb hbk
    have hba:st.a.toNat=na:=by omega
    have hbb:st.b.toNat=nb:=by omega
    rw [hba,hbb] at HB
    rw [← hna] at b1 HBA
    rw [← hnb] at b2 HBB2
    obtain ⟨za,hza⟩:∃ za:Nat,(za:Int)=(ss.getD na default).set:=⟨(ss.getD na default).set.toNat,by omega⟩
    obtain ⟨zb,hzb2⟩:∃ zb:Nat,(zb:Int)=(ss.getD nb default).set:=⟨(ss.getD nb default).set.toNat,by omega⟩
    rw [← hza] at ca hsa HB
    rw [← hzb2] at cb hsb HB
    rw [Int.toNat_natCast,Int.toNat_natCast] at HB
    have hpr:∀ W:World,wb.grownBy W none→Calls Tryd.prog 53 #[.pointer (some ⟨p,0,none⟩),.int .i64 (za:Int),.int .i64 (zb:Int)] W fun e w'=>e=.returned (.int .i64 (zU t.length (entN t) za zb:Nat))∧∃ m,w'=W.drewN m:=fun W hW =>
     qX w1.heap.size w2.heap.size W p go t.length (entN t) za zb (HSB.out.kept hW (by simp)) HTB.out.lt hle (by omega) (by omega) ((HT.out.kept HGB.out (by simp)).kept hW (by simp))
    obtain ⟨X,hX⟩:∃ X,X=zU t.length (entN t) za zb:=⟨_,rfl⟩
    rw [← hX] at hpr HB
    have HPR:=Kh hpr
    clear hX hpr hso hsa hsb hba hbb hza hzb2 qa qb ha hb hna hnb
    by_cases hv:st.set=(X:Int)
    ·have qv:(st.set == (X:Int))=true:=by rw [hv];simp
     have HBT:Hid (tI t im ss k=true):=Kh (by rw [HB.out,HFA.out.1,HFA.out.2,decide_eq_true hv];rfl)
     go_wp2
     go_quiet ((first|(go_at_call 74;first|with_reducible exact wO (HBA _).out|with_reducible exact wO (HBB2 _).out)|(go_at_call 53;exact lQ (HPR.out _ (zJ wb _ none)))|fail))
     go_wp2
     go_roundg (ss.length - (k+1))
     case measure=>have:=HGH.out;omega
     case rel=>exact ⟨k+1,by have:=HGH.out;omega,by go_num,Kh (tT hst.out HBT.out),HSB.out.kept (zJ wb _ none) (by simp),zG HGB.out (zJ wb _ none) (by simp),hzb⟩
    ·have qv:(st.set == (X:Int))=false:=by rw [beq_eq_false_iff_ne];exact hv
     have HD:Hid (derB t im ss=false):=Kh (xX hk (by rw [HB.out];simp [hv]))
     go_wp2
     go_quiet ((first|(go_at_call 74;first|with_reducible exact wO (HBA _).out|with_reducible exact wO (HBB2 _).out)|(go_at_call 53;exact lQ (HPR.out _ (zJ wb _ none)))|fail))
     go_wp2
     go_ret
     exact ⟨zZ HD.out.symm,zG HGB.out (zJ wb _ none) (by simp)⟩
  by_cases hp3:st.op=3
  ·have q1:(st.op == 1)=false:=by rw [hp3];rfl
   have q2:(st.op == 2)=false:=by rw [hp3];rfl
   have q3:(st.op == 3)=true:=by rw [hp3];rfl
   have HB:=Kh (lJ (t:=t) (im:=im) HST.out hp3)
   clear hp1 hp2 hp3
   obtain ⟨ew,hew⟩:∃ ew,ew=st.word.toList.isEmpty:=⟨_,rfl⟩
   have qw:st.word.toList.isEmpty=ew:=hew.symm
   rw [← hew] at HB
   clear hew
   cases ew with
   | false =>
    have HD:Hid (derB t im ss=false):=Kh (xX hk (by rw [HB.out];simp))
    go_wp2
    go_quiet (fail)
    go_wp2
    go_ret
    exact ⟨zZ HD.out.symm,zG HGB.out (zJ wb _ none) (by simp)⟩
   | true =>
    by_cases ha:¬ (0≤st.a∧st.a < k)
    ·have qa:decide (0≤st.a∧st.a < (k:Int))=false:=decide_eq_false ha
     have HD:Hid (derB t im ss=false):=Kh (xX hk (by rw [HB.out];simp [befB,qa]))
     have HBA:∀ W:World,Hid (Calls Tryd.prog 74 #[.int .i64 st.a,.int .i64 k] W fun e w'=>e=.returned (.bool false)∧W=w'):=fun W=>Kh (by rw [← qa];exact qN W st.a k)
     go_wp2
     go_quiet ((go_at_call 74;exact wO (HBA _).out))
     go_wp2
     go_ret
     exact ⟨zZ HD.out.symm,zG HGB.out (zJ wb _ none) (by simp)⟩
    replace ha:0≤st.a∧st.a < k:=Decidable.not_not.1 ha
    have qa:decide (0≤st.a∧st.a < (k:Int))=true:=decide_eq_true ha
    have HBA:∀ W:World,Hid (Calls Tryd.prog 74 #[.int .i64 st.a,.int .i64 k] W fun e w'=>e=.returned (.bool true)∧W=w'):=fun W=>Kh (by rw [← qa];exact qN W st.a k)
    by_cases hb:st.b≠0
    ·have qb:(st.b == 0)=false:=by rw [beq_eq_false_iff_ne];exact hb
     have HD:Hid (derB t im ss=false):=Kh (xX hk (by rw [HB.out];simp [hb]))
     clear qa ha
     go_wp2
     go_quiet ((go_at_call 74;exact wO (HBA _).out))
     go_wp2
     go_ret
     exact ⟨zZ HD.out.symm,zG HGB.out (zJ wb _ none) (by simp)⟩
    replace hb:st.b=0:=by omega
    have qb:(st.b == 0)=true:=by rw [hb];rfl
    obtain ⟨na,hna⟩:∃ na:Nat,(na:Int)=st.a:=⟨st.a.toNat,by omega⟩
    have hak:na < ss.length:=by omega
    have hak':(na:Int) < ss.length:=by omega
    have hsa:=step_set HGD.out hst.out na (by omega)
    have HFA:Hid (befB st.a k=true∧st.b=0):=Kh ⟨qa,hb⟩
    have hso:=HSO.out.kept HGB.out (by simp)
    have ca:=hso.set na hak
    have hgblt:=hso.lt
    have hba:st.a.toNat=na:=by omega
    rw [hba] at HB
    rw [← hna] at b1 HBA
    obtain ⟨za,hza⟩:∃ za:Nat,(za:Int)=(ss.getD na default).set:=⟨(ss.getD na default).set.toNat,by omega⟩
    rw [← hza] at ca hsa HB
    rw [Int.toNat_natCast] at HB
    have hom:∀ W:World,wb.grownBy W none→Calls Tryd.prog 56 #[.pointer (some ⟨p,0,none⟩),.int .i64 (za:Int)] W fun e w'=>e=.returned (.int .i64 (yM t.length (entN t) za:Nat))∧vD w1.heap.size w2.heap.size w' p go t.length (entN t)∧wb.grownBy w' (some go):=fun W hW =>
     (jI w1.heap.size w2.heap.size W p go t.length (entN t) za (HSB.out.kept hW (by simp)) HTB.out hle (by omega) ((HT.out.kept HGB.out (by simp)).kept hW (by simp))).mono fun _ _ ⟨h1,h2,h3⟩=>⟨h1,h2,zF (wI hW) h3⟩
    have hbg:gb < w.heap.size:=by omega
    have HCB:Hid (∀ W,wb.grownBy W (some go)→W.cell? ⟨o,1,none⟩=some (.int .i64 (na:Int))∧W.cell? ⟨o,2,none⟩=some (.int .i64 st.b)∧W.cell? ⟨o,3,none⟩=some (.string st.word)∧W.cell? ⟨o,4,none⟩=some (.int .i64 st.set)∧W.cell? ⟨gb,go_+na * 5+4,none⟩=some (.int .i64 (za:Int))):=Kh (fun W hW=>by
     have key:∀ (b i:Nat) (u:Value),b≠go→wb.cell? ⟨b,i,none⟩=some u→W.cell? ⟨b,i,none⟩=some u:=fun b i u hne hc=>cell_still hc hW (fun j e e2=>hne ((Oj e).trans e2).symm)
     exact ⟨key _ _ _ (by omega) b1,key _ _ _ (by omega) b2,key _ _ _ (by omega) b3,key _ _ _ (by omega) b4,key _ _ _ (by omega) ca⟩)
    have GA:wb.grownBy wb.drew none:=zT _ _
    obtain ⟨X,hX⟩:∃ X,X=yM t.length (entN t) za:=⟨_,rfl⟩
    rw [← hX] at hom HB
    have HOM:=Kh hom
    clear hX hom hso hsa hba hza qa ha hb hna hgblt
    by_cases hv:st.set=(X:Int)
    ·have qv:(st.set == (X:Int))=true:=by rw [hv];simp
     have HBT:Hid (tI t im ss k=true):=Kh (by rw [HB.out,HFA.out.1,HFA.out.2,decide_eq_true hv];rfl)
     clear hv
     go_wp2
     go_region_held3 (fun W=>W.cell? ⟨o,1,none⟩=some (.int .i64 (na:Int))∧W.cell? ⟨o,2,none⟩=some (.int .i64 st.b)∧W.cell? ⟨o,3,none⟩=some (.string st.word)∧W.cell? ⟨o,4,none⟩=some (.int .i64 st.set)∧W.cell? ⟨gb,go_+na * 5+4,none⟩=some (.int .i64 (za:Int)))
      (first|go_keep|exact HCB.out _ hG7|fail)
      (first|(go_at_call 74;refine (HBA _).out.mono ?_;rintro e w' ⟨rfl,rfl⟩)|(go_at_call 56;(with_reducible refine (HOM.out _ GA).mono ?_);rintro e w7 ⟨rfl,hS7,hG7⟩)|fail)
     have hFAR:∀ j,some go=some j→w.heap.size≤j:=fun j e=>by have e:go=j:=Oj e;omega
     have HG8:=Kh (zG HGB.out hG7 hFAR)
     have hz7:=hG7.size
     have HS7:=Kh hS7
     clear hS7 hG7 hFAR
     go_wp2
     go_roundg (ss.length - (k+1))
     case measure=>have:=HGH.out;omega
     case rel=>exact ⟨k+1,by have:=HGH.out;omega,by go_num,Kh (tT hst.out HBT.out),HS7.out,HG8.out,by omega⟩
    ·have qv:(st.set == (X:Int))=false:=by rw [beq_eq_false_iff_ne];exact hv
     have HD:Hid (derB t im ss=false):=Kh (xX hk (by rw [HB.out];simp [hv]))
     clear hv
     go_wp2
     go_region_held3 (fun W=>W.cell? ⟨o,1,none⟩=some (.int .i64 (na:Int))∧W.cell? ⟨o,2,none⟩=some (.int .i64 st.b)∧W.cell? ⟨o,3,none⟩=some (.string st.word)∧W.cell? ⟨o,4,none⟩=some (.int .i64 st.set)∧W.cell? ⟨gb,go_+na * 5+4,none⟩=some (.int .i64 (za:Int)))
      (first|go_keep|exact HCB.out _ hG7|fail)
      (first|(go_at_call 74;refine (HBA _).out.mono ?_;rintro e w' ⟨rfl,rfl⟩)|(go_at_call 56;(with_reducible refine (HOM.out _ GA).mono ?_);rintro e w7 ⟨rfl,hS7,hG7⟩)|fail)
     have hFAR:∀ j,some go=some j→w.heap.size≤j:=fun j e=>by have e:go=j:=Oj e;omega
     have HG8:=Kh (zG HGB.out hG7 hFAR)
     clear hS7 hG7 hFAR
     go_wp2
     go_ret
     exact ⟨zZ HD.out.symm,HG8.out⟩
  ·have HD:=Kh (xX hk (gM (t:=t) (im:=im) HST.out hp1 hp2 hp3))
   have q1:(st.op == 1)=false:=by rw [beq_eq_false_iff_ne];exact hp1
   have q2:(st.op == 2)=false:=by rw [beq_eq_false_iff_ne];exact hp2
   have q3:(st.op == 3)=false:=by rw [beq_eq_false_iff_ne];exact hp3
   go_wp2
   go_ret
   exact ⟨zZ HD.out.symm,HGB.out⟩
theorem nX {x z:Nat}:(2 ^ x).testBit z=decide (x=z):=by rw [Nat.testBit_two_pow]
theorem prod_single {n:Nat} {tb:Nat→Nat→Nat} (ht:Tb n tb) {x y:Nat} (hx:x < n) (hy:y < n):zU n tb (2 ^ x) (2 ^ y)=2 ^ tb x y:=by
 apply Nat.eq_of_testBit_eq
 intro z
 rw [nX,Bool.eq_iff_iff,xJ,decide_eq_true_eq]
 constructor
 ·rintro ⟨a,b,_,_,h1,h2,e⟩
  rw [nX,decide_eq_true_eq] at h1 h2
  subst h1;subst h2;exact e
 ·intro e
  exact ⟨x,y,hx,hy,by rw [nX];simp,by rw [nX];simp,e⟩
section
variable {t:List (List Int)} {im:List Int}
def UC (t:List (List Int)) (im:List Int) (s:Nat):Prop:=xV (tK t im) s=true
theorem pI (hg:Good t im):zV t.length (entN t) (tK t im)=tK t im∧(∀ s,xV (uH t im) s=true→UC t im s)∧(∀ b∈tK t im,b < 2 ^ t.length):=by
 have h:=closeFrom_inv (oK hg.valid) (gO hg)
 exact ⟨h.1,h.2.1,h.2.2.1⟩
theorem uc_gen (hg:Good t im) {s:Nat} (h:s∈genL t im):UC t im s:=by
 refine (pI hg).2.1 s ?_
 rw [uH,sS (nT hg)]
 exact yX.2 ⟨s,h,gL s⟩
theorem qCN (hg:Good t im) {a b:Nat} (ha:UC t im a) (hb:UC t im b):UC t im (zU t.length (entN t) a b):=closed_prod (oK hg.valid) (pI hg).2.2 (pI hg).1 ha hb
theorem uc_omega (hg:Good t im) {a:Nat} (ha:UC t im a):UC t im (yM t.length (entN t) a):=closed_omega (oK hg.valid) (pI hg).2.2 (pI hg).1 ha
theorem uc_one (hg:Good t im):UC t im (2 ^ oneN t):=uc_gen hg (by simp [genL,oneN])
theorem qCM (hg:Good t im):∀ (l:List UInt8) (x:Nat),x < t.length→UC t im (2 ^ x)→(∀ c∈l,rT im.length c=true)→UC t im (2 ^ oJ t im x l)
 | [],x,_,h,_=>h
 | c :: l,x,hx,h,hl=>by
  have hc:=hl c (by simp)
  simp only [rT,decide_eq_true_eq] at hc
  have h1:=qB.1 hg.inb (c.toNat - 97) (by omega)
  have hs:=(uY hg.valid).1
  have hy:(im.getD (c.toNat - 97) 0).toNat < t.length:=by omega
  refine qCM hg l (entN t x (im.getD (c.toNat - 97) 0).toNat) (uX hs hx hy) ?_ (fun d hd=>hl d (by simp [hd]))
  rw [← prod_single (oK hg.valid) hx hy]
  refine qCN hg h (uc_gen hg ?_)
  refine List.mem_cons_of_mem _ (List.mem_map.2 ⟨im.getD (c.toNat - 97) 0,?_,rfl⟩)
  rw [List.getD_eq_getElem?_getD,List.getElem?_eq_getElem (show c.toNat - 97 < im.length by omega)]
  exact List.getElem_mem _
theorem bV {ss r:List StepV} {i:Nat} (hi:i < ss.length) (h:tI t im ss i=true):tI t im (ss ++ r) i=true:=by
 have key:∀ j,j < ss.length→(ss ++ r).getD j default=ss.getD j default:=fun j hj=>by
  rw [List.getD_eq_getElem?_getD,List.getElem?_append_left hj,← List.getD_eq_getElem?_getD]
 simp only [tI] at h ⊢
 rw [key i hi]
 split at h
 ·rename_i h1;rw [if_pos h1];exact h
 rename_i h1
 rw [if_neg h1]
 split at h
 ·rename_i h2
  rw [if_pos h2]
  simp only [Bool.and_eq_true] at h
  have ha:=xY.1 h.1.1.2
  have hb:=xY.1 h.1.2
  rw [key _ (by omega),key _ (by omega)]
  simp only [Bool.and_eq_true];exact h
 rename_i h2
 rw [if_neg h2]
 split at h
 ·rename_i h3
  rw [if_pos h3]
  simp only [Bool.and_eq_true] at h
  have ha:=xY.1 h.1.1.2
  rw [key _ (by omega)]
  simp only [Bool.and_eq_true];exact h
 ·cases h
structure Ders (t:List (List Int)) (im:List Int) (ss:List StepV):Prop where
 ok:sX t im ss ss.length
 uc:∀ i,i < ss.length→∃ s:Nat,(ss.getD i default).set=(s:Int)∧s < 2 ^ t.length∧UC t im s
 wz:∀ i,i < ss.length→(ss.getD i default).word.size≤maxLen
theorem Ders.nil:Ders t im []:=⟨fun i hi=>absurd hi (by simp),fun i hi=>absurd hi (by simp),fun i hi=>absurd hi (by simp)⟩
theorem uS (ss:List StepV) (st:StepV):(ss ++ [st]).getD ss.length default=st:=by
 rw [List.getD_eq_getElem?_getD,List.getElem?_append_right (Nat.le_refl _)];simp
theorem tO (ss:List StepV) (st:StepV) {j:Nat} (hj:j < ss.length):(ss ++ [st]).getD j default=ss.getD j default:=by
 rw [List.getD_eq_getElem?_getD,List.getElem?_append_left hj,← List.getD_eq_getElem?_getD]
theorem Ders.push {ss:List StepV} {st:StepV} {s:Nat} (h:Ders t im ss) (hs:tI t im (ss ++ [st]) ss.length=true) (he:st.set=(s:Int)) (hl:s < 2 ^ t.length) (hu:UC t im s) (hw:st.word.size≤maxLen):Ders t im (ss ++ [st]) where
 ok:=fun i hi=>by
  rw [List.length_append,List.length_singleton] at hi
  rcases Nat.lt_succ_iff_lt_or_eq.1 hi with hi|rfl
  ·exact bV hi (h.ok i hi)
  ·exact hs
 uc:=fun i hi=>by
  rw [List.length_append,List.length_singleton] at hi
  rcases Nat.lt_succ_iff_lt_or_eq.1 hi with hi|rfl
  ·rw [tO ss st hi];exact h.uc i hi
  ·rw [uS];exact ⟨s,he,hl,hu⟩
 wz:=fun i hi=>by
  rw [List.length_append,List.length_singleton] at hi
  rcases Nat.lt_succ_iff_lt_or_eq.1 hi with hi|rfl
  ·rw [tO ss st hi];exact h.wz i hi
  ·rw [uS];exact hw
theorem Ders.word (hg:Good t im) {ss:List StepV} (h:Ders t im ss) {wd:ByteArray} (hv:yN wd im.length=true):Ders t im (ss ++ [⟨1,0,0,wd,((2 ^ oJ t im (oneN t) wd.data.toList:Nat):Int)⟩]):=by
 have hl:∀ c∈wd.data.toList,rT im.length c=true:=by
  have:=hv
  simp only [yN,Bool.and_eq_true,List.all_eq_true] at this;exact this.2
 have hz:wd.size≤maxLen:=by
  have:=hv
  simp only [yN,Bool.and_eq_true,decide_eq_true_eq] at this
  unfold maxLen;omega
 have ho:=(mP hg).1
 refine h.push ?_ rfl (Nat.pow_lt_pow_right (by omega) (jA hg _ _ hl ho)) (qCM hg _ _ ho (uc_one hg) hl) hz
 rw [oM (uS ss _).symm rfl]
 simp [hv]
theorem Ders.product (hg:Good t im) {ss:List StepV} (h:Ders t im ss) {a b za zb:Nat} (ha:a < ss.length) (hb:b < ss.length) (ea:(ss.getD a default).set=(za:Int)) (eb:(ss.getD b default).set=(zb:Int)):Ders t im (ss ++ [⟨2,a,b,⟨#[]⟩,((zU t.length (entN t) za zb:Nat):Int)⟩]):=by
 obtain ⟨sa,h1,h2,h3⟩:=h.uc a ha
 obtain ⟨sb,k1,k2,k3⟩:=h.uc b hb
 have e1:sa=za:=by omega
 have e2:sb=zb:=by omega
 subst e1;subst e2
 refine h.push ?_ rfl (wP (oK hg.valid).lt _ _) (qCN hg h3 k3) (Nat.zero_le _)
 rw [qJ (uS ss _).symm rfl]
 have x1:befB (a:Int) ss.length=true:=xY.2 ⟨by omega,by omega⟩
 have x2:befB (b:Int) ss.length=true:=xY.2 ⟨by omega,by omega⟩
 simp only [Bool.and_eq_true,decide_eq_true_eq]
 refine ⟨⟨⟨by rw [ByteArray.toList_eq];rfl,x1⟩,x2⟩,?_⟩
 have e3:∀ st:StepV,((ss ++ [st]).getD ((a:Nat):Int).toNat default).set=(sa:Int):=fun st=>by rw [Int.toNat_natCast,tO ss st ha,ea]
 have e4:∀ st:StepV,((ss ++ [st]).getD ((b:Nat):Int).toNat default).set=(sb:Int):=fun st=>by rw [Int.toNat_natCast,tO ss st hb,eb]
 rw [e3,e4,Int.toNat_natCast,Int.toNat_natCast]
theorem Ders.om (hg:Good t im) {ss:List StepV} (h:Ders t im ss) {a za:Nat} (ha:a < ss.length) (ea:(ss.getD a default).set=(za:Int)):Ders t im (ss ++ [⟨3,a,0,⟨#[]⟩,((yM t.length (entN t) za:Nat):Int)⟩]):=by
 obtain ⟨sa,h1,h2,h3⟩:=h.uc a ha
 have e1:sa=za:=by omega
 subst e1
 refine h.push ?_ rfl (tR (oK hg.valid) h2) (uc_omega hg h3) (Nat.zero_le _)
 rw [lJ (uS ss _).symm rfl]
 have x1:befB (a:Int) ss.length=true:=xY.2 ⟨by omega,by omega⟩
 simp only [Bool.and_eq_true,decide_eq_true_eq]
 refine ⟨⟨⟨by rw [ByteArray.toList_eq];rfl,x1⟩,trivial⟩,?_⟩
 have e3:∀ st:StepV,((ss ++ [st]).getD ((a:Nat):Int).toNat default).set=(sa:Int):=fun st=>by rw [Int.toNat_natCast,tO ss st ha,ea]
 rw [e3,Int.toNat_natCast]
theorem within_uc (hg:Good t im) {s:Nat} (hs:s < 2 ^ t.length) (h:UC t im s):tZ (intL (tK t im)) (s:Int)=true:=by
 obtain ⟨b,hb,e⟩:=yX.1 h
 have hbl:=(pI hg).2.2 b hb
 have hp:2 ^ t.length≤2 ^ 12:=Nat.pow_le_pow_right (by omega) hg.le
 refine List.any_eq_true.2 ⟨(b:Int),List.mem_map.2 ⟨b,hb,rfl⟩,?_⟩
 rw [tS b s (by omega) (by omega),Nat.and_comm,e];simp
theorem Ders.derB {ss:List StepV} (h:Ders t im ss) (hz:yS t im=0) (h0:0 < ss.length):derB t im ss=true:=bG hz h0 h.ok
end
end Go.Proofs.YtdjhoadoiknaoaaDoor
namespace Go.Proofs.YtdjhoadoiknaoaaDoor
structure DerI (n:Nat) (ss:List StepV) (ix:List Nat):Prop where
 len:ix.length=2 ^ n
 at_:∀ x,x < 2 ^ n→ix.getD x 0=0∨(1≤ix.getD x 0∧ix.getD x 0≤ss.length∧(ss.getD (ix.getD x 0 - 1) default).set=(x:Int))
 of_:∀ i,i < ss.length→∃ x:Nat,x < 2 ^ n∧(ss.getD i default).set=(x:Int)∧ix.getD x 0=i+1
theorem DerI.le {n:Nat} {ss:List StepV} {ix:List Nat} (h:DerI n ss ix):ss.length≤2 ^ n:=by
 rcases Nat.lt_or_ge (2 ^ n) ss.length with hl|hl
 ·exfalso
  obtain ⟨i,j,hij,hj,e⟩:=qCU (2 ^ n) (fun i=>(ss.getD i default).set.toNat) (fun i hi=>by
   obtain ⟨x,hx,ex,_⟩:=h.of_ i (by omega)
   rw [ex,Int.toNat_natCast];exact hx)
  obtain ⟨x,hx,ex,ix1⟩:=h.of_ i (by omega)
  obtain ⟨y,hy,ey,iy1⟩:=h.of_ j (by omega)
  rw [ex,ey,Int.toNat_natCast,Int.toNat_natCast] at e
  subst e
  omega
 ·exact hl
theorem derI_nil (n:Nat):DerI n [] (List.replicate (2 ^ n) 0) where
 len:=by simp
 at_:=fun x hx=>.inl (by rw [zY (by simpa using hx)];simp)
 of_:=fun i hi=>absurd hi (by simp)
def addS (ss:List StepV) (ix:List Nat) (st:StepV) (x:Nat):List StepV × List Nat:=if ix.getD x 0=0 then (ss ++ [st],ix.set x (ss.length+1)) else (ss,ix)
theorem kA {ss:List StepV} {ix:List Nat} {st:StepV} {x:Nat} (h:ix.getD x 0=0):addS ss ix st x=(ss ++ [st],ix.set x (ss.length+1)):=if_pos h
theorem lZ {ss:List StepV} {ix:List Nat} {st:StepV} {x:Nat} (h:ix.getD x 0≠0):addS ss ix st x=(ss,ix):=if_neg h
theorem DerI.add {n:Nat} {ss:List StepV} {ix:List Nat} {st:StepV} {x:Nat} (h:DerI n ss ix) (hx:x < 2 ^ n) (e:st.set=(x:Int)):DerI n (addS ss ix st x).1 (addS ss ix st x).2:=by
 by_cases h0:ix.getD x 0=0
 ·rw [kA h0]
  refine ⟨by rw [List.length_set];exact h.len,fun y hy=>?_,fun i hi=>?_⟩
  ·by_cases exy:x=y
   ·subst exy
    rw [xK _ _ _ _ (by rw [h.len];exact hx)]
    exact .inr ⟨by omega,by simp,by rw [Nat.add_sub_cancel,uS];exact e⟩
   ·rw [getD_set_ne _ _ _ _ _ exy]
    rcases h.at_ y hy with h1|⟨h1,h2,h3⟩
    ·exact .inl h1
    ·exact .inr ⟨h1,by rw [List.length_append,List.length_singleton];omega,by rw [tO _ _ (by omega)];exact h3⟩
  ·rw [List.length_append,List.length_singleton] at hi
   rcases Nat.lt_succ_iff_lt_or_eq.1 hi with hi|rfl
   ·obtain ⟨y,hy,ey,iy⟩:=h.of_ i hi
    refine ⟨y,hy,by rw [tO _ _ hi];exact ey,?_⟩
    rw [getD_set_ne _ _ _ _ _ (fun exy=>by subst exy;omega)];exact iy
   ·exact ⟨x,hx,by rw [uS];exact e,by rw [xK _ _ _ _ (by rw [h.len];exact hx)]⟩
 ·rw [lZ h0];exact h
def IxLe (ix ix':List Nat):Prop:=∀ y,ix.getD y 0≠0→ix'.getD y 0=ix.getD y 0
theorem IxLe.refl (ix:List Nat):IxLe ix ix:=fun _ _=>rfl
theorem IxLe.trans {a b c:List Nat} (h:IxLe a b) (k:IxLe b c):IxLe a c:=fun y hy=>by rw [k y (by rw [h y hy];exact hy),h y hy]
theorem IxLe.ne {a b:List Nat} (h:IxLe a b) {y:Nat} (hy:a.getD y 0≠0):b.getD y 0≠0:=by rw [h y hy];exact hy
theorem eW {n:Nat} {ss:List StepV} {ix:List Nat} {st:StepV} {x:Nat} (h:DerI n ss ix) (hx:x < 2 ^ n):IxLe ix (addS ss ix st x).2∧(addS ss ix st x).2.getD x 0≠0:=by
 by_cases h0:ix.getD x 0=0
 ·rw [kA h0]
  refine ⟨fun y hy=>?_,by rw [xK _ _ _ _ (by rw [h.len];exact hx)];omega⟩
  rw [getD_set_ne _ _ _ _ _ (fun e=>by subst e;exact hy h0)]
 ·rw [lZ h0];exact ⟨IxLe.refl _,h0⟩
structure DerS (t:List (List Int)) (im:List Int) (ss:List StepV) (ix:List Nat):Prop where
 i:DerI t.length ss ix
 d:Ders t im ss
section
variable {t:List (List Int)} {im:List Int} {ss:List StepV} {ix:List Nat}
theorem DerS.at_set (h:DerS t im ss ix) {x:Nat} (hx:x < 2 ^ t.length) (h0:ix.getD x 0≠0):ix.getD x 0 - 1 < ss.length∧(ss.getD (ix.getD x 0 - 1) default).set=(x:Int):=by
 rcases h.i.at_ x hx with h1|⟨h1,h2,h3⟩
 ·exact absurd h1 h0
 ·exact ⟨by omega,h3⟩
theorem DerS.product (hg:Good t im) (h:DerS t im ss ix) {a b:Nat} (ha:a < 2 ^ t.length) (hb:b < 2 ^ t.length) (ka:ix.getD a 0≠0) (kb:ix.getD b 0≠0) :
  DerS t im (addS ss ix ⟨2,(ix.getD a 0 - 1:Nat),(ix.getD b 0 - 1:Nat),⟨#[]⟩,((zU t.length (entN t) a b:Nat):Int)⟩ (zU t.length (entN t) a b)).1 (addS ss ix ⟨2,(ix.getD a 0 - 1:Nat),(ix.getD b 0 - 1:Nat),⟨#[]⟩,((zU t.length (entN t) a b:Nat):Int)⟩ (zU t.length (entN t) a b)).2:=by
 refine ⟨h.i.add (wP (oK hg.valid).lt _ _) rfl,?_⟩
 by_cases h0:ix.getD (zU t.length (entN t) a b) 0=0
 ·rw [kA h0]
  exact h.d.product hg (h.at_set ha ka).1 (h.at_set hb kb).1 (h.at_set ha ka).2 (h.at_set hb kb).2
 ·rw [lZ h0];exact h.d
theorem DerS.omega (hg:Good t im) (h:DerS t im ss ix) {a:Nat} (ha:a < 2 ^ t.length) (ka:ix.getD a 0≠0) :
  DerS t im (addS ss ix ⟨3,(ix.getD a 0 - 1:Nat),0,⟨#[]⟩,((yM t.length (entN t) a:Nat):Int)⟩ (yM t.length (entN t) a)).1 (addS ss ix ⟨3,(ix.getD a 0 - 1:Nat),0,⟨#[]⟩,((yM t.length (entN t) a:Nat):Int)⟩ (yM t.length (entN t) a)).2:=by
 refine ⟨h.i.add (tR (oK hg.valid) ha) rfl,?_⟩
 by_cases h0:ix.getD (yM t.length (entN t) a) 0=0
 ·rw [kA h0]
  exact h.d.om hg (h.at_set ha ka).1 (h.at_set ha ka).2
 ·rw [lZ h0];exact h.d
theorem DerS.word (hg:Good t im) (h:DerS t im ss ix) {wd:ByteArray} (hv:yN wd im.length=true) {x:Nat} (e:x=2 ^ oJ t im (oneN t) wd.data.toList) :
  DerS t im (addS ss ix ⟨1,0,0,wd,(x:Int)⟩ x).1 (addS ss ix ⟨1,0,0,wd,(x:Int)⟩ x).2:=by
 have hl:∀ c∈wd.data.toList,rT im.length c=true:=by
  have:=hv
  simp only [yN,Bool.and_eq_true,List.all_eq_true] at this;exact this.2
 have hlt:x < 2 ^ t.length:=by rw [e];exact Nat.pow_lt_pow_right (by omega) (jA hg _ _ hl (mP hg).1)
 refine ⟨h.i.add hlt rfl,?_⟩
 by_cases h0:ix.getD x 0=0
 ·rw [kA h0,e];exact h.d.word hg hv
 ·rw [lZ h0];exact h.d
theorem derS_nil (t:List (List Int)) (im:List Int):DerS t im [] (List.replicate (2 ^ t.length) 0):=⟨derI_nil _,Ders.nil⟩
end
def kI (no:List Nat) (s:StepV):StepV:=if s.op=1 then s else if s.op=2 then { s with a:=(no.getD s.a.toNat 0:Nat),b:=(no.getD s.b.toNat 0:Nat) } else { s with a:=(no.getD s.a.toNat 0:Nat) }
structure MarksOk (ss:List StepV) (bs:List Bool) (k:Nat):Prop where
 len:bs.length=ss.length
 last:bs.getD (ss.length - 1) false=true
 a:∀ i,k≤i→i < ss.length→bs.getD i false=true→(ss.getD i default).op≠1→bs.getD (ss.getD i default).a.toNat false=true
 b:∀ i,k≤i→i < ss.length→bs.getD i false=true→(ss.getD i default).op=2→bs.getD (ss.getD i default).b.toNat false=true
structure ListOk (t:List (List Int)) (im:List Int) (ss:List StepV) (bs:List Bool) (no:List Nat) (k:Nat) (l:List StepV):Prop where
 len:no.length=ss.length
 ok:sX t im l l.length
 le:l.length≤k
 nos:∀ i,i < k→bs.getD i false=true→no.getD i 0 < l.length∧(l.getD (no.getD i 0) default).set=(ss.getD i default).set∧(l.getD (no.getD i 0) default).word=(ss.getD i default).word
 wz:∀ i,i < l.length→(l.getD i default).word.size≤maxLen
 lastn:0 < k→bs.getD (k - 1) false=true→0 < l.length∧no.getD (k - 1) 0=l.length - 1
theorem ListOk.skip {t:List (List Int)} {im:List Int} {ss:List StepV} {bs:List Bool} {no:List Nat} {k:Nat} {l:List StepV} (h:ListOk t im ss bs no k l) (hb:bs.getD k false=false):ListOk t im ss bs no (k+1) l where
 len:=h.len
 ok:=h.ok
 le:=by have:=h.le;omega
 nos:=fun i hi hbi=>by
  rcases Nat.lt_succ_iff_lt_or_eq.1 hi with hi|rfl
  ·exact h.nos i hi hbi
  ·rw [hb] at hbi;cases hbi
 wz:=h.wz
 lastn:=fun _ h1=>by rw [Nat.add_sub_cancel,hb] at h1;cases h1
theorem ListOk.push {t:List (List Int)} {im:List Int} {ss:List StepV} {bs:List Bool} {no:List Nat} {k:Nat} {l:List StepV} (h:ListOk t im ss bs no k l) (hk:k < ss.length) (hb:bs.getD k false=true) (hm:MarksOk ss bs 0) (hs:tI t im ss k=true) (hw:(ss.getD k default).word.size≤maxLen):ListOk t im ss bs (no.set k l.length) (k+1) (l ++ [kI no (ss.getD k default)]):=by
 have hset:∀ s:StepV,(kI no s).set=s.set∧(kI no s).word=s.word∧(kI no s).op=s.op:=fun s=>by
  unfold kI;split <;> (try split) <;> simp
 refine ⟨by rw [List.length_set];exact h.len,fun i hi=>?_,by rw [List.length_append,List.length_singleton];have:=h.le;omega,fun i hi hbi=>?_,fun i hi=>?_,fun _ _=>⟨by simp,?_⟩⟩
 ·rw [List.length_append,List.length_singleton] at hi
  rcases Nat.lt_succ_iff_lt_or_eq.1 hi with hi|rfl
  ·exact bV hi (h.ok i hi)
  ·obtain ⟨st,est⟩:∃ st,st=ss.getD k default:=⟨_,rfl⟩
   have hop:=hset st
   rw [← est]
   by_cases h1:st.op=1
   ·have hs:=hs
    rw [oM est h1] at hs
    have e:kI no st=st:=by unfold kI;rw [if_pos h1]
    rw [oM (uS l _).symm (by rw [e];exact h1),e];exact hs
   by_cases h2:st.op=2
   ·have hs:=hs
    rw [qJ est h2] at hs
    simp only [Bool.and_eq_true,decide_eq_true_eq] at hs
    obtain ⟨⟨⟨s1,s2⟩,s3⟩,s4⟩:=hs
    have e:kI no st={ st with a:=(no.getD st.a.toNat 0:Nat),b:=(no.getD st.b.toNat 0:Nat) }:=by unfold kI;rw [if_neg h1,if_pos h2]
    have ba:=xY.1 s2
    have bb:=xY.1 s3
    have ma:bs.getD st.a.toNat false=true:=by rw [est];exact hm.a k (Nat.zero_le _) hk hb (by rw [← est];exact h1)
    have mb:bs.getD st.b.toNat false=true:=by rw [est];exact hm.b k (Nat.zero_le _) hk hb (by rw [← est];exact h2)
    obtain ⟨na,sa,_⟩:=h.nos _ (by omega) ma
    obtain ⟨nb,sb,_⟩:=h.nos _ (by omega) mb
    rw [qJ (uS l _).symm (by rw [e];exact h2),e]
    simp only [Bool.and_eq_true,decide_eq_true_eq,Int.toNat_natCast]
    refine ⟨⟨⟨s1,xY.2 ⟨by omega,by omega⟩⟩,xY.2 ⟨by omega,by omega⟩⟩,?_⟩
    rw [tO l _ na,tO l _ nb,sa,sb];exact s4
   by_cases h3:st.op=3
   ·have hs:=hs
    rw [lJ est h3] at hs
    simp only [Bool.and_eq_true,decide_eq_true_eq] at hs
    obtain ⟨⟨⟨s1,s2⟩,s3⟩,s4⟩:=hs
    have e:kI no st={ st with a:=(no.getD st.a.toNat 0:Nat) }:=by unfold kI;rw [if_neg h1,if_neg h2]
    have ba:=xY.1 s2
    have ma:bs.getD st.a.toNat false=true:=by rw [est];exact hm.a k (Nat.zero_le _) hk hb (by rw [← est];exact h1)
    obtain ⟨na,sa,_⟩:=h.nos _ (by omega) ma
    rw [lJ (uS l _).symm (by rw [e];exact h3),e]
    simp only [Bool.and_eq_true,decide_eq_true_eq,Int.toNat_natCast]
    refine ⟨⟨⟨s1,xY.2 ⟨by omega,by omega⟩⟩,s3⟩,?_⟩
    rw [tO l _ na,sa];exact s4
   ·rw [gM est h1 h2 h3] at hs;cases hs
 ·have hkn:k < no.length:=by rw [h.len];exact hk
  rw [List.length_append,List.length_singleton]
  rcases Nat.lt_succ_iff_lt_or_eq.1 hi with hi|rfl
  ·obtain ⟨a1,a2,a3⟩:=h.nos i hi hbi
   rw [getD_set_ne _ _ _ _ _ (by omega),tO l _ a1]
   exact ⟨by omega,a2,a3⟩
  ·rw [xK _ _ _ _ hkn,uS]
   exact ⟨by omega,(hset _).1,(hset _).2.1⟩
 ·rw [List.length_append,List.length_singleton] at hi
  rcases Nat.lt_succ_iff_lt_or_eq.1 hi with hi|rfl
  ·rw [tO l _ hi];exact h.wz i hi
  ·rw [uS,(hset _).2.1];exact hw
 ·rw [Nat.add_sub_cancel,xK _ _ _ _ (by rw [h.len];exact hk)];simp
end Go.Proofs.YtdjhoadoiknaoaaDoor
namespace Go.Proofs.YtdjhoadoiknaoaaDoor
open Go.RowKit
def DerF (C dp g go:Nat) (w:World) (k:Nat):Prop:=k=dp∨k=g∨k=go∨(C≤k∧∃ c m,w.heap[k]?=some (.cells c 60 m))
theorem iR {C dp g go:Nat} {w w' w'':World} (h:GrownBut w w' (DerF C dp g go w)) (k:GrownBut w' w'' (DerF C dp g go w')):GrownBut w w'' (DerF C dp g go w) where
 os:=k.os.trans h.os
 tape:=k.tape.trans h.tape
 output:=k.output.trans h.output
 size:=Nat.le_trans h.size k.size
 block:=fun j hj hf=>by
  have h1:=h.block j hj hf
  rw [← h1]
  refine k.block j (Nat.lt_of_lt_of_le hj h.size) fun hk=>hf ?_
  rcases hk with e|e|e|⟨hc,c,m,e⟩
  ·exact .inl e
  ·exact .inr (.inl e)
  ·exact .inr (.inr (.inl e))
  ·rw [h1] at e;exact .inr (.inr (.inr ⟨hc,c,m,e⟩))
theorem qDE {C dp g go:Nat} {w w':World} {row:Option Nat} (h:w.grownBy w' row) (hr:∀ k,row=some k→DerF C dp g go w k∨w.heap.size≤k):GrownBut w w' (DerF C dp g go w):=(GrownBut.refl w _).step h hr
structure DerAt (C:Nat) (w:World) (dp p g n:Nat) (ss:List StepV) (ix:List Nat):Prop where
 box:∃ sa sc,w.heap[dp]?=some (.cells #[.pointer (some ⟨p,0,none⟩),.slice sa ss.length sc,.slice (some ⟨g,0,none⟩) (2 ^ n) (2 ^ n)] 95 (0,0))∧w.ownsRow C 60 5 (.slice sa ss.length sc) ss.length (yI ss)
 arr:Arr w g 3 (nats ix)
 len:ix.length=2 ^ n
 lo:C≤dp∧C≤g
theorem DerAt.grown {C dp p g n:Nat} {w w':World} {ss:List StepV} {ix:List Nat} {row:Option Nat} (h:DerAt C w dp p g n ss ix) (hg:w.grownBy w' row) (hr:∀ k,row=some k→k < C):DerAt C w' dp p g n ss ix:=by
 obtain ⟨sa,sc,hb,ho⟩:=h.box
 have hk:∀ k,C≤k→row≠some k:=fun k hk e=>by have:=hr k e;omega
 exact ⟨⟨sa,sc,zE hb hg (hk _ h.lo.1),ho.kept hg (by
  rcases hv:(Value.slice sa ss.length sc).ownBlock with _|k
  ·exact .inl rfl
  ·exact .inr (by have:=(ho.lt k hv).1;exact fun e=>hk k this e.symm))⟩,h.arr.kept hg (hk _ h.lo.2),h.len,h.lo⟩
def DAddOk (C:Nat) (w:World) (dp p g n:Nat) (ss:List StepV) (ix:List Nat) (st:StepV) (x:Nat) (e:Ending) (w':World):Prop :=
 e=.returned (.tuple #[])∧DerAt C w' dp p g n (addS ss ix st x).1 (addS ss ix st x).2∧GrownBut w w' (DerF C dp g dp w)
theorem derF_below {C dp g : Nat} {w w' : World} (h : GrownBut w w' (DerF C dp g dp w)) (h1 : C ≤ dp) (h2 : C ≤ g) (h3 : C ≤ w.heap.size) : Below C w w' :=
 ⟨h.os, h.tape, h.output, h.size, fun k hk => h.block k (by omega) (fun hf => by
  rcases hf with e | e | e | ⟨e, _⟩ <;> omega)⟩
theorem GrownBut.weak {w w':World} {F G:Nat→Prop} (h:GrownBut w w' F) (hFG:∀ k,F k→G k):GrownBut w w' G:=⟨h.os,h.tape,h.output,h.size,fun k hk hn=>h.block k hk (fun hf=>hn (hFG k hf))⟩
theorem derF_go {C dp g go:Nat} {w:World} {k:Nat} (h:DerF C dp g dp w k):DerF C dp g go w k:=by
 rcases h with e|e|e|e
 ·exact .inl e
 ·exact .inr (.inl e)
 ·exact .inl e
 ·exact .inr (.inr (.inr e))
theorem uJ {w:World} {p e:Nat} {x0 x1 x2:Value} (h:w.heap[p]?=some (.cells #[x0,x1,x2] e (0,0))):w.cell? ⟨p,0,none⟩=some x0∧w.cell? ⟨p,1,none⟩=some x1∧w.cell? ⟨p,2,none⟩=some x2:=by
 have c0:=zI h 0 (by simp)
 have c1:=zI h 1 (by simp)
 have c2:=zI h 2 (by simp)
 exact ⟨by simpa using c0,by simpa using c1,by simpa using c2⟩
structure DAft (C:Nat) (w W9:World) (dp p g o N:Nat) (ss:List StepV) (ix:List Nat) (st:StepV) (sa8:Option Addr) (sc8:Nat):Prop where
 box:W9.heap[dp]?=some (.cells #[.pointer (some ⟨p,0,none⟩),.slice sa8 (ss.length+1) sc8,.slice (some ⟨g,0,none⟩) N N] 95 (0,0))
 own:W9.ownsRow C 60 5 (.slice sa8 (ss.length+1) sc8) (ss.length+1) (yI (ss ++ [st]))
 arr:Arr W9 g 3 (nats ix)
 st_:W9.heap[o]?=some (.cells #[.int .i64 st.op,.int .i64 st.a,.int .i64 st.b,.string st.word,.int .i64 st.set] 60 (0,0))
 but:GrownBut w W9 (DerF C dp g dp w)
theorem daft {C:Nat} {w wb W W8:World} {dp p g o N:Nat} {ss:List StepV} {ix:List Nat} {st:StepV} {sa sa8:Option Addr} {sc sc8:Nat} (hw:w.grownBy wb none)
  (hb:wb.heap[dp]?=some (.cells #[.pointer (some ⟨p,0,none⟩),.slice sa ss.length sc,.slice (some ⟨g,0,none⟩) N N] 95 (0,0)))
  (ho:w.ownsRow C 60 5 (.slice sa ss.length sc) ss.length (yI ss)) (ha:Arr wb g 3 (nats ix)) (ho1:w.heap.size≤o)
  (hs:wb.heap[o]?=some (.cells #[.int .i64 st.op,.int .i64 st.a,.int .i64 st.b,.string st.word,.int .i64 st.set] 60 (0,0)))
  (h8:W.grownBy W8 (Value.slice sa ss.length sc).ownBlock) (h7:wb.grownBy W none) (hown:W8.ownsRow C 60 5 (.slice sa8 (ss.length+1) sc8) (ss.length+1) (yI ss ++ st.vals)) :
  DAft C w (W8.setCell ⟨dp,1,none⟩ (.slice sa8 (ss.length+1) sc8)) dp p g o N ss ix st sa8 sc8:=by
 have hoW:=xH (xH ho hw) h7
 have hbW:=zE hb h7 (by simp)
 have hb8:=zE hbW h8 (zS hoW hbW (by decide))
 have ha7:=ha.kept h7 (by simp)
 have ha8:=ha7.kept h8 (by
  obtain ⟨cur,rest,hh,_⟩:=ha7
  exact zS hoW hh (by decide))
 have hdg:g≠dp:=ha8.type_ne hb8 (by decide)
 have hsl:=zQ hs
 have hno:(Value.slice sa ss.length sc).ownBlock≠some o:=fun e=>by
  have:=(ho.lt o e).2;omega
 have hs8:=zE (zE hs h7 (by simp)) h8 hno
 have hgs:=zH W8 ⟨dp,1,none⟩ (.slice sa8 (ss.length+1) sc8)
 have hod:o≠dp:=by
  rintro rfl
  rw [hs] at hb
  simp at hb
 refine ⟨heap_setCell_same W8 dp 1 _ _ _ hb8,?_,ha8.kept hgs (fun e=>hdg (Oj e).symm),zE hs8 hgs (fun e=>hod (Oj e).symm),?_⟩
 ·rw [qF]
  exact hown.kept hgs (.inr (zS hown hb8 (by decide)))
 ·refine ((((GrownBut.refl w _).step hw (by simp)).step h7 (by simp)).step h8 fun k hk=>?_).step hgs fun k hk=>.inl (.inl (Oj hk).symm)
  rcases ho.2 with ⟨e,_⟩|⟨gg,cap,cur,e,hc,hg,_⟩
  ·simp only [Value.slice.injEq] at e
   obtain ⟨rfl,_,_⟩:=e
   simp [Value.ownBlock] at hk
  ·rw [e] at hk
   have hk:gg=k:=by simpa [Value.ownBlock] using hk
   subst hk
   exact .inl (.inr (.inr (.inr ⟨hc,_,_,hg⟩)))
set_option maxRecDepth 100000 in
set_option maxHeartbeats 1000000 in
theorem fD (C:Nat) (w:World) (dp p g n:Nat) (ss:List StepV) (ix:List Nat) (st:StepV) (x:Nat) (h:DerAt C w dp p g n ss ix) (hle:ss.length≤4096) (hx:x < 2 ^ n) (e:st.set=(x:Int)) (hn:n≤12) (hC:C≤w.heap.size) :
  Calls Tryd.prog 100 #[.pointer (some ⟨dp,0,none⟩),.agg #[.int .i64 st.op,.int .i64 st.a,.int .i64 st.b,.string st.word,.int .i64 st.set]] w (DAddOk C w dp p g n ss ix st x):=by
 obtain ⟨op,sa0,sb0,wd,set0⟩:=st
 have e:set0=(x:Int):=e
 subst e
 have hlo:=h.lo
 have hlen:=h.len
 obtain ⟨sa,sc,hbx,how⟩:=h.box
 have harr:=h.arr
 obtain ⟨N,hN⟩:∃ N,N=2 ^ n:=⟨_,rfl⟩
 have hN4:N≤4096:=by have:=uR hn;omega
 rw [← hN] at hbx hlen hx
 have hdl:=zQ hbx
 have hgl:=harr.lt
 obtain ⟨wb,hwb⟩:∃ W,W=w.alloc (.cells #[.int .i64 op,.int .i64 sa0,.int .i64 sb0,.string wd,.int .i64 (x:Int)] 60):=⟨_,rfl⟩
 have hgb:w.grownBy wb none:=by rw [hwb];exact Ga w _ none
 have hbb:=heap_alloc_new w (.cells #[.int .i64 op,.int .i64 sa0,.int .i64 sb0,.string wd,.int .i64 (x:Int)] 60)
 rw [← hwb] at hbb
 obtain ⟨o,ho⟩:∃ o,o=w.heap.size:=⟨_,rfl⟩
 rw [← ho] at hbb
 have hop:C≤o:=by omega
 have hzb:=hgb.size
 have hbx1:=zE hbx hgb (by simp)
 have harr1:=harr.kept hgb (by simp)
 have how1:=xH how hgb
 have HWB:=Kh hwb;have HO:=Kh ho;have HN:=Kh hN;have HLEN:=Kh hlen
 have HOW0:=Kh how;have HBX:=Kh hbx1;have HARR:=Kh harr1;have HOW:=Kh how1;have HBB:=Kh hbb;have HGB:=Kh hgb
 have H:=Kh h
 clear hwb ho hN hbx harr how h hgb
 obtain ⟨d0,d1,d2⟩:=uJ hbx1
 obtain ⟨b0,b1,b2,b3,b4⟩:=wR hbb
 have hx':(x:Int) < N:=by omega
 have cx:=harr1.nat x (by rw [hlen];exact hx)
 obtain ⟨X,hX⟩:∃ X,X=ix.getD x 0:=⟨_,rfl⟩
 rw [← hX] at cx
 have HX:=Kh hX
 obtain ⟨z5,by5,hE5,hby5⟩:=eM
 have HE5:=Kh hE5
 have HOL:Hid (∀ W:World,wb.grownBy W none→W.ownsRow C 60 5 (.slice sa ss.length sc) ss.length (yI ss)):=Kh (fun W hW=>xH how1 hW)
 have HB8:Hid (∀ W W8:World,W.grownBy W8 (Value.slice sa ss.length sc).ownBlock→wb.grownBy W none→W8.heap[dp]?=some (.cells #[.pointer (some ⟨p,0,none⟩),.slice sa ss.length sc,.slice (some ⟨g,0,none⟩) N N] 95 (0,0))∧W8.grownBy W8 none):=Kh (fun W W8 h1 h2=>by
  have hb7:=zE HBX.out h2 (by simp)
  exact ⟨zE hb7 h1 (zS (HOL.out _ h2) hb7 (by decide)),zW _ _⟩)
 have hbyn:(ss.length+1) * by5≤4097 * 64:=Nat.mul_le_mul (by omega) hby5
 clear hX hbx1 harr1 how1 hbb hlen hE5 hby5
 go_enter Tryd.func100,Tryd.ntmps100
 go_upto_region 1 with fail
 rw [← HWB.out,← HO.out]
 by_cases hz:X=0
 ·have hzd:((X:Int) == 0)=true:=by rw [hz];rfl
  have HZ:Hid (ix.getD x 0=0):=Kh (by rw [← HX.out];exact hz)
  clear hz
  go_quiet (fail)
  go_wp2
  have d1q:=(uJ (zE HBX.out (yA (zJ wb (nq+1) none) (.cells #[.int .i64 op,.int .i64 sa0,.int .i64 sb0,.string wd,.int .i64 (x:Int)] 60)) (by simp))).2.1
  go_region_law (first|(refine step_app5 rfl (.tmp 17) (.tmp 19) 56 rfl HE5.out C _ ss.length (yI ss) rfl (HOL.out _ (yA (zJ wb _ none) _)) ⟨op,sa0,sb0,wd,(x:Int)⟩ wb.heap.size rfl (0,0) (heap_alloc_new (wb.drewN _) _) ?g1 ?g2 ?g3 ?_;(case g1=>(unfold maxLen;omega));(case g2=>omega);(case g3=>(simp;omega));intro sa8 sc8 w8 hown8 hg8;have hbx8:=(HB8.out _ _ hg8 (yA (zJ wb _ none) _)).1;have d81:=(uJ hbx8).2.1;have f81:=zD hbx8 1)|fail)
  all_goals
   have hA:=daft (ss:=ss) (st:=⟨op,sa0,sb0,wd,(x:Int)⟩) HGB.out HBX.out HOW0.out HARR.out (Nat.le_of_eq HO.out.symm) HBB.out hg8 (yA (zJ wb _ none) _) hown8
   obtain ⟨w9,hw9⟩:∃ w9,w9=w8.setCell ⟨dp,1,none⟩ (.slice sa8 (ss.length+1) sc8):=⟨_,rfl⟩
   rw [← hw9] at hA ⊢
   have HA:=Kh hA
   have hcs:=uJ hA.box
   have p1:=hcs.2.1;have p2:=hcs.2.2
   have pc:=(wR hA.st_).2.2.2.2
   have pg:=hA.arr.nat x (by rw [HLEN.out];exact hx)
   have pf:=hA.arr.frozen x
   clear hA hw9 hown8 hg8 hcs d1q d0 d1 d2 b0 b1 b2 b3 b4 cx hbx8 d81 f81
   go_upto_region 3 with fail
   go_still_tail 12,(by kernel_rfl)
   all_goals
    go_wp2
    go_end0
    have hc1:((ss.length+1:Nat):Int)=(ss.length:Int)+1:=by omega
    have hgs:w9.grownBy (w9.setCell ⟨g,x,none⟩ (.int .i64 ((ss.length:Int)+1))).drew (some g):=zF (zH w9 ⟨g,x,none⟩ (.int .i64 ((ss.length:Int)+1))) (zT _ _)
    have hset:=HA.out.arr.nat_set x (by rw [HLEN.out];exact hx) (ss.length+1)
    rw [hc1] at hset
    replace hset:=hset.kept (zT _ none) (by simp)
    have hgd:=HA.out.arr.type_ne HA.out.box (by decide)
    refine ⟨rfl,?_,HA.out.but.step hgs fun k hk=>.inl (.inr (.inl (Oj hk).symm))⟩
    rw [kA HZ.out]
    refine ⟨⟨sa8,sc8,?_,?_⟩,hset,by rw [List.length_set,HLEN.out,HN.out],hlo⟩
    ·rw [List.length_append,List.length_singleton,← HN.out]
     exact zE HA.out.box hgs (fun e=>hgd (Oj e))
    ·rw [List.length_append,List.length_singleton]
     refine HA.out.own.kept hgs (.inr ?_)
     obtain ⟨cur,rest,hh,_⟩:=HA.out.arr
     exact zS HA.out.own hh (by decide)
 ·have hzd:((X:Int) == 0)=false:=by rw [beq_eq_false_iff_ne];omega
  have HZ:Hid (ix.getD x 0≠0):=Kh (by rw [← HX.out];exact hz)
  clear hz
  go_quiet (fail)
  go_wp2
  go_end0
  refine ⟨rfl,?_,(qDE HGB.out (by simp)).step (zJ wb _ none) (by simp)⟩
  rw [lZ HZ.out]
  exact (H.out.grown HGB.out (by simp)).grown (zJ wb _ none) (by simp)
theorem Arr.but {w w':World} {F:Nat→Prop} {k e:Nat} {xs:List Value} (h:Arr w k e xs) (hg:GrownBut w w' F) (hn:¬ F k):Arr w' k e xs:=by
 obtain ⟨cur,rest,h1,h2⟩:=h
 exact ⟨cur,rest,hg.heap h1 hn,h2⟩
structure FamRow (w:World) (dp g go kb:Nat) (l:List Nat):Prop where
 arr:Arr w kb 3 (nats l)
 nd:kb≠dp
 ng:kb≠g
 no:kb≠go
theorem FamRow.but {C dp g go kb : Nat} {w w' : World} {l : List Nat} (h : FamRow w dp g go kb l) (hg : GrownBut w w' (DerF C dp g go w)) : FamRow w' dp g go kb l :=
 ⟨h.arr.but hg (fun hf => by
  rcases hf with e | e | e | ⟨_, c, m, e⟩
  ·exact h.nd e
  ·exact h.ng e
  ·exact h.no e
  ·obtain ⟨cur, rest, h1, _⟩ := h.arr
   rw [h1] at e
   simp only [Option.some.injEq, Obj.cells.injEq] at e
   exact absurd e.2.1 (by decide)), h.nd, h.ng, h.no⟩
structure DState (F C:Nat) (w0 w:World) (p go dp g:Nat) (t:List (List Int)) (im:List Int) (ix0:List Nat) (ss:List StepV) (ix:List Nat):Prop where
 sets:vD F C w p go t.length (entN t)
 der:DerAt C w dp p g t.length ss ix
 ok:DerS t im ss ix
 le:IxLe ix0 ix
 but:GrownBut w0 w (DerF C dp g go w0)
 tab:TabOk w
 sz:C≤w.heap.size
section
variable {F C p go dp g:Nat} {w0 w w':World} {t:List (List Int)} {im:List Int} {ix0 ix:List Nat} {ss:List StepV}
theorem DState.quiet (h:DState F C w0 w p go dp g t im ix0 ss ix) (hg:w.grownBy w' none):DState F C w0 w' p go dp g t im ix0 ss ix where
 sets:=h.sets.kept hg (by simp)
 der:=h.der.grown hg (by simp)
 ok:=h.ok
 le:=h.le
 but:=h.but.step hg (by simp)
 tab:=h.tab.kept hg (by simp)
 sz:=Nat.le_trans h.sz hg.size
theorem DState.goes (h:DState F C w0 w p go dp g t im ix0 ss ix) (hs:vD F C w' p go t.length (entN t)) (hg:w.grownBy w' (some go)) (htF:1 < F):DState F C w0 w' p go dp g t im ix0 ss ix where
 sets:=hs
 der:=h.der.grown hg (fun k e=>by have e:go=k:=Oj e;have:=h.sets.go_lt';omega)
 ok:=h.ok
 le:=h.le
 but:=h.but.step hg (fun k e=>.inl (.inr (.inr (.inl (Oj e).symm))))
 tab:=h.tab.kept hg (fun e=>by have e:go=1:=Oj e;have:=h.sets.go_lt';omega)
 sz:=Nat.le_trans h.sz hg.size
theorem DState.add {st:StepV} {x:Nat} {e:Ending} (h:DState F C w0 w p go dp g t im ix0 ss ix) (ha:DAddOk C w dp p g t.length ss ix st x e w') (hd:DerS t im (addS ss ix st x).1 (addS ss ix st x).2) (hx:x < 2 ^ t.length) (hFC:F≤C) (htF:1 < F):DState F C w0 w' p go dp g t im ix0 (addS ss ix st x).1 (addS ss ix st x).2:=by
 obtain ⟨_,h1,h2⟩:=ha
 have hb:=derF_below h2 h.der.lo.1 h.der.lo.2 h.sz
 exact ⟨h.sets.below hb (Nat.le_refl _),h1,hd,h.le.trans (eW h.ok.i hx).1,iR h.but (h2.weak fun k=>derF_go),h.tab.below hb (by omega),Nat.le_trans h.sz h2.size⟩
end
def gH (t:List (List Int)) (l:List Nat) (ix:List Nat) (k:Nat):Prop:=∀ i,i < k→(∀ j,j < l.length→ix.getD (zU t.length (entN t) (l.getD i 0) (l.getD j 0)) 0≠0)∧ix.getD (yM t.length (entN t) (l.getD i 0)) 0≠0
def qDM (t:List (List Int)) (l:List Nat) (ix:List Nat) (i m:Nat):Prop:=∀ j,j < m→ix.getD (zU t.length (entN t) (l.getD i 0) (l.getD j 0)) 0≠0
theorem gH.le {t:List (List Int)} {l ix ix':List Nat} {k:Nat} (h:gH t l ix k) (hl:IxLe ix ix'):gH t l ix' k:=fun i hi=>⟨fun j hj=>hl.ne ((h i hi).1 j hj),hl.ne (h i hi).2⟩
theorem qDM.le {t:List (List Int)} {l ix ix':List Nat} {i m:Nat} (h:qDM t l ix i m) (hl:IxLe ix ix'):qDM t l ix' i m:=fun j hj=>hl.ne (h j hj)
def DRoundOk (F C:Nat) (w:World) (p go dp g:Nat) (t:List (List Int)) (im:List Int) (ix:List Nat) (l:List Nat) (e:Ending) (w':World):Prop :=
 e=.returned (.tuple #[])∧∃ ss' ix',DState F C w w' p go dp g t im ix ss' ix'∧gH t l ix' l.length
set_option maxRecDepth 100000 in
set_option maxHeartbeats 1000000 in
theorem dround_any (F C:Nat) (w:World) (p go dp g kb cap:Nat) (t:List (List Int)) (im:List Int) (ss:List StepV) (ix l:List Nat) (hst:DState F C w w p go dp g t im ix ss ix) (hgd:Good t im) (hfr:FamRow w dp g go kb l) (hl:∀ a∈l,a < 2 ^ t.length∧ix.getD a 0≠0) (hll:l.length≤4096) (hFC:F≤C) (htF:1 < F) :
  Calls Tryd.prog 78 #[.pointer (some ⟨dp,0,none⟩),.slice (some ⟨kb,0,none⟩) l.length cap] w (DRoundOk F C w p go dp g t im ix l):=by
 have hn:=hgd.le
 have HGD:=Kh hgd;have HL:=Kh hl;have HST:=Kh hst;have HFR:=Kh hfr;have HTB:=Kh (oK hgd.valid)
 obtain ⟨N,hN⟩:∃ N,N=2 ^ t.length:=⟨_,rfl⟩
 have HN:=Kh hN
 have hN4:N≤4096:=by have:=uR hn;omega
 clear hgd hl hst hfr hN
 go_enter Tryd.func78,Tryd.ntmps78
 go_wp2
 go_loopg [11] l.length (fun gh i wr=>∃ (k:Nat) (ss:List StepV) (ix':List Nat),gh+k=l.length∧i=.int .i64 k∧Hid (DState F C w wr p go dp g t im ix ss ix')∧Hid (gH t l ix' k))
 case atStart=>exact ⟨0,ss,ix,rfl,rfl,HST,Kh (fun i hi=>absurd hi (by omega))⟩
 case round =>
  clear HST
  obtain ⟨k,ss,ix',hgh,rfl,HS,HP⟩:=hrel
  have HGH:=Kh hgh
  clear hgh
  by_cases hk:¬ k < l.length
  ·have hk':¬ (k:Int) < l.length:=by omega
   have HE:Hid (k=l.length):=Kh (by have:=HGH.out;omega)
   go_wp2
   go_end0
   exact ⟨rfl,ss,ix',HS.out,by rw [← HE.out];exact HP.out⟩
  replace hk:k < l.length:=by omega
  have hk':(k:Int) < l.length:=by omega
  have hfr:=HFR.out.but HS.out.but
  have ck:=hfr.arr.nat k hk
  obtain ⟨a,ha⟩:∃ a,a=l.getD k 0:=⟨_,rfl⟩
  obtain ⟨haN,ha0⟩:=HL.out a (by rw [ha];exact pE hk)
  rw [← ha] at ck
  rw [← HN.out] at haN
  have haX:=HS.out.le a ha0
  have haN':(a:Int) < N:=by omega
  obtain ⟨sa,sc,hbx,how⟩:=HS.out.der.box
  rw [← HN.out] at hbx
  obtain ⟨d0,d1,d2⟩:=uJ hbx
  have cx:=HS.out.der.arr.nat a (by rw [HS.out.der.len,← HN.out];exact haN)
  obtain ⟨A,hA⟩:∃ A,A=ix'.getD a 0:=⟨_,rfl⟩
  rw [← hA] at cx
  have hAS:=HS.out.ok.at_set (x:=a) (by rw [← HN.out];exact haN) (by rw [haX];exact ha0)
  have hle:=HS.out.ok.i.le
  rw [← HN.out] at hle
  have hA1:1≤A:=by rw [hA,haX];omega
  have hA2:A≤4096:=by rw [hA];omega
  have HA:=Kh hA;have HAK:=Kh ha;have HA0:=Kh ha0
  have HA1:Hid (((A - 1:Nat):Int)=(A:Int) - 1):=Kh (by omega)
  clear hfr ha ha0 haX hbx how hA hAS hle
  go_wp2
  clear ck cx d0 d1 d2
  obtain ⟨wk,hwk⟩:∃ wk:World,wk=wr:=⟨_,rfl⟩
  have HWK:=Kh hwk
  clear hwk
  go_loopg [25] l.length (fun gj i wr=>∃ (j:Nat) (ss:List StepV) (ix':List Nat),gj+j=l.length∧i=.int .i64 j∧Hid (DState F C w wr p go dp g t im ix ss ix')∧Hid (gH t l ix' k)∧Hid (qDM t l ix' k j)∧Hid (ix'.getD a 0=A))
  case atStart=>exact ⟨0,ss,ix',rfl,rfl,HS,HP,Kh (fun j hj=>absurd hj (by omega)),Kh HA.out.symm⟩
  case round =>
   clear HS HP HA HWK
   obtain ⟨j,ss,ix',hgj,rfl,HS,HP,HR,HA⟩:=hrel
   have HGJ:=Kh hgj
   clear hgj
   obtain ⟨sa,sc,hbx,how⟩:=HS.out.der.box
   rw [← HN.out] at hbx
   obtain ⟨d0,d1,d2⟩:=uJ hbx
   have HBX:=Kh hbx
   by_cases hj:j < l.length
   ·have hj':(j:Int) < l.length:=by omega
    have hfr:=HFR.out.but HS.out.but
    have cj:=hfr.arr.nat j hj
    obtain ⟨b,hb⟩:∃ b,b=l.getD j 0:=⟨_,rfl⟩
    obtain ⟨hbN,hb0⟩:=HL.out b (by rw [hb];exact pE hj)
    rw [← hb] at cj
    rw [← HN.out] at hbN
    have hbX:=HS.out.le b hb0
    have hbN':(b:Int) < N:=by omega
    have cx:=HS.out.der.arr.nat b (by rw [HS.out.der.len,← HN.out];exact hbN)
    obtain ⟨X,hX⟩:∃ X,X=ix'.getD b 0:=⟨_,rfl⟩
    rw [← hX] at cx
    have hXS:=HS.out.ok.at_set (x:=b) (by rw [← HN.out];exact hbN) (by rw [hbX];exact hb0)
    have hle:=HS.out.ok.i.le
    rw [← HN.out] at hle
    have hX1:1≤X:=by rw [hX,hbX];omega
    have hX2:X≤4096:=by rw [hX];omega
    have HX:=Kh hX;have HBJ:=Kh hb;have HB0:=Kh hb0;have HLE:=Kh hle
    obtain ⟨X1,hX1e⟩:∃ X1,X1=X - 1:=⟨_,rfl⟩
    have hwX:IntKind.i64.wrap ((X:Int) - 1)=(X1:Int):=by rw [IntWalk.i64_in _ (by omega)];omega
    have HX1:=Kh hX1e
    clear hX1e
    obtain ⟨P,hP⟩:∃ P,P=zU t.length (entN t) a b:=⟨_,rfl⟩
    have HP_:=Kh hP
    have hPN:P < N:=by rw [hP,HN.out];exact wP HTB.out.lt _ _
    have HCP:Hid (∀ W:World,wr.grownBy W none→Calls Tryd.prog 53 #[.pointer (some ⟨p,0,none⟩),.int .i64 (a:Int),.int .i64 (b:Int)] W fun e w'=>e=.returned (.int .i64 (P:Int))∧wr.grownBy w' none):=Kh (fun W hW=>by
     have h1:=HS.out.quiet hW
     refine (qX F C W p go t.length (entN t) a b h1.sets HTB.out.lt hn (by rw [← HN.out];exact haN) (by rw [← HN.out];exact hbN) h1.tab).mono ?_
     rintro e w' ⟨rfl,m,rfl⟩
     exact ⟨by rw [hP],zG hW (zJ W m none) (by simp)⟩)
    have HCA:Hid (∀ W:World,wr.grownBy W none→Calls Tryd.prog 100 #[.pointer (some ⟨dp,0,none⟩),.agg #[.int .i64 2,.int .i64 ((A:Int) - 1),.int .i64 (X1:Int),.string ⟨#[]⟩,.int .i64 (P:Int)]] W fun e w'=>e=.returned (.tuple #[])∧∃ ss2 ix2,DState F C w w' p go dp g t im ix ss2 ix2∧IxLe ix' ix2∧ix2.getD P 0≠0):=Kh (fun W hW=>by
     have h1:=HS.out.quiet hW
     refine (fD C W dp p g t.length ss ix' ⟨2,((A:Int) - 1),(X1:Int),⟨#[]⟩,(P:Int)⟩ P h1.der (by omega) (by rw [← HN.out];exact hPN) rfl hn h1.sz).mono ?_
     intro e w' h2
     have h3:=h1.ok.product HGD.out (a:=a) (b:=b) (by rw [← HN.out];exact haN) (by rw [← HN.out];exact hbN) (by rw [HA.out];omega) (by rw [← HX.out];omega)
     rw [← HP_.out,HA.out,← HX.out,HA1.out,← HX1.out] at h3
     have h4:=eW (st:=⟨2,((A:Int) - 1),(X1:Int),⟨#[]⟩,(P:Int)⟩) h1.ok.i (x:=P) (by rw [← HN.out];exact hPN)
     exact ⟨h2.1,_,_,h1.add h2 h3 (by rw [← HN.out];exact hPN) hFC htF,h4.1,h4.2⟩)
    have GA:wr.grownBy wr.drew none:=zT _ _
    have HCB:Hid (∀ W ss2 ix2,DState F C w W p go dp g t im ix ss2 ix2→IxLe ix' ix2→W.cell? ⟨dp,0,none⟩=some (.pointer (some ⟨p,0,none⟩))∧W.cell? ⟨dp,2,none⟩=some (.slice (some ⟨g,0,none⟩) N N)∧W.cell? ⟨g,b,none⟩=some (.int .i64 (X:Int))):=Kh (fun W ss2 ix2 h1 h2=>by
     obtain ⟨sa2,sc2,hb2,_⟩:=h1.der.box
     rw [← HN.out] at hb2
     obtain ⟨e0,_,e2⟩:=uJ hb2
     have e3:=h1.der.arr.nat b (by rw [h1.der.len,← HN.out];exact hbN)
     rw [h2 b (by rw [← HX.out];omega),← HX.out] at e3
     exact ⟨e0,e2,e3⟩)
    clear hfr hb hb0 hbX hX hXS hle hP hbx how
    go_wp2
    go_region_held3 (fun W=>W.cell? ⟨dp,0,none⟩=some (.pointer (some ⟨p,0,none⟩))∧W.cell? ⟨dp,2,none⟩=some (.slice (some ⟨g,0,none⟩) N N)∧W.cell? ⟨g,b,none⟩=some (.int .i64 (X:Int)))
     (first|go_keep|exact HCB.out _ _ _ (HS.out.quiet hG7) (IxLe.refl _)|exact HCB.out _ _ _ hD8 hL8|fail)
     (first|(go_at_call 53;(with_reducible refine (HCP.out _ GA).mono ?_);rintro e w7 ⟨rfl,hG7⟩)|(go_at_call 100;(with_reducible refine (HCA.out _ hG7).mono ?_);rintro e w8 ⟨rfl,ss2,ix2,hD8,hL8,hP8⟩)|fail)
    have HD8:=Kh hD8
    have HP8:Hid (gH t l ix2 k):=Kh (HP.out.le hL8)
    have HR8:Hid (qDM t l ix2 k (j+1)):=Kh (fun i hi=>by
     rcases Nat.lt_succ_iff_lt_or_eq.1 hi with hi|rfl
     ·exact hL8.ne (HR.out i hi)
     ·rw [← HAK.out,← HBJ.out,← HP_.out];exact hP8)
    have HA8:Hid (ix2.getD a 0=A):=Kh (by rw [hL8 a (by rw [HA.out];omega)];exact HA.out)
    clear hD8 hL8 hP8 hG7 GA cj cx d0 d1 d2 hwX
    go_wp2
    go_roundg (l.length - (j+1))
    case measure=>have:=HGJ.out;omega
    case rel=>exact ⟨j+1,ss2,ix2,by have:=HGJ.out;omega,by go_num,HD8,HP8,HR8,HA8⟩
   ·have hj':¬ (j:Int) < l.length:=by omega
    have HE:Hid (j=l.length):=Kh (by have:=HGJ.out;omega)
    obtain ⟨P,hP⟩:∃ P,P=yM t.length (entN t) a:=⟨_,rfl⟩
    have HP_:=Kh hP
    have hPN:P < N:=by rw [hP,HN.out];exact tR HTB.out (by rw [← HN.out];exact haN)
    have hle:=HS.out.ok.i.le
    rw [← HN.out] at hle
    clear hbx how hP
    go_wp2_with fail
    refine (jI F C wr p go t.length (entN t) a HS.out.sets HTB.out hn (by rw [← HN.out];exact haN) HS.out.tab).mono ?_
    rintro e w4 ⟨rfl,hs4,hg4⟩
    rw [← HP_.out]
    have HD4:=Kh (HS.out.goes hs4 hg4 htF)
    clear hs4 hg4 d0 d1 d2
    go_wp2_with fail
    refine (fD C w4 dp p g t.length ss ix' ⟨3,((A:Int) - 1),0,⟨#[]⟩,(P:Int)⟩ P HD4.out.der (by omega) (by rw [← HN.out];exact hPN) rfl hn HD4.out.sz).mono ?_
    intro e w5 h2
    obtain rfl:=h2.1
    have h3:=HD4.out.ok.omega HGD.out (a:=a) (by rw [← HN.out];exact haN) (by rw [HA.out];omega)
    rw [← HP_.out,HA.out,HA1.out] at h3
    have h4:=eW (st:=⟨3,((A:Int) - 1),0,⟨#[]⟩,(P:Int)⟩) HD4.out.ok.i (x:=P) (by rw [← HN.out];exact hPN)
    have HD5:=Kh (HD4.out.add h2 h3 (by rw [← HN.out];exact hPN) hFC htF)
    have HP5:Hid (gH t l (addS ss ix' ⟨3,((A:Int) - 1),0,⟨#[]⟩,(P:Int)⟩ P).2 (k+1)):=Kh (fun i hi=>by
     rcases Nat.lt_succ_iff_lt_or_eq.1 hi with hi|rfl
     ·exact (HP.out.le h4.1) i hi
     ·refine ⟨fun j hj=>h4.1.ne (HR.out j (by rw [HE.out];exact hj)),?_⟩
      rw [← HAK.out,← HP_.out];exact h4.2)
    clear h2 h3 h4
    go_wp2
    go_roundg (l.length - (k+1))
    case measure=>have:=HGH.out;omega
    case rel=>exact ⟨k+1,_,_,by have:=HGH.out;omega,by go_num,HD5,HP5⟩
theorem letter_word {t:List (List Int)} {im:List Int} (hg:Good t im) {j:Nat} (hj:j < im.length):yN (strOfNums [97+(j:Int)]) im.length=true∧oJ t im (oneN t) (strOfNums [97+(j:Int)]).data.toList=(im.getD j 0).toNat:=by
 have h0:=hg.im0
 have h6:=hg.im6
 have hd:(strOfNums [97+(j:Int)]).data.toList=[UInt8.ofNat (97+j)]:=by
  rw [strOfNums_data]
  simp only [List.map_cons,List.map_nil,List.cons.injEq,and_true]
  congr 1
 have hb:(UInt8.ofNat (97+j)).toNat=97+j:=by
  simp;omega
 refine ⟨?_,?_⟩
 ·unfold yN
  rw [hd,strOfNums_size]
  simp only [List.all_cons,List.all_nil,Bool.and_true,Bool.and_eq_true,decide_eq_true_eq,rT,hb,List.length_cons,List.length_nil]
  omega
 ·rw [hd]
  show entN t (oneN t) (im.getD ((UInt8.ofNat (97+j)).toNat - 97) 0).toNat=_
  rw [hb,Nat.add_sub_cancel_left]
  have hin:=qB.1 hg.inb j hj
  obtain ⟨e,he,hel,hid⟩:=hg.ident
  have e1:oneN t=e:=by unfold oneN;rw [he];rfl
  rw [e1]
  have:=List.all_eq_true.1 hid (im.getD j 0).toNat (List.mem_range.2 (by omega))
  simp [idAt] at this
  exact this.1
theorem word_nil {t:List (List Int)} {im:List Int} (hg:Good t im):yN ⟨#[]⟩ im.length=true∧oJ t im (oneN t) (⟨#[]⟩:ByteArray).data.toList=oneN t:=by
 have h0:=hg.im0
 have h6:=hg.im6
 refine ⟨?_,rfl⟩
 unfold yN
 simp [ByteArray.size]
 omega
def DBeginOk (F C:Nat) (w:World) (p go dp g:Nat) (t:List (List Int)) (im:List Int) (ix:List Nat) (e:Ending) (w':World):Prop :=
 e=.returned (.tuple #[])∧∃ ss' ix',DState F C w w' p go dp g t im ix ss' ix'∧∀ j,j < (genL t im).length→ix'.getD ((genL t im).getD j 0) 0≠0
theorem genL_get {t:List (List Int)} {im:List Int} {j:Nat} (hj:j < im.length):(genL t im).getD (j+1) 0=2 ^ (im.getD j 0).toNat:=by
 unfold genL
 rw [List.getD_cons_succ,uF (x:=0) hj]
set_option maxRecDepth 100000 in
set_option maxHeartbeats 1000000 in
theorem dbegin_any (F C B:Nat) (w:World) (p go dp g:Nat) (v iv:Value) (t:List (List Int)) (im:List Int) (ss:List StepV) (ix:List Nat) (hst:DState F C w w p go dp g t im ix ss ix) (hgd:Good t im) (hB:B≤w.heap.size) (hm:Mat B w v t) (hi:Row B w iv (ints im)) (hgo:go < w.heap.size) (hFC:F≤C) (htF:1 < F) :
  Calls Tryd.prog 75 #[.pointer (some ⟨dp,0,none⟩),v,iv] w (DBeginOk F C w p go dp g t im ix):=by
 have hn:=hgd.le
 have h6:=hgd.im6
 have HGN:=Kh (oE B w v iv t im hB hm hi hgd)
 have HGD:=Kh hgd;have HST:=Kh hst
 obtain ⟨N,hN⟩:∃ N,N=2 ^ t.length:=⟨_,rfl⟩
 have HN:=Kh hN
 have hN4:N≤4096:=by have:=uR hn;omega
 obtain ⟨ma,mc,rfl⟩:=hm.shape
 obtain ⟨ia,ic,rfl⟩:=hi.shape
 rw [zM] at HGN ⊢
 have hdl:dp < w.heap.size:=by obtain ⟨sa,sc,hb,_⟩:=hst.der.box;exact zQ hb
 have hgl:=hst.der.arr.lt
 clear hgd hm hi hst hN
 go_enter Tryd.func75,Tryd.ntmps75
 go_wp2_with fail
 refine HGN.out.mono ?_
 rintro e w1 ⟨sa0,sc0,rfl,hown,hg1⟩
 obtain ⟨l,hl⟩:∃ l,l=genL t im:=⟨_,rfl⟩
 have hlen:l.length=im.length+1:=by rw [hl,kT]
 have hll:l.length≤7:=by omega
 have hl1:1≤l.length:=by omega
 have HLT:Hid (∀ b∈l,b < 2 ^ t.length):=Kh (by rw [hl];exact nT HGD.out)
 rw [← hl] at hown ⊢
 obtain ⟨kb,rfl,hk1,hk2,harr⟩:=yK hown hl1
 have hkl:=(hown.lt kb rfl).1
 have HFR:Hid (FamRow w1 dp g go kb l):=Kh ⟨harr,by omega,by omega,by omega⟩
 have HD1:=Kh (HST.out.quiet hg1)
 have HD0:Hid (DState F C w1 w1 p go dp g t im ix ss ix):=Kh ⟨HD1.out.sets,HD1.out.der,HD1.out.ok,IxLe.refl _,GrownBut.refl _ _,HD1.out.tab,HD1.out.sz⟩
 have HG1:=Kh hg1;have HL:=Kh hl;have HLEN:=Kh hlen
 clear hown harr hg1 hl hlen hk1 hk2 HGN HD1
 go_wp2
 go_loopg [13] l.length (fun gh i wr=>∃ (k:Nat) (ss:List StepV) (ix':List Nat),gh+k=l.length∧i=.int .i64 k∧Hid (DState F C w1 wr p go dp g t im ix ss ix')∧Hid (∀ j,j < k→ix'.getD (l.getD j 0) 0≠0))
 case atStart=>exact ⟨0,ss,ix,rfl,rfl,HD0,Kh (fun i hi=>absurd hi (by omega))⟩
 case round =>
  clear HD0
  obtain ⟨k,ss,ix',hgh,rfl,HS,HP⟩:=hrel
  have HGH:=Kh hgh
  clear hgh
  by_cases hk:¬ k < l.length
  ·have hk':¬ (k:Int) < l.length:=by omega
   have HE:Hid (k=l.length):=Kh (by have:=HGH.out;omega)
   go_wp2
   go_end0
   refine ⟨rfl,ss,ix',⟨HS.out.sets,HS.out.der,HS.out.ok,HS.out.le,iR (qDE HG1.out (by simp)) HS.out.but,HS.out.tab,HS.out.sz⟩,?_⟩
   rw [← HL.out,← HE.out];exact HP.out
  replace hk:k < l.length:=by omega
  have hk':(k:Int) < l.length:=by omega
  have hfr:=HFR.out.but HS.out.but
  have ck:=hfr.arr.nat k hk
  obtain ⟨a,ha⟩:∃ a,a=l.getD k 0:=⟨_,rfl⟩
  have haN:a < N:=by rw [ha,HN.out];exact HLT.out _ (pE hk)
  rw [← ha] at ck
  have hle:=HS.out.ok.i.le
  rw [← HN.out] at hle
  have HAK:=Kh ha
  clear hfr ha
  rcases Nat.eq_zero_or_pos k with hk0|hk0
  ·have hk0':¬ (0:Int) < k:=by omega
   have HK0:=Kh hk0
   clear hk0
   obtain ⟨wb,hwb⟩:∃ W,W=wr.alloc (.cells #[.int .i64 1,.int .i64 0,.int .i64 0,.string ⟨#[]⟩,.int .i64 (a:Int)] 60):=⟨_,rfl⟩
   have hgb:wr.grownBy wb none:=by rw [hwb];exact Ga wr _ none
   have hbb:=heap_alloc_new wr (.cells #[.int .i64 1,.int .i64 0,.int .i64 0,.string ⟨#[]⟩,.int .i64 (a:Int)] 60)
   rw [← hwb] at hbb
   obtain ⟨o,ho⟩:∃ o,o=wr.heap.size:=⟨_,rfl⟩
   rw [← ho] at hbb
   have HWB:=Kh hwb;have HO:=Kh ho
   have HSB:=Kh (HS.out.quiet hgb)
   obtain ⟨b0,b1,b2,b3,b4⟩:=wR hbb
   clear hwb hgb hbb ho
   go_upto_region 4 with fail
   rw [← HWB.out,← HO.out]
   go_wp2_with fail
   refine (fD C wb dp p g t.length ss ix' ⟨1,0,0,⟨#[]⟩,(a:Int)⟩ a HSB.out.der (by omega) (by rw [← HN.out];exact haN) rfl hn HSB.out.sz).mono ?_
   intro e w5 h2
   obtain rfl:=h2.1
   have hwn:=word_nil HGD.out
   have h3:=HSB.out.ok.word HGD.out hwn.1 (x:=a) (by rw [hwn.2,HAK.out,HL.out,HK0.out];rfl)
   have h4:=eW (st:=⟨1,0,0,⟨#[]⟩,(a:Int)⟩) HSB.out.ok.i (x:=a) (by rw [← HN.out];exact haN)
   have HD5:=Kh (HSB.out.add h2 h3 (by rw [← HN.out];exact haN) hFC htF)
   have HP5:Hid (∀ j,j < k+1→(addS ss ix' ⟨1,0,0,⟨#[]⟩,(a:Int)⟩ a).2.getD (l.getD j 0) 0≠0):=Kh (fun j hj=>by
    rcases Nat.lt_succ_iff_lt_or_eq.1 hj with hj|rfl
    ·exact h4.1.ne (HP.out j hj)
    ·rw [← HAK.out];exact h4.2)
   clear h2 h3 h4 hwn b0 b1 b2 b3 b4 ck
   go_wp2
   go_roundg (l.length - (k+1))
   case measure=>have:=HGH.out;omega
   case rel=>exact ⟨k+1,_,_,by have:=HGH.out;omega,by go_num,HD5,HP5⟩
  ·obtain ⟨j,hj⟩:∃ j,k=j+1:=⟨k - 1,by omega⟩
   have hk0':(0:Int) < k:=by omega
   have hj7:j≤6:=by omega
   have HJ:=Kh hj
   have hu8:IntKind.u8.wrap ((k:Int) - 1)=(k:Int) - 1:=IntWalk.u8_in _ (by omega)
   have hby:IntKind.u8.wrap (97+((k:Int) - 1))=97+((k:Int) - 1):=IntWalk.u8_in _ (by omega)
   obtain ⟨X,hX⟩:∃ X,X=strOfNums [97+((k:Int) - 1)]:=⟨_,rfl⟩
   have hcv:∀ (W:World) (g:Nat),W.cell? ⟨g,0,none⟩=some (.int .u8 (97+((k:Int) - 1)))→(convert 89 9 (.slice (some ⟨g,0,none⟩) 1 1)).run Tryd.prog W=.ok (.string X) W:=fun W g h=>by rw [hX];exact mL 89 5 Tryd.underlying89 Tryd.underlying5 9 Tryd.underlying9 h
   have HX:Hid (X=strOfNums [97+(j:Int)]):=Kh (by rw [hX,show (k:Int) - 1=(j:Int) by omega])
   obtain ⟨wb,hwb⟩:∃ W,W=wr.alloc (.cells #[.int .i64 1,.int .i64 0,.int .i64 0,.string ⟨#[]⟩,.int .i64 (a:Int)] 60):=⟨_,rfl⟩
   have hgb:wr.grownBy wb none:=by rw [hwb];exact Ga wr _ none
   have hbb:=heap_alloc_new wr (.cells #[.int .i64 1,.int .i64 0,.int .i64 0,.string ⟨#[]⟩,.int .i64 (a:Int)] 60)
   rw [← hwb] at hbb
   obtain ⟨o,ho⟩:∃ o,o=wr.heap.size:=⟨_,rfl⟩
   rw [← ho] at hbb
   obtain ⟨wc,hwc⟩:∃ W,W=wb.alloc (.cells #[.int .u8 (97+((k:Int) - 1))] 5):=⟨_,rfl⟩
   have hgc:wb.grownBy wc none:=by rw [hwc];exact Ga wb _ none
   have hbc:=zE hbb hgc (by simp)
   have hgs:=zH wc ⟨o,3,none⟩ (.string X)
   have hbs:=heap_setCell_same wc o 3 _ _ (.string X) hbc
   obtain ⟨wd,hwd⟩:∃ W,W=wc.setCell ⟨o,3,none⟩ (.string X):=⟨_,rfl⟩
   rw [← hwd] at hgs hbs
   have hbs':wd.heap[o]?=some (.cells #[.int .i64 1,.int .i64 0,.int .i64 0,.string X,.int .i64 (a:Int)] 60 (0,0)):=by rw [hbs];simp
   have HWB:=Kh hwb;have HO:=Kh ho;have HWC:=Kh hwc;have HWD:=Kh hwd
   have HSC:=HS.out.quiet (zG hgb hgc (by simp))
   have hok:C≤o:=by have:=HS.out.sz;omega
   have HSD:Hid (DState F C w1 wd p go dp g t im ix ss ix'):=Kh (by
    obtain ⟨sa,sc,hb,how⟩:=HSC.der.box
    have hod:dp≠o:=fun e=>by rw [e,hbc] at hb;simp at hb
    have hog:g≠o:=fun e=>(HSC.der.arr.type_ne hbc (by decide)) e
    have hoo:o < wc.heap.size:=zQ hbc
    have hor:wr.heap.size≤o:=Nat.le_of_eq ho.symm
    obtain ⟨sa2,sc2,hb2,how2⟩:=HS.out.der.box
    refine ⟨HSC.sets.kept hgs (fun q e=>by have e:o=q:=Oj e;omega),?_,HSC.ok,HSC.le,HSC.but.step hgs (fun q e=>.inr (by have e:o=q:=Oj e;have:=HS.out.but.size;omega)),HSC.tab.kept hgs (fun e=>by have e:o=1:=Oj e;omega),Nat.le_trans HSC.sz hgs.size⟩
    have hbw:=zE (zE hb2 hgb (by simp)) hgc (by simp)
    have how3:=xH (xH how2 hgb) hgc
    refine ⟨⟨sa2,sc2,zE hbw hgs (fun e=>hod (Oj e).symm),how3.kept hgs ?_⟩,HSC.der.arr.kept hgs (fun e=>hog (Oj e).symm),HSC.der.len,HSC.der.lo⟩
    rcases hv:(Value.slice sa2 ss.length sc2).ownBlock with _|q
    ·exact .inl rfl
    ·exact .inr (fun e=>by have e:q=o:=Oj e;have:=(how2.lt q hv).2;omega))
   obtain ⟨b0,b1,b2,b3,b4⟩:=wR hbb
   have c3:(wb.alloc (.cells #[.int .u8 (97+((k:Int) - 1))] 5)).cell? ⟨o,3,none⟩=some (.string ⟨#[]⟩):=by rw [← hwc];exact (wR hbc).2.2.2.1
   obtain ⟨d0,d1,d2,d3,d4⟩:=wR hbs'
   have f3:(wb.alloc (.cells #[.int .u8 (97+((k:Int) - 1))] 5)).frozen? ⟨o,3,none⟩=false:=by rw [← hwc];exact zD hbc 3
   clear hwb hgb hbb ho hwc hgc hbc hgs hbs hbs' hwd HSC hX hj
   go_upto_region 5 with fail
   rw [← HWB.out,← HO.out]
   go_upto_region 6 with fail
   rw [← HWC.out,← HWD.out]
   clear b0 b1 b2 b3 b4 c3 f3 hcv hu8 hby ck
   go_wp2_with fail
   refine (fD C wd dp p g t.length ss ix' ⟨1,0,0,X,(a:Int)⟩ a HSD.out.der (by omega) (by rw [← HN.out];exact haN) rfl hn HSD.out.sz).mono ?_
   intro e w5 h2
   obtain rfl:=h2.1
   have hwn:=letter_word HGD.out (j:=j) (by have:=HLEN.out;have:=HJ.out;omega)
   rw [← HX.out] at hwn
   have h3:=HSD.out.ok.word HGD.out hwn.1 (x:=a) (by rw [hwn.2,HAK.out,HL.out,HJ.out,genL_get (by have:=HLEN.out;have:=HJ.out;omega)])
   have h4:=eW (st:=⟨1,0,0,X,(a:Int)⟩) HSD.out.ok.i (x:=a) (by rw [← HN.out];exact haN)
   have HD5:=Kh (HSD.out.add h2 h3 (by rw [← HN.out];exact haN) hFC htF)
   have HP5:Hid (∀ j,j < k+1→(addS ss ix' ⟨1,0,0,X,(a:Int)⟩ a).2.getD (l.getD j 0) 0≠0):=Kh (fun j hj=>by
    rcases Nat.lt_succ_iff_lt_or_eq.1 hj with hj|rfl
    ·exact h4.1.ne (HP.out j hj)
    ·rw [← HAK.out];exact h4.2)
   clear h2 h3 h4 hwn d0 d1 d2 d3 d4
   go_wp2
   go_roundg (l.length - (k+1))
   case measure=>have:=HGH.out;omega
   case rel=>exact ⟨k+1,_,_,by have:=HGH.out;omega,by go_num,HD5,HP5⟩
theorem app5n {P:Program} {w:World} {ops:Array Oper} {rest:List Oper} {o:Oper} {a:Act} {Q:Exit→Act→World→Prop} (hgd:o.guard=none) (s x:Operand) (t:TypeId)
  (ho:o.op=.call { callee:=.builtin .append,args:=#[s,x],argTypes:=#[t,t] })
  {e:TypeId} {z:Value} {bytes:Nat} (E:Elem5 P t e z bytes) (base:Nat) (v:Value) (n:Nat) (xs:List Value) (hs:a.eval s=v) (hown:w.ownsRow base e 5 v n xs)
  (st:StepV) (hx:a.eval x=.slice (some ⟨w.heap.size,0,none⟩) 1 1) (h63:n+1≤maxLen) (hbytes:(n+1) * bytes≤140737488355328) (hbase:base≤w.heap.size)
  (h:∀ sa sc w',w'.ownsRow base e 5 (.slice sa (n+1) sc) (n+1) (xs ++ st.vals)→w.grownBy w' v.ownBlock→wpList P ops Q rest (a.put o.dst (.slice sa (n+1) sc)) w') :
  wpList P ops Q (o :: rest) a (w.alloc (.cells #[.int .i64 st.op,.int .i64 st.a,.int .i64 st.b,.string st.word,.int .i64 st.set] e)) :=
 wpList_plain hgd fun _ hK=>qCL s x t ho E base v n xs hs (hown.alloc _) st w.heap.size hx (0,0) (heap_alloc_new w _) h63 hbytes (by simp;omega) fun sa sc w' h2 h3=>hK _ _ (h sa sc w' h2 (zF (Ga w _ _) h3))
theorem qH {bs:List Bool} {a j:Nat} (h:bs.getD j false=true):(bs.set a true).getD j false=true:=by
 by_cases e:a=j
 ·subst e
  by_cases hl:a < bs.length
  ·rw [xK _ _ _ _ hl]
  ·rw [List.set_eq_of_length_le (by omega)];exact h
 ·rw [getD_set_ne _ _ _ _ _ e];exact h
theorem tB {bs:List Bool} {a:Nat} (h:a < bs.length):(bs.set a true).getD a false=true:=xK _ _ _ _ h
theorem MarksOk.set {ss:List StepV} {bs:List Bool} {k a:Nat} (h:MarksOk ss bs k) (ha:a < k):MarksOk ss (bs.set a true) k where
 len:=by rw [List.length_set];exact h.len
 last:=qH h.last
 a:=fun i hk hi hb hop=>qH (h.a i hk hi (by rw [getD_set_ne _ _ _ _ _ (by omega)] at hb;exact hb) hop)
 b:=fun i hk hi hb hop=>qH (h.b i hk hi (by rw [getD_set_ne _ _ _ _ _ (by omega)] at hb;exact hb) hop)
theorem MarksOk.close {ss:List StepV} {bs:List Bool} {k:Nat} (h:MarksOk ss bs (k+1)) (ha:bs.getD k false=true→(ss.getD k default).op≠1→bs.getD (ss.getD k default).a.toNat false=true) (hb:bs.getD k false=true→(ss.getD k default).op=2→bs.getD (ss.getD k default).b.toNat false=true):MarksOk ss bs k where
 len:=h.len
 last:=h.last
 a:=fun i hk hi hbi hop=>by
  rcases Nat.eq_or_lt_of_le hk with rfl|hk
  ·exact ha hbi hop
  ·exact h.a i hk hi hbi hop
 b:=fun i hk hi hbi hop=>by
  rcases Nat.eq_or_lt_of_le hk with rfl|hk
  ·exact hb hbi hop
  ·exact h.b i hk hi hbi hop
theorem marks_start {ss:List StepV} {m n:Nat} (hl:ss.length=m) (hm:m=n+1):MarksOk ss ((List.replicate m false).set n true) m where
 len:=by simp [hl]
 last:=by
  rw [show ss.length - 1=n by omega]
  exact tB (by simp;omega)
 a:=fun i hk hi=>by omega
 b:=fun i hk hi=>by omega
theorem qAY {t:List (List Int)} {im:List Int} {ss:List StepV} {k:Nat} {st:StepV} (e:st=ss.getD k default) (h:tI t im ss k=true):st.op=1∨(st.op=2∧(0≤st.a∧st.a < k)∧0≤st.b∧st.b < k)∨(st.op=3∧0≤st.a∧st.a < k):=by
 by_cases h1:st.op=1
 ·exact .inl h1
 by_cases h2:st.op=2
 ·rw [qJ e h2] at h
  simp only [Bool.and_eq_true] at h
  exact .inr (.inl ⟨h2,xY.1 h.1.1.2,xY.1 h.1.2⟩)
 by_cases h3:st.op=3
 ·rw [lJ e h3] at h
  simp only [Bool.and_eq_true] at h
  exact .inr (.inr ⟨h3,xY.1 h.1.1.2⟩)
 ·rw [gM e h1 h2 h3] at h;cases h
def NeededOk (w:World) (t:List (List Int)) (im:List Int) (ss:List StepV) (e:Ending) (w':World):Prop :=
 w.grownBy w' none∧∃ (sa:Option Addr) (sc:Nat) (l:List StepV),e=.returned (.slice sa l.length sc)∧w'.ownsRow w.heap.size 60 5 (.slice sa l.length sc) l.length (yI l)∧sX t im l l.length∧0 < l.length∧l.length≤ss.length∧(l.getD (l.length - 1) default).set=(ss.getD (ss.length - 1) default).set∧∀ i,i < l.length→(l.getD i default).word.size≤maxLen
set_option maxRecDepth 100000 in
set_option maxHeartbeats 1000000 in
theorem needed_any (w:World) (g cap m n:Nat) (t:List (List Int)) (im:List Int) (ss:List StepV) (hl:ss.length=m) (hm:m=n+1) (hm4:m≤4096) (hs:StepsAt w g ss) (hok:sX t im ss ss.length) (hwz:∀ i,i < ss.length→(ss.getD i default).word.size≤maxLen) :
  Calls Tryd.prog 77 #[.slice (some ⟨g,0,none⟩) m cap] w (NeededOk w t im ss):=by
 have hgl:=hs.lt
 have hnm:n < m:=by omega
 have hmn:m≤n+1:=by omega
 have hm1:1≤m:=by omega
 have hn1:m - 1=n:=by omega
 have HMS:Hid (MarksOk ss ((List.replicate m false).set (m - 1) true) m):=Kh (by rw [hn1];exact marks_start hl hm)
 clear hn1
 have HL:=Kh hl;have HM:=Kh hm;have HS:=Kh hs;have HOK:=Kh hok;have HWZ:=Kh hwz
 obtain ⟨z5,by5,hE5,hby5⟩:=eM
 have HE5:=Kh hE5
 clear hl hm hs hok hwz hE5
 go_enter Tryd.func77,Tryd.ntmps77
 go_wp2_with (at_make;refine kB rfl _ _ _ rfl wJ rfl _ _ _ _ m rfl rfl rfl rfl ?b1 ?b2 ?_;(case b1=>omega);(case b2=>(unfold maxLen;omega));intro w1 ha1 hg1 hz1;rw [← vS] at ha1;have c1:=ha1.bool (m - 1) (by simp;omega);have f1:=ha1.frozen (m - 1);have hA1:=ha1.bool_set (m - 1) (by simp;omega) true;have hG1:=zG hg1 (zH w1 ⟨w.heap.size,m - 1,none⟩ (.bool true)) (fun j e=>by have e:w.heap.size=j:=Oj e;omega))
 have HA1:=Kh hA1;have HG1:=Kh hG1
 clear ha1 hg1 c1 f1 hA1 hG1 hz1
 go_loopg [4] m (fun gh i wr=>∃ (k:Nat) (bs:List Bool) (z:Int),gh=k∧k≤m∧i=.int .i64 z∧Hid (z=(k:Int) - 1)∧Hid (Arr wr w.heap.size 4 (bls bs))∧Hid (w.grownBy wr none)∧Hid (MarksOk ss bs k))
 case atStart=>exact ⟨m,_,(m:Int) - 1,rfl,Nat.le_refl _,rfl,Kh rfl,HA1,HG1,HMS⟩
 case round =>
  clear HA1 HG1 HMS
  obtain ⟨k,bs,z,hgk,hkm,rfl,HZ,HA,HG,HMK⟩:=hrel
  have HGK:=Kh hgk
  clear hgk
  have hmb:=HA.out.lt
  by_cases hk0:k=0
  ·have hz:z < 0:=by have:=HZ.out;omega
   have hz':¬ 0≤z:=by omega
   have HMF:Hid (MarksOk ss bs 0):=Kh (by have:=HMK.out;rw [hk0] at this;exact this)
   obtain ⟨wz,rfl⟩:∃ wz:World,wz=wr:=⟨_,rfl⟩
   clear hk0 HZ HMK
   go_wp2_with (at_make;refine kB rfl _ _ _ rfl yC rfl _ _ _ _ m rfl rfl rfl rfl ?b3 ?b4 ?_;(case b3=>omega);(case b4=>(unfold maxLen;omega));intro w2 ha2 hg2 hz2;rw [← wG] at ha2)
   have HA2:=Kh ha2;have HB2:=Kh (HA.out.kept hg2 (by simp));have HG2:=Kh (zG HG.out hg2 (by simp))
   obtain ⟨nb,hnb⟩:∃ nb,nb=wz.heap.size:=⟨_,rfl⟩
   rw [← hnb] at HA2 ⊢
   have hbn:w.heap.size < nb:=by omega
   have HLS:Hid (ListOk t im ss bs (List.replicate m 0) 0 []):=Kh ⟨by simp [HL.out],fun i hi=>absurd hi (by simp),Nat.zero_le _,fun i hi=>absurd hi (by omega),fun i hi=>absurd hi (by simp),fun h=>absurd h (by omega)⟩
   clear ha2 hg2 hz2 hnb HA HG hmb
   go_loopg [6,61] m (fun gh v6 i wr=>∃ (k:Nat) (no:List Nat) (l:List StepV) (sa:Option Addr) (sc:Nat),gh+k=m∧i=.int .i64 k∧v6=.slice sa l.length sc∧Hid (ListOk t im ss bs no k l)∧Hid (Arr wr nb 3 (nats no))∧Hid (Arr wr w.heap.size 4 (bls bs))∧Hid (wr.ownsRow w.heap.size 60 5 (.slice sa l.length sc) l.length (yI l))∧Hid (w.grownBy wr none))
   case atStart=>exact ⟨0,_,[],none,0,rfl,rfl,rfl,HLS,HA2,HB2,Kh (World.ownsRow_nil _ _ _ _),HG2⟩
   case round =>
    clear HLS HA2 HB2 HG2
    obtain ⟨k,no,l,sa,sc,hgh,rfl,rfl,HLO,HN,HB,HO,HG⟩:=hrel
    have HGH:=Kh hgh
    clear hgh
    by_cases hk:¬ k < m
    ·have hk':¬ (k:Int) < m:=by omega
     have HKM:Hid (k=m):=Kh (by have:=HGH.out;omega)
     go_wp2
     go_ret
     have hlo:=HLO.out
     rw [HKM.out] at hlo
     have hlast:=HMF.out.last
     rw [HL.out] at hlast
     obtain ⟨h0,h1⟩:=hlo.lastn (by omega) hlast
     have h2:=hlo.nos (m - 1) (by omega) hlast
     rw [h1] at h2
     exact ⟨HG.out,sa,sc,l,rfl,HO.out,hlo.ok,h0,by rw [HL.out];exact hlo.le,by rw [HL.out];exact h2.2.1,hlo.wz⟩
    replace hk:k < m:=by omega
    have hk':(k:Int) < m:=by omega
    have hst:=HS.out.kept HG.out (by simp)
    have hks:k < ss.length:=by rw [HL.out];exact hk
    have c0:=hst.op k hks
    have c1:=hst.a k hks
    have c2:=hst.b k hks
    have c3:=hst.word k hks
    have c4:=hst.set k hks
    have hsb:=HOK.out k hks
    obtain ⟨st,est⟩:∃ st,st=ss.getD k default:=⟨_,rfl⟩
    rw [← est] at c0 c1 c2 c3 c4
    have HEST:=Kh est
    have hops:=qAY est hsb
    have hllk:=HLO.out.le
    obtain ⟨wb,hwb⟩:∃ W,W=wr.alloc (.cells #[.int .i64 st.op,.int .i64 st.a,.int .i64 st.b,.string st.word,.int .i64 st.set] 60):=⟨_,rfl⟩
    have hgb:wr.grownBy wb none:=by rw [hwb];exact Ga wr _ none
    have hbb:=heap_alloc_new wr (.cells #[.int .i64 st.op,.int .i64 st.a,.int .i64 st.b,.string st.word,.int .i64 st.set] 60)
    rw [← hwb] at hbb
    obtain ⟨o,ho⟩:∃ o,o=wr.heap.size:=⟨_,rfl⟩
    rw [← ho] at hbb
    have hno:=HN.out.lt
    have hwr:=HG.out.size
    have hnbo:nb≠o:=by omega
    have hmbo:w.heap.size≠o:=by omega
    have HWB:=Kh hwb;have HOE:=Kh ho;have HBB:=Kh hbb
    have HNB:=Kh (HN.out.kept hgb (by simp));have HMB:=Kh (HB.out.kept hgb (by simp));have HOB:=Kh (xH HO.out hgb);have HGB:=Kh (zG HG.out hgb (by simp))
    have HOLT:Hid (∀ q,(Value.slice sa l.length sc).ownBlock=some q→q < o):=Kh (fun q e=>by rw [ho];exact qBK HO.out e)
    clear hwb hgb hbb ho est hst hsb HN HB HO HG
    go_upto_region 15 with fail
    rw [← HWB.out,← HOE.out]
    have cm:=HMB.out.bool k (by rw [HMF.out.len];exact hks)
    cases hbk:bs.getD k false with
    | false =>
     rw [hbk] at cm
     have HSK:=Kh (HLO.out.skip hbk)
     clear hbk c0 c1 c2 c3 c4
     go_wp2
     go_roundg (m - (k+1))
     case measure=>have:=HGH.out;omega
     case rel=>exact ⟨k+1,no,l,sa,sc,by have:=HGH.out;omega,by go_num,rfl,HSK,HNB,HMB,HOB,HGB⟩
    | true =>
     rw [hbk] at cm
     have HPU:=Kh (HLO.out.push hks hbk HMF.out (HOK.out k hks) (HWZ.out k hks))
     rw [← HEST.out] at HPU
     have hnl:no.length=m:=by rw [HLO.out.len,HL.out]
     have HNL:=Kh hnl
     obtain ⟨r,hr⟩:∃ r,r=kI no st:=⟨_,rfl⟩
     rw [← hr] at HPU
     have HR:=Kh hr
     clear hbk hnl hr c0 c1 c2 c3 c4
     obtain ⟨b0,b1,b2,b3,b4⟩:=wR HBB.out
     have f1:=zD HBB.out 1
     have f2:=zD HBB.out 2
     rcases hops with h1|⟨h2,⟨ha0,ha1⟩,hb0,hb1⟩|⟨h3,ha0,ha1⟩
     ·have q1:(st.op != 1)=false:=by rw [h1];rfl
      have q2:(st.op == 2)=false:=by rw [h1];rfl
      have HBC:Hid (wb.heap[o]?=some (.cells #[.int .i64 r.op,.int .i64 r.a,.int .i64 r.b,.string r.word,.int .i64 r.set] 60 (0,0))):=Kh (by
       have e:r=st:=by rw [HR.out];unfold kI;rw [if_pos h1]
       rw [e];exact HBB.out)
      have HGC:Hid (wb.grownBy wb (some o)):=Kh (zW _ _)
      clear h1
      go_upto_region 20 with fail
      obtain ⟨wc,hwc⟩:∃ W:World,W=wb:=⟨_,rfl⟩
      rw [← hwc] at HBC ⊢
      have HGC:Hid (wb.grownBy wc (some o)):=Kh (by rw [hwc];exact zW _ _)
      clear hwc b0 b1 b2 b3 b4 f1 f2 cm q1 q2
      have HNC:=Kh (HNB.out.kept HGC.out (fun e=>hnbo (Oj e).symm));have HMC:=Kh (HMB.out.kept HGC.out (fun e=>hmbo (Oj e).symm))
      have HOC:Hid (wc.ownsRow w.heap.size 60 5 (.slice sa l.length sc) l.length (yI l)):=Kh (HOB.out.kept HGC.out (by
       rcases hv:(Value.slice sa l.length sc).ownBlock with _|q
       ·exact .inl rfl
       ·exact .inr (fun e=>by have e:q=o:=Oj e;have:=HOLT.out q hv;omega)))
      have HGW:=Kh (zG HGB.out HGC.out (fun q e=>by have e:o=q:=Oj e;have:=HOE.out;omega))
      have cn:=HNC.out.nat k (by rw [HNL.out];exact hk)
      have fn:=HNC.out.frozen k
      have gd:=zH wc ⟨nb,k,none⟩ (.int .i64 (l.length:Int))
      have ad:=HNC.out.nat_set k (by rw [HNL.out];exact hk) l.length
      obtain ⟨wd,hwd⟩:∃ W,W=wc.setCell ⟨nb,k,none⟩ (.int .i64 (l.length:Int)):=⟨_,rfl⟩
      rw [← hwd] at gd ad
      have hbd:=zE HBC.out gd (fun e=>hnbo (Oj e))
      have HMD:=Kh (HMC.out.kept gd (fun e=>by have e:nb=w.heap.size:=Oj e;omega))
      have HND:=Kh ad
      have HOD:Hid (wd.ownsRow w.heap.size 60 5 (.slice sa l.length sc) l.length (yI l)):=Kh (HOC.out.kept gd (.inr (by
       obtain ⟨cur,rest,hh,_⟩:=HNC.out
       exact zS HOC.out hh (by decide))))
      have HGD:=Kh (zG HGW.out gd (fun q e=>by have e:nb=q:=Oj e;omega))
      have HWD:=Kh hwd
      have HBD:=Kh hbd
      have hwdz:=HGD.out.size
      have hod:o < wd.heap.size:=zQ hbd
      clear gd ad hwd hbd
      go_upto_region 21 with fail
      rw [← HWD.out]
      clear cn fn
      obtain ⟨r0,r1,r2,r3,r4⟩:=wR HBD.out
      have hbyn:(l.length+1) * by5≤4097 * 64:=Nat.mul_le_mul (by omega) hby5
      go_wp2_with (at_builtin;refine app5n rfl _ _ _ rfl HE5.out w.heap.size _ l.length (yI l) rfl HOD.out r rfl ?c1 ?c2 ?c3 ?_;(case c1=>(unfold maxLen;omega));(case c2=>omega);(case c3=>omega);intro sa8 sc8 w8 hown8 hg8)
      rw [← qF] at hown8
      have HO8:Hid (w8.ownsRow w.heap.size 60 5 (.slice sa8 (l ++ [r]).length sc8) (l ++ [r]).length (yI (l ++ [r]))):=Kh (by rw [List.length_append,List.length_singleton];exact hown8)
      have hlow:=fun q e=>(HOD.out.lt q e).1
      have HG8:=Kh (zG HGD.out hg8 (fun q e=>hlow q e))
      have HN8:=Kh (HND.out.kept hg8 (by
       obtain ⟨cur,rest,hh,_⟩:=HND.out
       exact zS HOD.out hh (by decide)))
      have HM8:=Kh (HMD.out.kept hg8 (by
       obtain ⟨cur,rest,hh,_⟩:=HMD.out
       exact zS HOD.out hh (by decide)))
      have HEL:Hid ((l ++ [r]).length=l.length+1):=Kh (by simp)
      clear hown8 hg8 hlow r0 r1 r2 r3 r4
      go_wp2
      go_roundg (m - (k+1))
      case measure=>have:=HGH.out;omega
      case rel=>exact ⟨k+1,_,l ++ [r],sa8,sc8,by have:=HGH.out;omega,by go_num,by rw [HEL.out],HPU,HN8,HM8,HO8,HG8⟩
     ·have q1:(st.op != 1)=true:=by rw [h2];rfl
      have q2:(st.op == 2)=true:=by rw [h2];rfl
      obtain ⟨xa,hxa⟩:∃ xa:Nat,(xa:Int)=st.a:=⟨st.a.toNat,by omega⟩
      obtain ⟨xb,hxb⟩:∃ xb:Nat,(xb:Int)=st.b:=⟨st.b.toNat,by omega⟩
      have hxam:(xa:Int) < m:=by omega
      have hxbm:(xb:Int) < m:=by omega
      have na:=HNB.out.nat xa (by rw [HNL.out];omega)
      have nbb:=HNB.out.nat xb (by rw [HNL.out];omega)
      obtain ⟨A,hA⟩:∃ A,A=no.getD xa 0:=⟨_,rfl⟩
      obtain ⟨B,hB⟩:∃ B,B=no.getD xb 0:=⟨_,rfl⟩
      rw [← hA] at na
      rw [← hB] at nbb
      rw [← hxa] at b1
      rw [← hxb] at b2
      have s1:=heap_setCell_same wb o 1 _ _ (.int .i64 (A:Int)) HBB.out
      have g1:=zH wb ⟨o,1,none⟩ (.int .i64 (A:Int))
      obtain ⟨we,hwe⟩:∃ W,W=wb.setCell ⟨o,1,none⟩ (.int .i64 (A:Int)):=⟨_,rfl⟩
      have s1z:=s1
      have g1z:=g1
      rw [← hwe] at s1 g1
      have s1':we.heap[o]?=some (.cells #[.int .i64 st.op,.int .i64 (A:Int),.int .i64 st.b,.string st.word,.int .i64 st.set] 60 (0,0)):=by rw [s1];simp
      have s2:=heap_setCell_same we o 2 _ _ (.int .i64 (B:Int)) s1'
      have g2:=zH we ⟨o,2,none⟩ (.int .i64 (B:Int))
      have s1w:=s1'
      rw [hwe] at s1w
      obtain ⟨e0,e1,e2,e3,e4⟩:=wR s1w
      have k2:=zD s1w 2
      rw [← hxb] at e2
      have nb2:=(HNB.out.kept g1z (fun e=>hnbo (Oj e).symm)).nat xb (by rw [HNL.out];omega)
      rw [← hB] at nb2
      obtain ⟨wc,hwc⟩:∃ W,W=we.setCell ⟨o,2,none⟩ (.int .i64 (B:Int)):=⟨_,rfl⟩
      rw [← hwc] at s2 g2
      have HBC:Hid (wc.heap[o]?=some (.cells #[.int .i64 r.op,.int .i64 r.a,.int .i64 r.b,.string r.word,.int .i64 r.set] 60 (0,0))):=Kh (by
       have e:r={ st with a:=(A:Int),b:=(B:Int) }:=by
        rw [HR.out,hA,hB];unfold kI;rw [if_neg (by omega),if_pos h2,← hxa,← hxb,Int.toNat_natCast,Int.toNat_natCast]
       rw [e,s2];simp)
      have HGC:Hid (wb.grownBy wc (some o)):=Kh (zF g1 g2)
      have HWE:=Kh hwe;have HWC:=Kh hwc
      clear h2 hA hB s1 s1' s2 g1 g2 s1z g1z s1w hwe hwc hxa hxb
      go_upto_region 20 with fail
      rw [← HWE.out,← HWC.out]
      clear b0 b1 b2 b3 b4 f1 f2 cm q1 q2 na nbb nb2 e0 e1 e2 e3 e4 k2
      have HNC:=Kh (HNB.out.kept HGC.out (fun e=>hnbo (Oj e).symm));have HMC:=Kh (HMB.out.kept HGC.out (fun e=>hmbo (Oj e).symm))
      have HOC:Hid (wc.ownsRow w.heap.size 60 5 (.slice sa l.length sc) l.length (yI l)):=Kh (HOB.out.kept HGC.out (by
       rcases hv:(Value.slice sa l.length sc).ownBlock with _|q
       ·exact .inl rfl
       ·exact .inr (fun e=>by have e:q=o:=Oj e;have:=HOLT.out q hv;omega)))
      have HGW:=Kh (zG HGB.out HGC.out (fun q e=>by have e:o=q:=Oj e;have:=HOE.out;omega))
      have cn:=HNC.out.nat k (by rw [HNL.out];exact hk)
      have fn:=HNC.out.frozen k
      have gd:=zH wc ⟨nb,k,none⟩ (.int .i64 (l.length:Int))
      have ad:=HNC.out.nat_set k (by rw [HNL.out];exact hk) l.length
      obtain ⟨wd,hwd⟩:∃ W,W=wc.setCell ⟨nb,k,none⟩ (.int .i64 (l.length:Int)):=⟨_,rfl⟩
      rw [← hwd] at gd ad
      have hbd:=zE HBC.out gd (fun e=>hnbo (Oj e))
      have HMD:=Kh (HMC.out.kept gd (fun e=>by have e:nb=w.heap.size:=Oj e;omega))
      have HND:=Kh ad
      have HOD:Hid (wd.ownsRow w.heap.size 60 5 (.slice sa l.length sc) l.length (yI l)):=Kh (HOC.out.kept gd (.inr (by
       obtain ⟨cur,rest,hh,_⟩:=HNC.out
       exact zS HOC.out hh (by decide))))
      have HGD:=Kh (zG HGW.out gd (fun q e=>by have e:nb=q:=Oj e;omega))
      have HWD:=Kh hwd
      have HBD:=Kh hbd
      have hwdz:=HGD.out.size
      have hod:o < wd.heap.size:=zQ hbd
      clear gd ad hwd hbd
      go_upto_region 21 with fail
      rw [← HWD.out]
      clear cn fn
      obtain ⟨r0,r1,r2,r3,r4⟩:=wR HBD.out
      have hbyn:(l.length+1) * by5≤4097 * 64:=Nat.mul_le_mul (by omega) hby5
      go_wp2_with (at_builtin;refine app5n rfl _ _ _ rfl HE5.out w.heap.size _ l.length (yI l) rfl HOD.out r rfl ?c1 ?c2 ?c3 ?_;(case c1=>(unfold maxLen;omega));(case c2=>omega);(case c3=>omega);intro sa8 sc8 w8 hown8 hg8)
      rw [← qF] at hown8
      have HO8:Hid (w8.ownsRow w.heap.size 60 5 (.slice sa8 (l ++ [r]).length sc8) (l ++ [r]).length (yI (l ++ [r]))):=Kh (by rw [List.length_append,List.length_singleton];exact hown8)
      have hlow:=fun q e=>(HOD.out.lt q e).1
      have HG8:=Kh (zG HGD.out hg8 (fun q e=>hlow q e))
      have HN8:=Kh (HND.out.kept hg8 (by
       obtain ⟨cur,rest,hh,_⟩:=HND.out
       exact zS HOD.out hh (by decide)))
      have HM8:=Kh (HMD.out.kept hg8 (by
       obtain ⟨cur,rest,hh,_⟩:=HMD.out
       exact zS HOD.out hh (by decide)))
      have HEL:Hid ((l ++ [r]).length=l.length+1):=Kh (by simp)
      clear hown8 hg8 hlow r0 r1 r2 r3 r4
      go_wp2
      go_roundg (m - (k+1))
      case measure=>have:=HGH.out;omega
      case rel=>exact ⟨k+1,_,l ++ [r],sa8,sc8,by have:=HGH.out;omega,by go_num,by rw [HEL.out],HPU,HN8,HM8,HO8,HG8⟩
     ·have q1:(st.op != 1)=true:=by rw [h3];rfl
      have q2:(st.op == 2)=false:=by rw [h3];rfl
      obtain ⟨xa,hxa⟩:∃ xa:Nat,(xa:Int)=st.a:=⟨st.a.toNat,by omega⟩
      have hxam:(xa:Int) < m:=by omega
      have na:=HNB.out.nat xa (by rw [HNL.out];omega)
      obtain ⟨A,hA⟩:∃ A,A=no.getD xa 0:=⟨_,rfl⟩
      rw [← hA] at na
      rw [← hxa] at b1
      have s1:=heap_setCell_same wb o 1 _ _ (.int .i64 (A:Int)) HBB.out
      have g1:=zH wb ⟨o,1,none⟩ (.int .i64 (A:Int))
      obtain ⟨wc,hwc⟩:∃ W,W=wb.setCell ⟨o,1,none⟩ (.int .i64 (A:Int)):=⟨_,rfl⟩
      rw [← hwc] at s1 g1
      have s1':wc.heap[o]?=some (.cells #[.int .i64 st.op,.int .i64 (A:Int),.int .i64 st.b,.string st.word,.int .i64 st.set] 60 (0,0)):=by rw [s1];simp
      have s1w:=s1'
      rw [hwc] at s1w
      obtain ⟨e0,e1,e2,e3,e4⟩:=wR s1w
      have HBC:Hid (wc.heap[o]?=some (.cells #[.int .i64 r.op,.int .i64 r.a,.int .i64 r.b,.string r.word,.int .i64 r.set] 60 (0,0))):=Kh (by
       have e:r={ st with a:=(A:Int) }:=by
        rw [HR.out,hA];unfold kI;rw [if_neg (by omega),if_neg (by omega),← hxa,Int.toNat_natCast]
       rw [e];exact s1')
      have HGC:Hid (wb.grownBy wc (some o)):=Kh g1
      have HWC:=Kh hwc
      clear h3 hA s1 s1' s1w g1 hwc hxa
      go_upto_region 20 with fail
      rw [← HWC.out]
      clear b0 b1 b2 b3 b4 f1 f2 cm q1 q2 na e0 e1 e2 e3 e4
      have HNC:=Kh (HNB.out.kept HGC.out (fun e=>hnbo (Oj e).symm));have HMC:=Kh (HMB.out.kept HGC.out (fun e=>hmbo (Oj e).symm))
      have HOC:Hid (wc.ownsRow w.heap.size 60 5 (.slice sa l.length sc) l.length (yI l)):=Kh (HOB.out.kept HGC.out (by
       rcases hv:(Value.slice sa l.length sc).ownBlock with _|q
       ·exact .inl rfl
       ·exact .inr (fun e=>by have e:q=o:=Oj e;have:=HOLT.out q hv;omega)))
      have HGW:=Kh (zG HGB.out HGC.out (fun q e=>by have e:o=q:=Oj e;have:=HOE.out;omega))
      have cn:=HNC.out.nat k (by rw [HNL.out];exact hk)
      have fn:=HNC.out.frozen k
      have gd:=zH wc ⟨nb,k,none⟩ (.int .i64 (l.length:Int))
      have ad:=HNC.out.nat_set k (by rw [HNL.out];exact hk) l.length
      obtain ⟨wd,hwd⟩:∃ W,W=wc.setCell ⟨nb,k,none⟩ (.int .i64 (l.length:Int)):=⟨_,rfl⟩
      rw [← hwd] at gd ad
      have hbd:=zE HBC.out gd (fun e=>hnbo (Oj e))
      have HMD:=Kh (HMC.out.kept gd (fun e=>by have e:nb=w.heap.size:=Oj e;omega))
      have HND:=Kh ad
      have HOD:Hid (wd.ownsRow w.heap.size 60 5 (.slice sa l.length sc) l.length (yI l)):=Kh (HOC.out.kept gd (.inr (by
       obtain ⟨cur,rest,hh,_⟩:=HNC.out
       exact zS HOC.out hh (by decide))))
      have HGD:=Kh (zG HGW.out gd (fun q e=>by have e:nb=q:=Oj e;omega))
      have HWD:=Kh hwd
      have HBD:=Kh hbd
      have hwdz:=HGD.out.size
      have hod:o < wd.heap.size:=zQ hbd
      clear gd ad hwd hbd
      go_upto_region 21 with fail
      rw [← HWD.out]
      clear cn fn
      obtain ⟨r0,r1,r2,r3,r4⟩:=wR HBD.out
      have hbyn:(l.length+1) * by5≤4097 * 64:=Nat.mul_le_mul (by omega) hby5
      go_wp2_with (at_builtin;refine app5n rfl _ _ _ rfl HE5.out w.heap.size _ l.length (yI l) rfl HOD.out r rfl ?c1 ?c2 ?c3 ?_;(case c1=>(unfold maxLen;omega));(case c2=>omega);(case c3=>omega);intro sa8 sc8 w8 hown8 hg8)
      rw [← qF] at hown8
      have HO8:Hid (w8.ownsRow w.heap.size 60 5 (.slice sa8 (l ++ [r]).length sc8) (l ++ [r]).length (yI (l ++ [r]))):=Kh (by rw [List.length_append,List.length_singleton];exact hown8)
      have hlow:=fun q e=>(HOD.out.lt q e).1
      have HG8:=Kh (zG HGD.out hg8 (fun q e=>hlow q e))
      have HN8:=Kh (HND.out.kept hg8 (by
       obtain ⟨cur,rest,hh,_⟩:=HND.out
       exact zS HOD.out hh (by decide)))
      have HM8:=Kh (HMD.out.kept hg8 (by
       obtain ⟨cur,rest,hh,_⟩:=HMD.out
       exact zS HOD.out hh (by decide)))
      have HEL:Hid ((l ++ [r]).length=l.length+1):=Kh (by simp)
      clear hown8 hg8 hlow r0 r1 r2 r3 r4
      go_wp2
      go_roundg (m - (k+1))
      case measure=>have:=HGH.out;omega
      case rel=>exact ⟨k+1,_,l ++ [r],sa8,sc8,by have:=HGH.out;omega,by go_num,by rw [HEL.out],HPU,HN8,HM8,HO8,HG8⟩
  ·obtain ⟨j,hj⟩:∃ j,k=j+1:=⟨k - 1,by omega⟩
   have hzj:z=(j:Int):=by have:=HZ.out;omega
   subst hzj
   have hjm:j < m:=by omega
   have hjm':(j:Int) < m:=by omega
   have hjs:j < ss.length:=by rw [HL.out];exact hjm
   have hwj:wrap64 ((j:Int) - 1)=(j:Int) - 1:=IntWalk.wrap64_in _ (by omega)
   have hst:=HS.out.kept HG.out (by simp)
   have c0:=hst.op j hjs
   have c1:=hst.a j hjs
   have c2:=hst.b j hjs
   have hsb:=HOK.out j hjs
   obtain ⟨st,est⟩:∃ st,st=ss.getD j default:=⟨_,rfl⟩
   rw [← est] at c0 c1 c2
   have hops:=qAY est hsb
   have HEST:=Kh est
   have HMK1:Hid (MarksOk ss bs (j+1)):=Kh (by have:=HMK.out;rw [hj] at this;exact this)
   have hbl:bs.length=m:=by rw [HMK.out.len,HL.out]
   have cm:=HA.out.bool j (by rw [hbl];exact hjm)
   have HBL:=Kh hbl
   have HJ:=Kh hj
   clear hj hk0 HZ HMK hbl est hst hsb
   cases hbj:bs.getD j false with
   | false =>
    rw [hbj] at cm
    have HC:Hid (MarksOk ss bs j):=Kh (HMK1.out.close (fun h=>by rw [hbj] at h;cases h) (fun h=>by rw [hbj] at h;cases h))
    clear hbj
    go_wp2
    go_roundg j
    case measure=>have:=HJ.out;have:=HGK.out;omega
    case rel=>exact ⟨j,bs,(j:Int) - 1,rfl,by omega,rfl,Kh rfl,HA,HG,HC⟩
   | true =>
    rw [hbj] at cm
    rcases hops with h1|⟨h2,⟨ha0,ha1⟩,hb0,hb1⟩|⟨h3,ha0,ha1⟩
    ·have q1:(st.op != 1)=false:=by rw [h1];rfl
     have HC:Hid (MarksOk ss bs j):=Kh (HMK1.out.close (fun _ h=>absurd (by rw [← HEST.out];exact h1) h) (fun _ h=>by rw [← HEST.out,h1] at h;omega))
     clear hbj h1
     go_wp2
     go_roundg j
     case measure=>have:=HJ.out;have:=HGK.out;omega
     case rel=>exact ⟨j,bs,(j:Int) - 1,rfl,by omega,rfl,Kh rfl,HA,HG,HC⟩
    ·have q1:(st.op != 1)=true:=by rw [h2];rfl
     have q2:(st.op == 2)=true:=by rw [h2];rfl
     obtain ⟨xa,hxa⟩:∃ xa:Nat,(xa:Int)=st.a:=⟨st.a.toNat,by omega⟩
     obtain ⟨xb,hxb⟩:∃ xb:Nat,(xb:Int)=st.b:=⟨st.b.toNat,by omega⟩
     have hxam:(xa:Int) < m:=by omega
     have hxbm:(xb:Int) < m:=by omega
     have ca:=HA.out.bool xa (by rw [HBL.out];omega)
     have fa:=HA.out.frozen xa
     have A1:=HA.out.bool_set xa (by rw [HBL.out];omega) true
     have g1:=zH wr ⟨w.heap.size,xa,none⟩ (.bool true)
     have hG1:=zG HG.out g1 (fun q e=>by have e:w.heap.size=q:=Oj e;omega)
     have st1:=HS.out.kept hG1 (by simp)
     have k0:=st1.op j hjs
     have k2:=st1.b j hjs
     rw [← HEST.out] at k0 k2
     rw [← hxb] at k2 c2
     rw [← hxa] at c1
     have cb:=A1.bool xb (by rw [List.length_set,HBL.out];omega)
     have fb:=A1.frozen xb
     have A2:=A1.bool_set xb (by rw [List.length_set,HBL.out];omega) true
     have hG2:=zG hG1 (zH (wr.setCell ⟨w.heap.size,xa,none⟩ (.bool true)) ⟨w.heap.size,xb,none⟩ (.bool true)) (fun q e=>by have e:w.heap.size=q:=Oj e;omega)
     obtain ⟨wc,hwc⟩:∃ W,W=(wr.setCell ⟨w.heap.size,xa,none⟩ (.bool true)).setCell ⟨w.heap.size,xb,none⟩ (.bool true):=⟨_,rfl⟩
     rw [← hwc] at A2 hG2
     have HC:Hid (MarksOk ss ((bs.set xa true).set xb true) j):=Kh (((HMK1.out.set (by omega)).set (by omega)).close (fun _ _=>by
      rw [← HEST.out,← hxa,Int.toNat_natCast];exact qH (tB (by rw [HBL.out];omega))) (fun _ _=>by
      rw [← HEST.out,← hxb,Int.toNat_natCast];exact tB (by rw [List.length_set,HBL.out];omega)))
     have HA2:=Kh A2;have HG2:=Kh hG2;have HWC:=Kh hwc
     clear hbj h2 A1 A2 g1 hG1 hG2 st1 hwc hxa hxb
     go_upto_region 5 with fail
     rw [← HWC.out]
     clear ca fa cb fb k0 k2 c0 c1 c2 cm
     go_wp2
     go_roundg j
     case measure=>have:=HJ.out;have:=HGK.out;omega
     case rel=>exact ⟨j,_,(j:Int) - 1,rfl,by omega,rfl,Kh rfl,HA2,HG2,HC⟩
    ·have q1:(st.op != 1)=true:=by rw [h3];rfl
     have q2:(st.op == 2)=false:=by rw [h3];rfl
     obtain ⟨xa,hxa⟩:∃ xa:Nat,(xa:Int)=st.a:=⟨st.a.toNat,by omega⟩
     have hxam:(xa:Int) < m:=by omega
     have ca:=HA.out.bool xa (by rw [HBL.out];omega)
     have fa:=HA.out.frozen xa
     have A1:=HA.out.bool_set xa (by rw [HBL.out];omega) true
     have hG1:=zG HG.out (zH wr ⟨w.heap.size,xa,none⟩ (.bool true)) (fun q e=>by have e:w.heap.size=q:=Oj e;omega)
     have st1:=HS.out.kept hG1 (by simp)
     have k0:=st1.op j hjs
     rw [← HEST.out] at k0
     obtain ⟨we,hwe⟩:∃ W,W=wr.setCell ⟨w.heap.size,xa,none⟩ (.bool true):=⟨_,rfl⟩
     rw [← hwe] at A1 hG1
     rw [← hxa] at c1
     have HC:Hid (MarksOk ss (bs.set xa true) j):=Kh ((HMK1.out.set (by omega)).close (fun _ _=>by
      rw [← HEST.out,← hxa,Int.toNat_natCast];exact tB (by rw [HBL.out];omega)) (fun _ h=>by rw [← HEST.out,h3] at h;omega))
     have HA2:=Kh A1;have HG2:=Kh hG1;have HWE:=Kh hwe
     clear hbj h3 A1 hG1 st1 hwe hxa
     go_upto_region 5 with fail
     rw [← HWE.out]
     clear ca fa k0 c0 c1 c2 cm
     go_wp2
     go_roundg j
     case measure=>have:=HJ.out;have:=HGK.out;omega
     case rel=>exact ⟨j,_,(j:Int) - 1,rfl,by omega,rfl,Kh rfl,HA2,HG2,HC⟩
theorem find_cases (ss:List StepV) (s:Int):(∃ i:Nat,i < ss.length∧rM ss s=i∧hits s (ss.getD i default)=true)∨(rM ss s = -1∧∀ i,i < ss.length→hits s (ss.getD i default)=false):=by
 unfold rM
 cases h:ss.findIdx? (hits s) with
 | some i =>
  obtain ⟨hi,h1,_⟩:=List.findIdx?_eq_some_iff_getElem.1 h
  exact .inl ⟨i,hi,rfl,by simpa [List.getD,List.getElem?_eq_getElem hi] using h1⟩
 | none =>
  refine .inr ⟨rfl,fun i hi=>?_⟩
  have:=List.findIdx?_eq_none_iff.1 h _ (List.getElem_mem hi)
  simpa [List.getD,List.getElem?_eq_getElem hi] using this
theorem step_take {t:List (List Int)} {im:List Int} {ss:List StepV} {k i:Nat} (hi:i < k) (h:tI t im ss i=true):tI t im (ss.take k) i=true:=by
 have key:∀ j,j < k→(ss.take k).getD j default=ss.getD j default:=fun j hj=>by
  rw [List.getD_eq_getElem?_getD,List.getElem?_take_of_lt hj,← List.getD_eq_getElem?_getD]
 simp only [tI] at h ⊢
 rw [key i hi]
 split at h
 ·rename_i h1;rw [if_pos h1];exact h
 rename_i h1
 rw [if_neg h1]
 split at h
 ·rename_i h2
  rw [if_pos h2]
  simp only [Bool.and_eq_true] at h
  have ha:=xY.1 h.1.1.2
  have hb:=xY.1 h.1.2
  rw [key _ (by omega),key _ (by omega)]
  simp only [Bool.and_eq_true];exact h
 rename_i h2
 rw [if_neg h2]
 split at h
 ·rename_i h3
  rw [if_pos h3]
  simp only [Bool.and_eq_true] at h
  have ha:=xY.1 h.1.1.2
  rw [key _ (by omega)]
  simp only [Bool.and_eq_true];exact h
 ·cases h
theorem iO {w:World} {p e:Nat} {x0 x1:Value} (h:w.heap[p]?=some (.cells #[x0,x1] e (0,0))):w.cell? ⟨p,0,none⟩=some x0∧w.cell? ⟨p,1,none⟩=some x1:=by
 have c0:=zI h 0 (by simp)
 have c1:=zI h 1 (by simp)
 exact ⟨by simpa using c0,by simpa using c1⟩
theorem qR {ss:List StepV} {k j:Nat} (hj:j < k):(ss.take k).getD j default=ss.getD j default:=by
 rw [List.getD_eq_getElem?_getD,List.getElem?_take_of_lt hj,← List.getD_eq_getElem?_getD]
theorem take_len {ss:List StepV} {i:Nat} (hi:i < ss.length):(ss.take (i+1)).length=i+1:=by
 rw [List.length_take];omega
theorem sD {ss:List StepV} {k j:Nat} (hj:j < (ss.take k).length):j < k∧j < ss.length:=by
 rw [List.length_take] at hj;omega
theorem StepsAt.take {w:World} {g:Nat} {ss:List StepV} (h:StepsAt w g ss) (k:Nat):StepsAt w g (ss.take k) where
 lt:=h.lt
 op:=fun j hj=>by rw [qR (sD hj).1];exact h.op j (sD hj).2
 a:=fun j hj=>by rw [qR (sD hj).1];exact h.a j (sD hj).2
 b:=fun j hj=>by rw [qR (sD hj).1];exact h.b j (sD hj).2
 word:=fun j hj=>by rw [qR (sD hj).1];exact h.word j (sD hj).2
 set:=fun j hj=>by rw [qR (sD hj).1];exact h.set j (sD hj).2
theorem take_steps {t:List (List Int)} {im:List Int} {ss:List StepV} (h:sX t im ss ss.length) (k:Nat):sX t im (ss.take k) (ss.take k).length:=fun j hj=>step_take (sD hj).1 (h j (sD hj).2)
theorem take_words {ss:List StepV} (h:∀ i,i < ss.length→(ss.getD i default).word.size≤maxLen) (k:Nat):∀ i,i < (ss.take k).length→((ss.take k).getD i default).word.size≤maxLen:=fun j hj=>by rw [qR (sD hj).1];exact h j (sD hj).2
theorem DerAt.steps {C dp p g n:Nat} {w:World} {ss:List StepV} {ix:List Nat} (h:DerAt C w dp p g n ss ix) (h0:0 < ss.length):∃ q sc,w.heap[dp]?=some (.cells #[.pointer (some ⟨p,0,none⟩),.slice (some ⟨q,0,none⟩) ss.length sc,.slice (some ⟨g,0,none⟩) (2 ^ n) (2 ^ n)] 95 (0,0))∧StepsAt w q ss∧ss.length≤sc∧sc≤maxLen:=by
 obtain ⟨sa,sc,hb,ho⟩:=h.box
 rcases id ho.2 with ⟨_,e⟩|⟨gg,cap,cur,e,hc,hg,h1,h2,_⟩
 ·omega
 ·simp only [Value.slice.injEq] at e
  obtain ⟨rfl,_,rfl⟩:=e
  exact ⟨gg,sc,hb,StepsAt.of_owns ho,h1,h2⟩
theorem DState.typed {F C p go dp g q e:Nat} {w0 w w':World} {t:List (List Int)} {im:List Int} {ix0 ix:List Nat} {ss:List StepV} {c:Array Value} {m:Nat × Nat} (h:DState F C w0 w p go dp g t im ix0 ss ix) (hq:w.heap[q]?=some (.cells c e m)) (h1:60≠e) (h2:3≠e) (h3:95≠e) (hC:C≤q) (h0:w0.heap.size≤q) (hg:w.grownBy w' (some q)) (hFC:F≤C) (htF:1 < F):DState F C w0 w' p go dp g t im ix0 ss ix:=by
 obtain ⟨sa,sc,hb,how⟩:=h.der.box
 have hdq:dp≠q:=fun e2=>by
  subst e2
  rw [hb] at hq
  simp only [Option.some.injEq,Obj.cells.injEq] at hq
  exact h3 hq.2.1
 have hgq:g≠q:=h.der.arr.type_ne hq h2
 exact ⟨h.sets.kept hg (fun k e=>by have e:q=k:=Oj e;omega),⟨⟨sa,sc,zE hb hg (fun e=>hdq (Oj e).symm),how.kept hg (.inr (zS how hq h1))⟩,h.der.arr.kept hg (fun e=>hgq (Oj e).symm),h.der.len,h.der.lo⟩,h.ok,h.le,h.but.step hg (fun k e=>by have e:q=k:=Oj e;exact .inr (by omega)),h.tab.kept hg (fun e=>by have e:q=1:=Oj e;omega),Nat.le_trans h.sz hg.size⟩
theorem DState.more {F C p go dp g:Nat} {w0 w1 w:World} {t:List (List Int)} {im:List Int} {ix0 ix1 ix:List Nat} {ss1 ss:List StepV} (h:DState F C w0 w1 p go dp g t im ix0 ss1 ix1) (k:DState F C w1 w p go dp g t im ix1 ss ix):DState F C w0 w p go dp g t im ix0 ss ix :=
 ⟨k.sets,k.der,k.ok,h.le.trans k.le,iR h.but k.but,k.tab,k.sz⟩
def DeriveOk (w:World) (t:List (List Int)) (im:List Int) (s:Int) (e:Ending) (w':World):Prop :=
 w.grownBy w' none∧((derE t im s≠0∧e=.returned (.tuple #[.slice none 0 0,.int .i64 (derE t im s)])) ∨
  (derE t im s=0∧∃ (sa:Option Addr) (sc:Nat) (l:List StepV) (S:Nat),e=.returned (.tuple #[.slice sa l.length sc,.int .i64 0])∧w'.ownsRow w.heap.size 60 5 (.slice sa l.length sc) l.length (yI l)∧sX t im l l.length∧0 < l.length∧l.length≤4096∧(∀ i,i < l.length→(l.getD i default).word.size≤maxLen)∧(l.getD (l.length - 1) default).set=(S:Int)∧S < 2 ^ t.length∧s.toNat &&& S=s.toNat))
theorem hit_in {t:List (List Int)} {im:List Int} {ss:List StepV} {ix:List Nat} {s:Int} {i:Nat} (hg:Good t im) (h:DerS t im ss ix) (hs:setB t.length s=true) (hi:i < ss.length) (hh:hits s (ss.getD i default)=true):tZ (intL (tK t im)) s=true∧∃ S:Nat,(ss.getD i default).set=(S:Int)∧S < 2 ^ t.length∧s.toNat &&& S=s.toNat:=by
 obtain ⟨S,h1,h2,h3⟩:=h.d.uc i hi
 have hp:2 ^ t.length≤2 ^ 12:=Nat.pow_le_pow_right (by omega) hg.le
 simp only [setB,decide_eq_true_eq] at hs
 obtain ⟨x,rfl⟩:∃ x:Nat,s=(x:Int):=⟨s.toNat,by omega⟩
 have hx:x < 2 ^ t.length:=by omega
 simp only [hits,h1,beq_iff_eq] at hh
 rw [tS S x (by omega) (by omega)] at hh
 have hh:S &&& x=x:=by omega
 have hx2:x &&& S=x:=by rw [Nat.and_comm];exact hh
 obtain ⟨b,hb,hbs⟩:=yX.1 h3
 exact ⟨within_uc hg hx (yX.2 ⟨b,hb,mK hx2 hbs⟩),S,h1,h2,by rw [Int.toNat_natCast];exact hx2⟩
theorem hit_no {t:List (List Int)} {im:List Int} {ss:List StepV} {ix:List Nat} {s:Int} (hg:Good t im) (h:DerS t im ss ix) (hl:∀ a∈tK t im,ix.getD a 0≠0) (hn:∀ i,i < ss.length→hits s (ss.getD i default)=false):tZ (intL (tK t im)) s=false:=by
 unfold tZ
 rw [List.any_eq_false]
 intro b hb
 obtain ⟨a,ha,rfl⟩:=List.mem_map.1 hb
 obtain ⟨h1,h2⟩:=h.at_set ((pI hg).2.2 a ha) (hl a ha)
 have:=hn _ h1
 unfold hits at this
 rw [h2] at this
 rw [this];simp
set_option maxRecDepth 100000 in
set_option maxHeartbeats 2000000 in
theorem derive_any (B:Nat) (w:World) (v iv:Value) (t:List (List Int)) (im:List Int) (s:Int) (hB:B≤w.heap.size) (h:Mat B w v t) (hi:Row B w iv (ints im)) (hT:TabOk w) :
  Calls Tryd.prog 36 #[v,iv,.int .i64 s] w (DeriveOk w t im s):=by
 have HCH:=Kh (eT B w v iv t im hB h hi)
 have H:=Kh h;have HI:=Kh hi;have HT:=Kh hT
 obtain ⟨ta,tc,rfl⟩:=h.shape
 obtain ⟨ia,ic,rfl⟩:=hi.shape
 rw [zM] at HCH HI ⊢
 clear h hi hT
 go_enter Tryd.func36,Tryd.ntmps36
 go_wp2_with fail
 refine HCH.out.mono ?_
 rintro e w1 ⟨rfl,hg1⟩
 have HG1:=Kh hg1
 clear HCH hg1
 by_cases hz:yS t im≠0
 ·have HD:=Kh (cC (s:=s) hz)
  obtain ⟨E,hE⟩:∃ E,E=yS t im:=⟨_,rfl⟩
  rw [← hE] at hz HD ⊢
  have e1:(E != 0)=true:=by rw [bne_iff_ne];exact hz
  have HE:=Kh hz
  clear hE hz
  go_wp2
  refine bodyPost_ret (v:=.tuple #[.slice none 0 0,.int .i64 E]) (by simp [results,Tryd.results36,go_sem]) rfl ?_
  exact ⟨HG1.out,.inl ⟨by rw [HD.out];exact HE.out,by rw [HD.out]⟩⟩
 replace hz:yS t im=0:=by omega
 rw [hz]
 have hgd:=uP.1 hz
 have hle:=hgd.le
 have hva:=hgd.valid
 have HZ:=Kh hz;have HGD:=Kh hgd;have HVA:=Kh hva;have HTB:=Kh (oK hva)
 clear hz hgd hva
 by_cases h0:s=0
 ·have HE:=Kh (fB (s:=s) HZ.out (.inl h0))
  have HS0:=Kh h0
  have e1:(s == 0)=true:=by rw [h0];rfl
  clear h0
  go_wp2
  refine bodyPost_ret (v:=.tuple #[.slice none 0 0,.int .i64 1]) (by simp [results,Tryd.results36,go_sem]) rfl ?_
  exact ⟨HG1.out,.inl ⟨by rw [HE.out];omega,by rw [HE.out]⟩⟩
 have e1:(s == 0)=false:=by rw [beq_eq_false_iff_ne];exact h0
 have HS0:=Kh h0
 clear h0
 go_wp2_with fail
 refine (oY _ ta t.length tc s hle).mono ?_
 rintro e w2 ⟨rfl,rfl⟩
 by_cases hs:setB t.length s=false
 ·have HE:=Kh (fB HZ.out (.inr hs))
  rw [hs]
  clear hs
  go_wp2
  refine bodyPost_ret (v:=.tuple #[.slice none 0 0,.int .i64 1]) (by simp [results,Tryd.results36,go_sem]) rfl ?_
  exact ⟨HG1.out,.inl ⟨by rw [HE.out];omega,by rw [HE.out]⟩⟩
 replace hs:setB t.length s=true:=by simpa using hs
 rw [hs]
 have HSB:=Kh hs
 have HEI:=Kh (qDF (s:=s) HZ.out (fun h=>h.elim HS0.out (fun h=>by rw [HSB.out] at h;cases h)))
 clear hs
 have HN:=Kh (qZ B w1 _ t (by have:=HG1.out.size;omega) (H.out.kept HG1.out (by simp)) HVA.out hle (HT.out.kept HG1.out (by simp)))
 go_wp2_with fail
 refine HN.out.mono ?_
 rintro e w2 ⟨p,go,rfl,hs2,hg2⟩
 have HS2:=Kh hs2;have HG2:=Kh (zG HG1.out hg2 (by simp))
 have hgo:=hs2.go_lt'
 have hwF:=HG1.out.size
 have hFC:=hg2.size
 have htw:=HT.out.1
 have htF:1 < w1.heap.size:=by omega
 obtain ⟨F,hF⟩:∃ F,F=w1.heap.size:=⟨_,rfl⟩
 obtain ⟨C,hC⟩:∃ C,C=w2.heap.size:=⟨_,rfl⟩
 rw [← hF,← hC] at HS2 hgo hFC
 rw [← hF] at htF hwF
 have hCe:C≤w2.heap.size:=by omega
 have hCe':w2.heap.size≤C:=by omega
 have HCC:=Kh hC
 clear hF hC hs2 hg2 HN
 have hsh:=qE (m:=t.length) (by omega)
 obtain ⟨N,hN⟩:∃ N,N=2 ^ t.length:=⟨_,rfl⟩
 have hN4:N≤4096:=by have:=uR hle;omega
 rw [← hN] at hsh
 have HNN:=Kh hN
 clear hN
 go_wp2_with (at_make;refine kB rfl _ _ _ rfl yC rfl _ _ _ _ N rfl rfl hsh hsh ?b1 ?b2 ?_;(case b1=>omega);(case b2=>(unfold maxLen;omega));intro w3 ha3 hg3 hz3;rw [← wG] at ha3)
 have HA3:=Kh ha3;have HG3:=Kh hg3
 obtain ⟨g,hg⟩:∃ g,g=w2.heap.size:=⟨_,rfl⟩
 rw [← hg] at HA3 ⊢
 have hgC:C≤g:=by omega
 have hgz:g < w3.heap.size:=by omega
 clear ha3 hg3 hsh hg
 obtain ⟨w4,hw4⟩:∃ W,W=w3.alloc (.cells #[.pointer (some ⟨p,0,none⟩),.slice none 0 0,.slice (some ⟨g,0,none⟩) N N] 95):=⟨_,rfl⟩
 have hg4:=Ga w3 (.cells #[.pointer (some ⟨p,0,none⟩),.slice none 0 0,.slice (some ⟨g,0,none⟩) N N] 95) none
 have hb4:=heap_alloc_new w3 (.cells #[.pointer (some ⟨p,0,none⟩),.slice none 0 0,.slice (some ⟨g,0,none⟩) N N] 95)
 rw [← hw4] at hg4 hb4
 obtain ⟨dp,hdp⟩:∃ dp,dp=w3.heap.size:=⟨_,rfl⟩
 rw [← hdp] at hb4
 have HW4:=Kh hw4;have HDP:=Kh hdp
 have hdz:=zQ hb4
 have hgdp:g < dp:=by omega
 have HG24:=Kh (zG HG3.out hg4 (by simp))
 have HD4:Hid (DState F C w4 w4 p go dp g t im (List.replicate (2 ^ t.length) 0) [] (List.replicate (2 ^ t.length) 0)):=Kh (by
  refine ⟨HS2.out.kept HG24.out (by simp),⟨⟨none,0,by rw [← HNN.out];exact hb4,World.ownsRow_nil _ _ _ _⟩,by rw [← HNN.out];exact HA3.out.kept hg4 (by simp),by simp,by omega,hgC⟩,derS_nil t im,IxLe.refl _,GrownBut.refl _ _,(HT.out.kept (zG HG2.out HG24.out (by simp)) (by simp)),by omega⟩)
 have HGW4:=Kh (zG HG2.out HG24.out (by simp))
 have hzw4:=HGW4.out.size
 clear hw4 hg4 hb4 hdp HA3 HG3
 go_upto_region 8 with fail
 rw [← HW4.out,← HDP.out]
 go_wp2_with fail
 refine (dbegin_any F C B w4 p go dp g _ _ t im [] _ HD4.out HGD.out (by omega) (H.out.kept HGW4.out (by simp)) (HI.out.kept HGW4.out (by simp)) (by omega) hFC htF).mono ?_
 rintro e w5 ⟨rfl,ss5,ix5,hd5,hp5⟩
 have HD5:=Kh hd5;have HP5:=Kh hp5
 have hz45:=hd5.but.size
 have hwB5:w.grownBy w5 none:=hd5.but.grown HGW4.out (fun k hk=>.inr (by rcases hk with e|e|e|⟨e,_⟩ <;> omega))
 have HGW5:=Kh hwB5
 clear hd5 hp5 hwB5 HD4
 go_wp2_with fail
 refine (oE B w5 _ _ t im (by omega) (H.out.kept HGW5.out (by simp)) (HI.out.kept HGW5.out (by simp)) HGD.out).mono ?_
 rintro e w6 ⟨sa6,sc6,rfl,hown6,hg6⟩
 have HD6:=Kh (HD5.out.quiet hg6)
 have HR6:=Kh (Row.of_owns hown6)
 have HGW6:=Kh (zG HGW5.out hg6 (by simp))
 have hz56:=hg6.size
 clear hown6 hg6
 go_wp2_with fail
 refine (kL F C w6 p go t.length (entN t) _ w6.heap.size (genL t im) HD6.out.sets hle HR6.out (nT HGD.out) (Nat.le_refl _)).mono ?_
 rintro e w7 ⟨sa7,sc7,rfl,hown7,hg7⟩
 have HST:Hid (wT t.length (genL t im)=uH t im):=Kh rfl
 rw [HST.out] at hown7 ⊢
 have hpos:=fL HGD.out
 obtain ⟨k0,rfl,hk1,hk2,harr⟩:=yK hown7 hpos
 have hkl:=hown7.lt k0 rfl
 obtain ⟨l0,hl0⟩:∃ l0,l0=uH t im:=⟨_,rfl⟩
 have HIN:Hid (∀ a∈l0,ix5.getD a 0≠0):=Kh (fun a ha=>by
  rw [hl0] at ha
  obtain ⟨j,hj,rfl⟩:=List.getElem_of_mem (jM (nT HGD.out) ha)
  have:=HP5.out j hj
  rwa [zY hj] at this)
 rw [← hl0] at hpos hk1 harr ⊢
 have HF0:Hid (kD t.length (l0,false)):=Kh (by rw [hl0];exact gO HGD.out)
 have HL0:=Kh hl0
 have HD7:=HD6.out.quiet hg7
 have hz67:=hg7.size
 obtain ⟨w8,hw8⟩:∃ W,W=w7.alloc (.cells #[.slice (some ⟨k0,0,none⟩) l0.length sc7,.bool false] 49):=⟨_,rfl⟩
 have hg8:=Ga w7 (.cells #[.slice (some ⟨k0,0,none⟩) l0.length sc7,.bool false] 49) none
 have hb8:=heap_alloc_new w7 (.cells #[.slice (some ⟨k0,0,none⟩) l0.length sc7,.bool false] 49)
 rw [← hw8] at hg8 hb8
 obtain ⟨fb,hfb⟩:∃ fb,fb=w7.heap.size:=⟨_,rfl⟩
 rw [← hfb] at hb8
 have HW8:=Kh hw8;have HFB:=Kh hfb;have HB8:=Kh hb8
 have HD8:=Kh (HD7.quiet hg8)
 have HFR:Hid (FamRow w8 dp g go k0 l0):=Kh ⟨harr.kept hg8 (by simp),by omega,by omega,by omega⟩
 have hCf:C≤fb:=by omega
 have hCk:C≤k0:=by omega
 have hkf:k0≠fb:=by omega
 have h4f:w4.heap.size≤fb:=by omega
 have HGO:Hid (kV t.length (entN t) l0 l0 false):=Kh ⟨HF0.out,0,rfl⟩
 clear hw8 hg8 hb8 hfb HD7 hown7 hg7 harr hl0 HP5 HD5 HD6 HR6
 go_upto_region 10 with fail
 rw [← HW8.out,← HFB.out]
 go_loopg [] (togo t.length l0 false) (fun gh wr=>∃ (k sc:Nat) (l:List Nat) (d:Bool) (ss:List StepV) (ix:List Nat),gh=togo t.length l d∧Hid (kV t.length (entN t) l0 l d)∧0 < l.length∧Hid (DState F C w4 wr p go dp g t im (List.replicate (2 ^ t.length) 0) ss ix)∧Hid (FamRow wr dp g go k l)∧l.length≤sc∧sc≤maxLen∧k≠fb∧C≤k∧Hid (wr.heap[fb]?=some (.cells #[.slice (some ⟨k,0,none⟩) l.length sc,.bool d] 49 (0,0)))∧Hid (∀ a∈l,ix.getD a 0≠0))
 case atStart=>exact ⟨k0,sc7,l0,false,ss5,ix5,rfl,HGO,hpos,HD8,HFR,hk1,hk2,hkf,hCk,HB8,HIN⟩
 case round =>
  clear HGO HD8 HFR hk1 hk2 hkf hCk HB8 HIN hpos
  obtain ⟨k,sc,l,d,ss,ix,hgh,HGO,hpos,HD,HFR,hk1,hk2,hkf,hCk,HB,HIN⟩:=hrel
  have HGH:=Kh hgh
  clear hgh
  have hzr:=HD.out.but.size
  have hwr:w.grownBy wr none:=HD.out.but.grown HGW4.out (fun q hq=>.inr (by rcases hq with e|e|e|⟨e,_⟩ <;> omega))
  have HGR:=Kh hwr
  have hss:=HD.out.ok.i.le
  rw [← HNN.out] at hss
  have hs0:0 < ss.length:=by
   have hm:l.getD 0 0∈l:=pE hpos
   have:=(HD.out.ok.at_set (HGO.out.1.1 _ hm) (HIN.out _ hm)).1
   omega
  obtain ⟨q,qc,hbx,hst,hq1,hq2⟩:=HD.out.der.steps hs0
  have HBX:=Kh hbx;have HSTP:=Kh hst
  clear hwr hbx hst
  go_wp2_with fail
  refine (find_any wr dp q (2 ^ t.length) qc _ _ _ ss s HBX.out HSTP.out (by omega)).mono ?_
  rintro e wf ⟨rfl,hgf⟩
  have HDF:=Kh (HD.out.quiet hgf);have HGF:=Kh (zG HGR.out hgf (by simp));have HSF:=Kh (HSTP.out.kept hgf (by simp));have HBF:=Kh (zE HB.out hgf (by simp));have HBXF:=Kh (zE HBX.out hgf (by simp))
  have HFF:Hid (FamRow wf dp g go k l):=Kh ⟨HFR.out.arr.kept hgf (by simp),HFR.out.nd,HFR.out.ng,HFR.out.no⟩
  have hzf:=hgf.size
  clear hgf
  rcases find_cases ss s with ⟨i,hi,hfi,hh⟩|⟨hfn,hno⟩
  ·rw [hfi]
   obtain ⟨hin,S,hS1,hS2,hS3⟩:=hit_in HGD.out HDF.out.ok HSB.out hi hh
   have HIN2:=Kh hin;have HS1:=Kh hS1;have HS2':=Kh hS2;have HS3:=Kh hS3
   clear hfi hin hS1 hS2 hS3 hh
   have hi0:(0:Int)≤i:=by omega
   obtain ⟨d0,d1,d2⟩:=uJ HBXF.out
   have hqc:i+1≤qc:=by omega
   have hqm:qc≤9223372036854775807:=by unfold maxLen at hq2;omega
   have HTK:Hid ((ss.take (i+1)).length=i+1):=Kh (take_len hi)
   have HKEY:Hid ((ss.take (i+1)).getD i default=ss.getD i default):=Kh (qR (Nat.lt_succ_self i))
   have HNE:=Kh (needed_any wf q qc (i+1) i t im (ss.take (i+1)) HTK.out rfl (by omega) (HSF.out.take _) (take_steps HDF.out.ok.d.ok _) (take_words HDF.out.ok.d.wz _))
   have hi4:(i:Int)≤4096:=by omega
   go_wp2_with fail
   refine HNE.out.mono ?_
   rintro e wn ⟨hgn,sn,cn,ln,rfl,hown,hso,hl1,hl2,hl3,hl4⟩
   have HON:=Kh hown;have HGN:=Kh (zG HGF.out hgn (by simp));have HSO:=Kh hso;have HL3:=Kh hl3;have HL4:=Kh hl4
   have hzn:=HGF.out.size
   clear hown hgn hso hl3 hl4
   go_wp2
   refine bodyPost_ret (v:=.tuple #[.slice sn ln.length cn,.int .i64 0]) (by simp [results,Tryd.results36,go_sem]) rfl ?_
   refine ⟨HGN.out,.inr ⟨by rw [HEI.out,if_pos HIN2.out],sn,cn,ln,S,rfl,yJ HON.out hzn,HSO.out,hl1,by rw [HTK.out] at hl2;omega,HL4.out,?_,HS2'.out,HS3.out⟩⟩
   rw [HL3.out,HTK.out,Nat.add_sub_cancel,HKEY.out];exact HS1.out
  ·rw [hfn]
   have HNO:=Kh hno
   obtain ⟨f0,f1⟩:=iO HBF.out
   have z0:=zD HBF.out 0
   have z1:=zD HBF.out 1
   clear hno hfn
   cases d with
   | true =>
    have HCL:Hid (l=tK t im):=Kh (by unfold tK;rw [← HL0.out];exact HGO.out.stop HTB.out HF0.out)
    have hno:=hit_no HGD.out HDF.out.ok (fun a ha=>HIN.out a (by rw [HCL.out];exact ha)) HNO.out
    have HE:Hid (derE t im s=9):=Kh (by rw [HEI.out,if_neg (by rw [hno];simp)])
    clear hno
    go_wp2
    refine bodyPost_ret (v:=.tuple #[.slice none 0 0,.int .i64 9]) (by simp [results,Tryd.results36,go_sem]) rfl ?_
    exact ⟨HGF.out,.inl ⟨by rw [HE.out];omega,by rw [HE.out]⟩⟩
   | false =>
    have hll:=HGO.out.le
    rw [← HNN.out] at hll
    have HD0:Hid (DState F C wf wf p go dp g t im ix ss ix):=Kh ⟨HDF.out.sets,HDF.out.der,HDF.out.ok,IxLe.refl _,GrownBut.refl _ _,HDF.out.tab,HDF.out.sz⟩
    go_wp2_with fail
    refine (dround_any F C wf p go dp g k sc t im ss ix l HD0.out HGD.out HFF.out (fun a ha=>⟨HGO.out.1.1 a ha,HIN.out a ha⟩) (by omega) hFC htF).mono ?_
    rintro e wg ⟨rfl,ss2,ix2,hd2,hp2⟩
    have HDG:=Kh (HDF.out.more hd2);have HPR:=Kh hp2;have HLE:=Kh hd2.le
    have hfbk:¬ DerF C dp g go wf fb:=fun hf=>by
     rcases hf with e|e|e|⟨_,c,m,e⟩
     ·omega
     ·omega
     ·omega
     ·rw [HBF.out] at e
      simp only [Option.some.injEq,Obj.cells.injEq] at e
      exact absurd e.2.1 (by decide)
    have HBG:=Kh (hd2.but.heap HBF.out hfbk)
    have HFG:=Kh (HFF.out.but hd2.but)
    have hzg:=hd2.but.size
    clear hd2 hp2 f0 f1 z0 z1 HD0 hfbk
    obtain ⟨f0,f1⟩:=iO HBG.out
    have HRO:Hid (RowO F C wg.heap.size wg (.slice (some ⟨k,0,none⟩) l.length sc) (nats l)):=Kh (.inr ⟨k,0,sc,by rw [zN],.inr hCk,HFG.out.arr.lt,by rw [zN];exact hk1,hk2,HFG.out.arr.row⟩)
    have htl:1 < F:=htF
    go_wp2_with fail
    refine (aB F C wg.heap.size wg p go t.length (entN t) _ false l HDG.out.sets HTB.out hle HRO.out hpos HGO.out.1.1 (by omega) (Nat.le_refl _) HDG.out.sz htF HDG.out.tab).mono ?_
    rintro e wh ⟨sa3,sc3,rfl,hown3,hs3,hg3⟩
    have hpos3:=gP HTB.out HGO.out.1.1 hpos
    obtain ⟨k3,rfl,hc1,hc2,harr3⟩:=yK hown3 hpos3
    have hk3:=hown3.lt k3 rfl
    have HM:Hid (togo t.length (zV t.length (entN t) l) (decide (zV t.length (entN t) l=l)) < togo t.length l false):=Kh (HGO.out.less HTB.out)
    have HGN:=Kh (HGO.out.step HTB.out)
    obtain ⟨R,hR⟩:∃ R,R=zV t.length (entN t) l:=⟨_,rfl⟩
    obtain ⟨D,hD⟩:∃ D,D=decide (zV t.length (entN t) l=l):=⟨_,rfl⟩
    have HINR:Hid (∀ a∈R,ix2.getD a 0≠0):=Kh (fun a ha=>by
     rw [hR] at ha
     rcases vK.1 (jM (vJ HTB.out HGO.out.1.1) ha) with h1|⟨x,hx,⟨y,hy,rfl⟩|rfl⟩
     ·exact HLE.out.ne (HIN.out a h1)
     ·obtain ⟨i,hi,rfl⟩:=List.getElem_of_mem hx
      obtain ⟨j,hj,rfl⟩:=List.getElem_of_mem hy
      have:=(HPR.out i hi).1 j hj
      rwa [zY hi,zY hj] at this
     ·obtain ⟨i,hi,rfl⟩:=List.getElem_of_mem hx
      have:=(HPR.out i hi).2
      rwa [zY hi] at this)
    rw [← hD,← hR] at HM HGN
    rw [← hD]
    rw [← hR] at hown3 hpos3 hc1 harr3 ⊢
    have HDH:=Kh (HDG.out.goes hs3 hg3 htF)
    have hr3:=zE HBG.out hg3 (fun e=>by have e:go=fb:=Oj e;omega)
    have HBH:=Kh hr3
    obtain ⟨y0,y1⟩:=iO hr3
    have u0:=zD hr3 0
    have u1:=zD hr3 1
    have hsR:=eK hr3 (.slice (some ⟨k3,0,none⟩) R.length sc3) (.bool D)
    have hgR:wh.grownBy ((wh.setCell ⟨fb,0,none⟩ (.slice (some ⟨k3,0,none⟩) R.length sc3)).setCell ⟨fb,1,none⟩ (.bool D)) (some fb):=zF (zH wh ⟨fb,0,none⟩ _) (zH (wh.setCell ⟨fb,0,none⟩ (.slice (some ⟨k3,0,none⟩) R.length sc3)) ⟨fb,1,none⟩ _)
    have hz3:=hg3.size
    have hzg4:=HDG.out.but.size
    have hk3f:k3≠fb:=by have:=zQ HBG.out;omega
    have HDS:=Kh (HDH.out.typed hr3 (by decide) (by decide) (by decide) hCf h4f hgR hFC htF)
    have hdpl:dp < wg.heap.size:=by omega
    have HFS:Hid (FamRow ((wh.setCell ⟨fb,0,none⟩ (.slice (some ⟨k3,0,none⟩) R.length sc3)).setCell ⟨fb,1,none⟩ (.bool D)) dp g go k3 R):=Kh ⟨harr3.kept hgR (fun e=>hk3f (Oj e).symm),by omega,by omega,by omega⟩
    have HBS:=Kh hsR
    have hCk3:C≤k3:=by have:=HDG.out.sz;omega
    clear hown3 hs3 hg3 hr3 hR hD hsR hgR harr3 f0 f1
    go_wp2
    go_roundg (togo t.length R D)
    case measure=>rw [HGH.out];exact HM.out
    case rel=>exact ⟨k3,sc3,R,D,ss2,ix2,rfl,HGN,hpos3,HDS,HFS,hc1,hc2,hk3f,hCk3,HBS,HINR⟩
end Go.Proofs.YtdjhoadoiknaoaaDoor
namespace Go.Proofs.YtdjhoadoiknaoaaDoor
structure StillG (P:Program) (ops:Array Oper) (w:World) (Q:Act→Prop) (l:List Oper) (a:Act):Prop where
 h:wpStill P ops w Q l a
section
variable {P:Program} {ops:Array Oper} {w:World} {Q:Act→Prop} {a:Act} {o:Oper} {rest:List Oper}
theorem iM (h:Q a):StillG P ops w Q [] a:=⟨wpStill_nil h⟩
theorem vX (hw:Region.wanted o (yielded ops a.tmps)=true) (h:∀ K:Act→Prop,(∀ a,StillG P ops w Q rest a→K a)→o.still P a w K):StillG P ops w Q (o :: rest) a:=by
 refine ⟨?_⟩
 rw [wpStill,if_pos hw]
 exact h _ (fun _ h=>h.h)
theorem g_no (hw:Region.wanted o (yielded ops a.tmps)=false) (h:StillG P ops w Q rest (a.put o.dst undef)):StillG P ops w Q (o :: rest) a:=by
 refine ⟨?_⟩
 rw [wpStill,if_neg (by rw [hw];simp)]
 exact h.h
theorem g_un (hg:o.guard=none) (h:∀ K:Act→Prop,(∀ a,StillG P ops w Q rest a→K a)→o.still P a w K):StillG P ops w Q (o :: rest) a :=
 vX (by simp [Region.wanted,hg]) h
end
end Go.Proofs.YtdjhoadoiknaoaaDoor
namespace Go.Proofs.YtdjhoadoiknaoaaDoor
open Go.RowKit
set_option maxRecDepth 100000 in
set_option maxHeartbeats 4000000 in
theorem qW (B:Nat) (w:World) (v iv sv:Value) (t:List (List Int)) (im:List Int) (ss:List StepV) (hB:B≤w.heap.size) (h:Mat B w v t) (hi:Row B w iv (ints im)) (hs:SRow B w sv ss) (hw:∀ i,i < ss.length→(ss.getD i default).word.size≤maxLen) :
  Calls Tryd.prog 38 #[v,iv,sv] w fun e w'=>e=.returned (.bool (derB t im ss))∧w.grownBy w' none:=by
 have hsl:=hs.len_le
 unfold maxLen at hsl
 have HCH:=Kh (bB B w v iv t im h hi)
 have H:=Kh h;have HI:=Kh hi;have HS:=Kh hs;have HW:=Kh hw
 obtain ⟨ta,tc,rfl⟩:=h.shape
 obtain ⟨ia,ic,rfl⟩:=hi.shape
 obtain ⟨sa,sc,rfl⟩:=hs.shape
 rw [zM] at HCH HI ⊢
 clear h hi hs hw
 go_enter Tryd.func38,Tryd.ntmps38
 go_wp2_with fail
 refine HCH.out.mono ?_
 rintro e w1' ⟨rfl,mq,rfl⟩
 obtain ⟨w1,hw1⟩:∃ W,W=w.drewN mq:=⟨_,rfl⟩
 have HG1:Hid (w.grownBy w1 none):=Kh (by rw [hw1];exact zJ w mq none)
 rw [← hw1]
 clear HCH hw1
 by_cases hz:yS t im≠0
 ·have HD:=Kh (cD (ss:=ss) hz)
  obtain ⟨E,hE⟩:∃ E,E=yS t im:=⟨_,rfl⟩
  rw [← hE] at hz ⊢
  have e1:(E != 0)=true:=by rw [bne_iff_ne];exact hz
  clear hE hz
  go_wp2
  go_ret
  exact ⟨zZ HD.out.symm,HG1.out⟩
 replace hz:yS t im=0:=by omega
 rw [hz]
 by_cases hl:ss.length=0
 ·have HD:=Kh (qBV (t:=t) (im:=im) hl)
  have e1:((ss.length:Int) == 0)=true:=by rw [hl];rfl
  clear hz
  go_wp2
  go_ret
  exact ⟨zZ HD.out.symm,HG1.out⟩
 have hgd:=uP.1 hz
 have e1:((ss.length:Int) == 0)=false:=by rw [beq_eq_false_iff_ne];omega
 have hle:=hgd.le
 have h6:=hgd.im6
 have him0:=hgd.im0
 have hva:=hgd.valid
 have HZ:=Kh hz;have HGD:=Kh hgd;have HVA:=Kh hva;have HTB:=Kh (oK hva);have HSH:=Kh (uY hva).1
 obtain ⟨gb,go_,gcap,ge,hgB,hgc,hgm,hso⟩:=HS.out.some_ (by omega)
 simp only [Value.slice.injEq] at ge
 obtain ⟨rfl,_,rfl⟩:=ge
 have HSO:=Kh hso
 have hgm':sc≤9223372036854775807:=by unfold maxLen at hgm;omega
 have hz12:=HG1.out.size
 clear hz hgd hva hso hgm
 go_wp2_with fail
 go_loopg [22] ss.length (fun gh i wr=>∃ (k:Nat),gh+k=ss.length∧i=.int .i64 (k:Int)∧Hid (sX t im ss k)∧w.grownBy wr none)
 case atStart=>exact ⟨0,rfl,rfl,Kh (fun i hi=>absurd hi (by omega)),HG1.out⟩
 case round =>
  obtain ⟨k,hgh,rfl,hst,hgr⟩:=hrel
  have HGH:=Kh hgh;have HGR:=Kh hgr
  clear hgh hgr
  by_cases hk:¬ k < ss.length
  ·have HD:=Kh (bG HZ.out (by omega) (fun i hi=>hst.out i (by have:=HGH.out;omega)))
   go_wp2
   go_ret
   exact ⟨zZ HD.out.symm,HGR.out⟩
  replace hk:k < ss.length:=by omega
  have hk':(k:Int) < ss.length:=by omega
  have hso:=HSO.out.kept HGR.out (by simp)
  have c0:=hso.op k hk
  have c1:=hso.a k hk
  have c2:=hso.b k hk
  have c3:=hso.word k hk
  have c4:=hso.set k hk
  obtain ⟨st,hst0⟩:∃ st,st=ss.getD k default:=⟨_,rfl⟩
  rw [← hst0] at c0 c1 c2 c3 c4
  have HST:=Kh hst0
  have HWZ:Hid (st.word.size≤maxLen):=Kh (by rw [hst0];exact HW.out k hk)
  clear hst0 hso
  obtain ⟨wb,hwb⟩:∃ W,W=wr.alloc (.cells #[.int .i64 st.op,.int .i64 st.a,.int .i64 st.b,.string st.word,.int .i64 st.set] 60):=⟨_,rfl⟩
  have hgb:wr.grownBy wb none:=by rw [hwb];exact Ga wr _ none
  have hbb:=heap_alloc_new wr (.cells #[.int .i64 st.op,.int .i64 st.a,.int .i64 st.b,.string st.word,.int .i64 st.set] 60)
  rw [← hwb] at hbb
  obtain ⟨o,ho⟩:∃ o,o=wr.heap.size:=⟨_,rfl⟩
  rw [← ho] at hbb
  have HWB:=Kh hwb;have HO:=Kh ho;have HBB:=Kh hbb
  have HGB:=Kh (zG HGR.out hgb (by simp))
  clear hwb hgb hbb ho
  go_upto_region 6 with fail
  rw [← HWB.out,← HO.out]
  clear c0 c1 c2 c3 c4
  obtain ⟨b0,b1,b2,b3,b4⟩:=wR HBB.out
  by_cases hp1:st.op=1
  ·have q1:(st.op == 1)=true:=by rw [hp1];rfl
   have HB:=Kh (oM (t:=t) (im:=im) HST.out hp1)
   clear hp1
   by_cases ha:st.a≠0
   ·have qa:(st.a != 0)=true:=by rw [bne_iff_ne];exact ha
    have HD:Hid (derB t im ss=false):=Kh (xX hk (by rw [HB.out];simp [ha]))
    go_wp2
    go_ret
    exact ⟨zZ HD.out.symm,HGB.out⟩
   replace ha:st.a=0:=by omega
   have qa:(st.a != 0)=false:=by rw [ha];rfl
   by_cases hb:st.b≠0
   ·have qb:(st.b != 0)=true:=by rw [bne_iff_ne];exact hb
    have HD:Hid (derB t im ss=false):=Kh (xX hk (by rw [HB.out];simp [hb]))
    clear ha
    go_wp2
    go_ret
    exact ⟨zZ HD.out.symm,HGB.out⟩
   replace hb:st.b=0:=by omega
   have qb:(st.b != 0)=false:=by rw [hb];rfl
   have HAB:Hid (st.a=0∧st.b=0):=Kh ⟨ha,hb⟩
   clear ha hb
   go_wp2_with fail
   refine (valid01_any st.word im.length wb HWZ.out).mono ?_
   rintro e wq ⟨rfl,rfl⟩
   by_cases hv:yN st.word im.length=false
   ·have HD:Hid (derB t im ss=false):=Kh (xX hk (by rw [HB.out,hv];simp))
    rw [hv]
    clear hv
    go_wp2
    go_ret
    exact ⟨zZ HD.out.symm,HGB.out⟩
   replace hv:yN st.word im.length=true:=by simpa using hv
   rw [hv]
   have HV:=Kh hv
   clear hv qa qb
   have HMB:=Kh (H.out.kept HGB.out (by simp))
   go_wp2_with fail
   refine (oD B wb _ t HMB.out HSH.out).mono ?_
   rintro e wq ⟨rfl,rfl⟩
   rw [(mP HGD.out).2]
   obtain ⟨mb,moff,mcap,RB,RO,RC,meq,hc1,hc2,hq⟩:=HMB.out.sq HSH.out
   simp only [Value.slice.injEq] at meq
   obtain ⟨rfl,_,rfl⟩:=meq
   obtain ⟨ib,io,icp,ieq,_,hi1,hi2,hra⟩:=(HI.out.kept HGB.out (by simp)).some_ (by rw [zM];exact him0)
   rw [zM] at ieq hi1
   simp only [Value.slice.injEq] at ieq
   obtain ⟨rfl,_,rfl⟩:=ieq
   have hmx:tc≤9223372036854775807:=by unfold maxLen at hc2;omega
   have hmi:ic≤9223372036854775807:=by unfold maxLen at hi2;omega
   have hz20:st.word.size≤2048:=by
    have:=HV.out
    simp only [yN,Bool.and_eq_true,decide_eq_true_eq] at this;omega
   have HQ:=Kh hq;have HRA:=Kh hra
   have h1l:=(mP HGD.out).1
   clear hq hra hc2 hi2
   go_wp2_with fail
   go_loopg [9,10] st.word.size (fun gj v9 i wr=>∃ (j m x:Nat),gj+j=st.word.size∧i=.int .i64 (j:Int)∧v9=.int .i64 (x:Int)∧x < t.length∧Hid (x=oJ t im (oneN t) (st.word.data.toList.take j))∧wr=wb.drewN m)
   case atStart=>exact ⟨0,0,oneN t,rfl,rfl,rfl,h1l,Kh rfl,rfl⟩
   case round =>
    obtain ⟨j,m,x,hgj,rfl,rfl,hxl,hxe,rfl⟩:=hrel
    have HGJ:=Kh hgj;clear hgj
    by_cases hj:j < st.word.size
    ·have hj':(j:Int) < st.word.size:=by omega
     have hb:=qDJ HV.out j hj
     obtain ⟨c,hc⟩:∃ c,c=st.word[j].toNat:=⟨_,rfl⟩
     have h1:=qB.1 HGD.out.inb (c - 97) (by omega)
     obtain ⟨y,hy⟩:∃ y:Nat,(y:Int)=im.getD (c - 97) 0:=⟨(im.getD (c - 97) 0).toNat,by omega⟩
     have ci:=HRA.out.int (c - 97) (by omega)
     rw [← hy] at ci h1
     have hyl:y < t.length:=by omega
     have d0:=HQ.out.hd x hxl
     have d1:=HQ.out.el x y hxl hyl
     have hrc:=HQ.out.cap x hxl
     have hrcm:RC x≤9223372036854775807:=by have:=hrc.2;unfold maxLen at this;omega
     obtain ⟨z,hz0⟩:∃ z,z=entN t x y:=⟨_,rfl⟩
     have hzl:z < t.length:=by rw [hz0];exact uX HSH.out hxl hyl
     rw [← hz0] at d1
     have HZ2:Hid (z=oJ t im (oneN t) (st.word.data.toList.take (j+1))):=Kh (by
      rw [qBZ st.word j hj,dF,← hxe.out,← hc,← hy];exact hz0)
     rw [← hc] at hb
     have hcw:IntKind.u8.wrap ((st.word[j].toNat:Int) - 97)=((c - 97:Nat):Int):=by
      rw [← hc];unfold IntKind.wrap;simp [IntKind.signed,IntKind.bits];omega
     obtain ⟨y0,hy0⟩:∃ y0,y0=c - 97:=⟨_,rfl⟩
     have hy6:y0 < im.length:=by omega
     have hy6':(y0:Int) < im.length:=by omega
     rw [← hy0] at hcw ci
     have hxl':(x:Int) < t.length:=by omega
     have hyl':(y:Int) < t.length:=by omega
     clear hz0 hy hb h1 hy0 hc
     go_wp2
     go_quiet (fail)
     go_wp2
     go_roundg (st.word.size - (j+1))
     case measure=>have:=HGJ.out;omega
     case rel=>exact ⟨j+1,_,z,by omega,by go_num,rfl,hzl,HZ2,rfl⟩
    ·have hj':¬ (j:Int) < st.word.size:=by omega
     have hjn:st.word.data.toList.take j=st.word.data.toList:=List.take_of_length_le (by simp;omega)
     have HXE:Hid (x=oJ t im (oneN t) st.word.data.toList):=Kh (by rw [← hjn];exact hxe.out)
     clear hxe hjn
     have hx12:(x:Int)≤12:=by omega
     have hsh:=qE (m:=x) (by omega)
     have hsh':=nG (m:=x) (by omega)
     obtain ⟨X,hX⟩:∃ X,X=2 ^ x:=⟨_,rfl⟩
     rw [← hX] at hsh hsh'
     have HX:Hid (X=2 ^ oJ t im (oneN t) st.word.data.toList):=Kh (by rw [hX,HXE.out])
     clear hX
     by_cases hsx:st.set=(X:Int)
     ·have qs:(st.set != (X:Int))=false:=by rw [hsx];simp
      have HBT:Hid (tI t im ss k=true):=Kh (by rw [HB.out,HAB.out.1,HAB.out.2,HV.out,← HX.out,decide_eq_true hsx];rfl)
      clear hsx
      go_wp2
      go_roundg (ss.length - (k+1))
      case measure=>have:=HGH.out;omega
      case rel=>exact ⟨k+1,by have:=HGH.out;omega,by go_num,Kh (tT hst.out HBT.out),zG HGB.out (zJ wb _ none) (by simp)⟩
     ·have qs:(st.set != (X:Int))=true:=by rw [bne_iff_ne];exact hsx
      have HD:Hid (derB t im ss=false):=Kh (xX hk (by rw [HB.out,← HX.out,decide_eq_false hsx];simp))
      clear hsx
      go_wp2
      go_ret
      exact ⟨zZ HD.out.symm,zG HGB.out (zJ wb _ none) (by simp)⟩
  by_cases hp2:st.op=2
  ·have q1:(st.op == 1)=false:=by rw [hp2];rfl
   have q2:(st.op == 2)=true:=by rw [hp2];rfl
   have HB:=Kh (qJ (t:=t) (im:=im) HST.out hp2)
   have HBEF:Hid (∀ x:Int,(0≤x∧x < (k:Int)) ↔ befB x k=true):=Kh (fun x=>xY.symm)
   clear hp1 hp2
   by_cases hA:st.a < 0
   ·have qA:decide (st.a < 0)=true:=decide_eq_true hA
    have HD:Hid (derB t im ss=false):=Kh (xX hk (by rw [HB.out];rw [show befB st.a k=false by simp [befB];omega];simp))
    go_wp2_with fail
    refine wp_region_still_tail 43 (by kernel_rfl) (by kernel_rfl) (StillG.h ?_)
    simp only [List.take_succ_cons,List.take_zero,List.drop_succ_cons,List.drop_zero]
    iterate 4 (refine g_un rfl ?_;intro K hK;go_simp;refine hK _ ?_;clear hK K)
    iterate 4 (refine g_no (by kernel_rfl) ?_;try simp only [Act.put,sPa,sPb,sPc])
    iterate 2 (refine g_un rfl ?_;intro K hK;go_simp;refine hK _ ?_;clear hK K)
    iterate 3 (refine g_no (by kernel_rfl) ?_;try simp only [Act.put,sPa,sPb,sPc])
    iterate 2 (refine g_un rfl ?_;intro K hK;go_simp;refine hK _ ?_;clear hK K)
    iterate 4 (refine g_no (by kernel_rfl) ?_;try simp only [Act.put,sPa,sPb,sPc])
    iterate 2 (refine g_un rfl ?_;intro K hK;go_simp;refine hK _ ?_;clear hK K)
    iterate 3 (refine g_no (by kernel_rfl) ?_;try simp only [Act.put,sPa,sPb,sPc])
    iterate 2 (refine g_un rfl ?_;intro K hK;go_simp;refine hK _ ?_;clear hK K)
    iterate 17 (refine g_no (by kernel_rfl) ?_;try simp only [Act.put,sPa,sPb,sPc])
    refine iM ?_
    go_wp2
    go_ret
    exact ⟨zZ HD.out.symm,zG HGB.out (zT wb none) (by simp)⟩
   have qA:decide (st.a < 0)=false:=decide_eq_false hA
   by_cases hA2:(k:Int)≤st.a
   ·have qA2:decide ((k:Int)≤st.a)=true:=decide_eq_true hA2
    have HD:Hid (derB t im ss=false):=Kh (xX hk (by rw [HB.out];rw [show befB st.a k=false by simp [befB];omega];simp))
    go_wp2_with fail
    refine wp_region_still_tail 43 (by kernel_rfl) (by kernel_rfl) (StillG.h ?_)
    simp only [List.take_succ_cons,List.take_zero,List.drop_succ_cons,List.drop_zero]
    iterate 4 (refine g_un rfl ?_;intro K hK;go_simp;refine hK _ ?_;clear hK K)
    iterate 4 (refine vX (by kernel_rfl) ?_;intro K hK;go_simp;refine hK _ ?_;clear hK K)
    iterate 2 (refine g_un rfl ?_;intro K hK;go_simp;refine hK _ ?_;clear hK K)
    iterate 3 (refine g_no (by kernel_rfl) ?_;try simp only [Act.put,sPa,sPb,sPc])
    iterate 2 (refine g_un rfl ?_;intro K hK;go_simp;refine hK _ ?_;clear hK K)
    iterate 4 (refine g_no (by kernel_rfl) ?_;try simp only [Act.put,sPa,sPb,sPc])
    iterate 2 (refine g_un rfl ?_;intro K hK;go_simp;refine hK _ ?_;clear hK K)
    iterate 3 (refine g_no (by kernel_rfl) ?_;try simp only [Act.put,sPa,sPb,sPc])
    iterate 2 (refine g_un rfl ?_;intro K hK;go_simp;refine hK _ ?_;clear hK K)
    iterate 17 (refine g_no (by kernel_rfl) ?_;try simp only [Act.put,sPa,sPb,sPc])
    refine iM ?_
    go_wp2
    go_ret
    exact ⟨zZ HD.out.symm,zG HGB.out (zT wb none) (by simp)⟩
   have qA2:decide ((k:Int)≤st.a)=false:=decide_eq_false hA2
   by_cases hC:st.b < 0
   ·have qC:decide (st.b < 0)=true:=decide_eq_true hC
    have HD:Hid (derB t im ss=false):=Kh (xX hk (by rw [HB.out];rw [show befB st.b k=false by simp [befB];omega];simp))
    go_wp2_with fail
    refine wp_region_still_tail 43 (by kernel_rfl) (by kernel_rfl) (StillG.h ?_)
    simp only [List.take_succ_cons,List.take_zero,List.drop_succ_cons,List.drop_zero]
    iterate 4 (refine g_un rfl ?_;intro K hK;go_simp;refine hK _ ?_;clear hK K)
    iterate 4 (refine vX (by kernel_rfl) ?_;intro K hK;go_simp;refine hK _ ?_;clear hK K)
    iterate 2 (refine g_un rfl ?_;intro K hK;go_simp;refine hK _ ?_;clear hK K)
    iterate 3 (refine vX (by kernel_rfl) ?_;intro K hK;go_simp;refine hK _ ?_;clear hK K)
    iterate 2 (refine g_un rfl ?_;intro K hK;go_simp;refine hK _ ?_;clear hK K)
    iterate 4 (refine g_no (by kernel_rfl) ?_;try simp only [Act.put,sPa,sPb,sPc])
    iterate 2 (refine g_un rfl ?_;intro K hK;go_simp;refine hK _ ?_;clear hK K)
    iterate 3 (refine g_no (by kernel_rfl) ?_;try simp only [Act.put,sPa,sPb,sPc])
    iterate 2 (refine g_un rfl ?_;intro K hK;go_simp;refine hK _ ?_;clear hK K)
    iterate 17 (refine g_no (by kernel_rfl) ?_;try simp only [Act.put,sPa,sPb,sPc])
    refine iM ?_
    go_wp2
    go_ret
    exact ⟨zZ HD.out.symm,zG HGB.out (zT wb none) (by simp)⟩
   have qC:decide (st.b < 0)=false:=decide_eq_false hC
   by_cases hC2:(k:Int)≤st.b
   ·have qC2:decide ((k:Int)≤st.b)=true:=decide_eq_true hC2
    have HD:Hid (derB t im ss=false):=Kh (xX hk (by rw [HB.out];rw [show befB st.b k=false by simp [befB];omega];simp))
    go_wp2_with fail
    refine wp_region_still_tail 43 (by kernel_rfl) (by kernel_rfl) (StillG.h ?_)
    simp only [List.take_succ_cons,List.take_zero,List.drop_succ_cons,List.drop_zero]
    iterate 4 (refine g_un rfl ?_;intro K hK;go_simp;refine hK _ ?_;clear hK K)
    iterate 4 (refine vX (by kernel_rfl) ?_;intro K hK;go_simp;refine hK _ ?_;clear hK K)
    iterate 2 (refine g_un rfl ?_;intro K hK;go_simp;refine hK _ ?_;clear hK K)
    iterate 3 (refine vX (by kernel_rfl) ?_;intro K hK;go_simp;refine hK _ ?_;clear hK K)
    iterate 2 (refine g_un rfl ?_;intro K hK;go_simp;refine hK _ ?_;clear hK K)
    iterate 4 (refine vX (by kernel_rfl) ?_;intro K hK;go_simp;refine hK _ ?_;clear hK K)
    iterate 2 (refine g_un rfl ?_;intro K hK;go_simp;refine hK _ ?_;clear hK K)
    iterate 3 (refine g_no (by kernel_rfl) ?_;try simp only [Act.put,sPa,sPb,sPc])
    iterate 2 (refine g_un rfl ?_;intro K hK;go_simp;refine hK _ ?_;clear hK K)
    iterate 17 (refine g_no (by kernel_rfl) ?_;try simp only [Act.put,sPa,sPb,sPc])
    refine iM ?_
    go_wp2
    go_ret
    exact ⟨zZ HD.out.symm,zG HGB.out (zT wb none) (by simp)⟩
   have qC2:decide ((k:Int)≤st.b)=false:=decide_eq_false hC2
   obtain ⟨ew,hew⟩:∃ ew,ew=st.word.toList.isEmpty:=⟨_,rfl⟩
   have qw:st.word.toList.isEmpty=ew:=hew.symm
   rw [qw] at HB
   clear hew
   cases ew with
   | false =>
    have HD:Hid (derB t im ss=false):=Kh (xX hk (by rw [HB.out];simp))
    go_wp2_with fail
    refine wp_region_still_tail 43 (by kernel_rfl) (by kernel_rfl) (StillG.h ?_)
    simp only [List.take_succ_cons,List.take_zero,List.drop_succ_cons,List.drop_zero]
    iterate 4 (refine g_un rfl ?_;intro K hK;go_simp;refine hK _ ?_;clear hK K)
    iterate 4 (refine vX (by kernel_rfl) ?_;intro K hK;go_simp;refine hK _ ?_;clear hK K)
    iterate 2 (refine g_un rfl ?_;intro K hK;go_simp;refine hK _ ?_;clear hK K)
    iterate 3 (refine vX (by kernel_rfl) ?_;intro K hK;go_simp;refine hK _ ?_;clear hK K)
    iterate 2 (refine g_un rfl ?_;intro K hK;go_simp;refine hK _ ?_;clear hK K)
    iterate 4 (refine vX (by kernel_rfl) ?_;intro K hK;go_simp;refine hK _ ?_;clear hK K)
    iterate 2 (refine g_un rfl ?_;intro K hK;go_simp;refine hK _ ?_;clear hK K)
    iterate 3 (refine vX (by kernel_rfl) ?_;intro K hK;go_simp;refine hK _ ?_;clear hK K)
    iterate 2 (refine g_un rfl ?_;intro K hK;go_simp;refine hK _ ?_;clear hK K)
    iterate 17 (refine g_no (by kernel_rfl) ?_;try simp only [Act.put,sPa,sPb,sPc])
    refine iM ?_
    go_wp2
    go_ret
    exact ⟨zZ HD.out.symm,zG HGB.out (zT wb none) (by simp)⟩
   | true =>
    obtain ⟨xa,hxa⟩:∃ xa:Nat,(xa:Int)=st.a:=⟨st.a.toNat,by omega⟩
    obtain ⟨xb,hxb⟩:∃ xb:Nat,(xb:Int)=st.b:=⟨st.b.toNat,by omega⟩
    have hak:xa < ss.length:=by omega
    have hbk:xb < ss.length:=by omega
    have hak':(xa:Int) < ss.length:=by omega
    have hbk':(xb:Int) < ss.length:=by omega
    have hsa:=step_set HGD.out hst.out xa (by omega)
    have hsb:=step_set HGD.out hst.out xb (by omega)
    have HBF:Hid (befB st.a k=true∧befB st.b k=true):=Kh ⟨xY.2 ⟨by omega,by omega⟩,xY.2 ⟨by omega,by omega⟩⟩
    have hso:=HSO.out.kept HGB.out (by simp)
    have ca:=hso.set xa hak
    have cb:=hso.set xb hbk
    have hxA:xa≤k:=by omega
    have hxB:xb≤k:=by omega
    obtain ⟨za,hza⟩:∃ za:Nat,(za:Int)=(ss.getD xa default).set:=⟨(ss.getD xa default).set.toNat,by omega⟩
    obtain ⟨zb,hzb⟩:∃ zb:Nat,(zb:Int)=(ss.getD xb default).set:=⟨(ss.getD xb default).set.toNat,by omega⟩
    rw [← hza] at ca hsa
    rw [← hzb] at cb hsb
    obtain ⟨X,hX⟩:∃ X,X=zU t.length (entN t) za zb:=⟨_,rfl⟩
    have HPR:Hid (∀ W:World,wb.grownBy W none→Calls Tryd.prog 55 #[.slice ta t.length tc,.int .i64 (za:Int),.int .i64 (zb:Int)] W fun e w'=>e=.returned (.int .i64 (X:Int))∧w'=W):=Kh (fun W hW=>(lR B W _ t za zb ((H.out.kept HGB.out (by simp)).kept hW (by simp)) HSH.out hle (by omega) (by omega)).mono fun e w' ⟨h1,h2⟩=>⟨by rw [h1,hX],h2.symm⟩)
    have HBE:Hid (tI t im ss k=decide (st.set=(X:Int))):=Kh (by
     rw [HB.out,HBF.out.1,HBF.out.2,hX,← hxa,← hxb,Int.toNat_natCast,Int.toNat_natCast,← hza,← hzb,Int.toNat_natCast,Int.toNat_natCast];simp)
    rw [← hxa] at b1
    rw [← hxb] at b2
    have f1:decide ((xa:Int) < 0)=false:=decide_eq_false (by omega)
    have f2:decide (k≤xa)=false:=decide_eq_false (by omega)
    have f3:decide ((xb:Int) < 0)=false:=decide_eq_false (by omega)
    have f4:decide (k≤xb)=false:=decide_eq_false (by omega)
    clear hA hA2 hC hC2 qA qA2 qC qC2
    clear hX hsa hsb hza hzb hso hxa hxb
    by_cases hsx:st.set=(X:Int)
    ·have qs:(st.set != (X:Int))=false:=by rw [hsx];simp
     have HBT:Hid (tI t im ss k=true):=Kh (by rw [HBE.out,decide_eq_true hsx])
     clear hsx
     go_wp2_with fail
     refine wp_region_still_tail 43 (by kernel_rfl) (by kernel_rfl) (StillG.h ?_)
     simp only [List.take_succ_cons,List.take_zero,List.drop_succ_cons,List.drop_zero]
     iterate 4 (refine g_un rfl ?_;intro K hK;go_simp;refine hK _ ?_;clear hK K)
     iterate 4 (refine vX (by kernel_rfl) ?_;intro K hK;go_simp;refine hK _ ?_;clear hK K)
     iterate 2 (refine g_un rfl ?_;intro K hK;go_simp;refine hK _ ?_;clear hK K)
     iterate 3 (refine vX (by kernel_rfl) ?_;intro K hK;go_simp;refine hK _ ?_;clear hK K)
     iterate 2 (refine g_un rfl ?_;intro K hK;go_simp;refine hK _ ?_;clear hK K)
     iterate 4 (refine vX (by kernel_rfl) ?_;intro K hK;go_simp;refine hK _ ?_;clear hK K)
     iterate 2 (refine g_un rfl ?_;intro K hK;go_simp;refine hK _ ?_;clear hK K)
     iterate 3 (refine vX (by kernel_rfl) ?_;intro K hK;go_simp;refine hK _ ?_;clear hK K)
     iterate 2 (refine g_un rfl ?_;intro K hK;go_simp;refine hK _ ?_;clear hK K)
     iterate 15 (refine vX (by kernel_rfl) ?_;intro K hK;go_simp;refine hK _ ?_;clear hK K)
     refine vX (by kernel_rfl) ?_;intro K hK;go_simp;refine ⟨_,HPR.out _ (zT _ _),hK _ ?_⟩;clear hK K
     refine vX (by kernel_rfl) ?_;intro K hK;go_simp;refine hK _ ?_;clear hK K
     refine iM ?_
     go_wp2
     go_roundg (ss.length - (k+1))
     case measure=>have:=HGH.out;omega
     case rel=>exact ⟨k+1,by have:=HGH.out;omega,by go_num,Kh (tT hst.out HBT.out),zG HGB.out (zT wb none) (by simp)⟩
    ·have qs:(st.set != (X:Int))=true:=by rw [bne_iff_ne];exact hsx
     have HD:Hid (derB t im ss=false):=Kh (xX hk (by rw [HBE.out,decide_eq_false hsx]))
     clear hsx
     go_wp2_with fail
     refine wp_region_still_tail 43 (by kernel_rfl) (by kernel_rfl) (StillG.h ?_)
     simp only [List.take_succ_cons,List.take_zero,List.drop_succ_cons,List.drop_zero]
     iterate 4 (refine g_un rfl ?_;intro K hK;go_simp;refine hK _ ?_;clear hK K)
     iterate 4 (refine vX (by kernel_rfl) ?_;intro K hK;go_simp;refine hK _ ?_;clear hK K)
     iterate 2 (refine g_un rfl ?_;intro K hK;go_simp;refine hK _ ?_;clear hK K)
     iterate 3 (refine vX (by kernel_rfl) ?_;intro K hK;go_simp;refine hK _ ?_;clear hK K)
     iterate 2 (refine g_un rfl ?_;intro K hK;go_simp;refine hK _ ?_;clear hK K)
     iterate 4 (refine vX (by kernel_rfl) ?_;intro K hK;go_simp;refine hK _ ?_;clear hK K)
     iterate 2 (refine g_un rfl ?_;intro K hK;go_simp;refine hK _ ?_;clear hK K)
     iterate 3 (refine vX (by kernel_rfl) ?_;intro K hK;go_simp;refine hK _ ?_;clear hK K)
     iterate 2 (refine g_un rfl ?_;intro K hK;go_simp;refine hK _ ?_;clear hK K)
     iterate 15 (refine vX (by kernel_rfl) ?_;intro K hK;go_simp;refine hK _ ?_;clear hK K)
     refine vX (by kernel_rfl) ?_;intro K hK;go_simp;refine ⟨_,HPR.out _ (zT _ _),hK _ ?_⟩;clear hK K
     refine vX (by kernel_rfl) ?_;intro K hK;go_simp;refine hK _ ?_;clear hK K
     refine iM ?_
     go_wp2
     go_ret
     exact ⟨zZ HD.out.symm,zG HGB.out (zT wb none) (by simp)⟩
  by_cases hp3:st.op=3
  ·have q1:(st.op == 1)=false:=by rw [hp3];rfl
   have q2:(st.op == 2)=false:=by rw [hp3];rfl
   have q3:(st.op == 3)=true:=by rw [hp3];rfl
   have HB:=Kh (lJ (t:=t) (im:=im) HST.out hp3)
   clear hp1 hp2 hp3
   by_cases hA:st.a < 0
   ·have qA:decide (st.a < 0)=true:=decide_eq_true hA
    have HD:Hid (derB t im ss=false):=Kh (xX hk (by rw [HB.out];rw [show befB st.a k=false by simp [befB];omega];simp))
    go_wp2_with fail
    refine wp_region_still_tail 31 (by kernel_rfl) (by kernel_rfl) (StillG.h ?_)
    simp only [List.take_succ_cons,List.take_zero,List.drop_succ_cons,List.drop_zero]
    iterate 4 (refine g_un rfl ?_;intro K hK;go_simp;refine hK _ ?_;clear hK K)
    iterate 4 (refine g_no (by kernel_rfl) ?_;try simp only [Act.put,sPa,sPb,sPc])
    iterate 2 (refine g_un rfl ?_;intro K hK;go_simp;refine hK _ ?_;clear hK K)
    iterate 3 (refine g_no (by kernel_rfl) ?_;try simp only [Act.put,sPa,sPb,sPc])
    iterate 2 (refine g_un rfl ?_;intro K hK;go_simp;refine hK _ ?_;clear hK K)
    iterate 3 (refine g_no (by kernel_rfl) ?_;try simp only [Act.put,sPa,sPb,sPc])
    iterate 2 (refine g_un rfl ?_;intro K hK;go_simp;refine hK _ ?_;clear hK K)
    iterate 11 (refine g_no (by kernel_rfl) ?_;try simp only [Act.put,sPa,sPb,sPc])
    refine iM ?_
    go_wp2
    go_ret
    exact ⟨zZ HD.out.symm,zG HGB.out (zT wb none) (by simp)⟩
   have qA:decide (st.a < 0)=false:=decide_eq_false hA
   by_cases hA2:(k:Int)≤st.a
   ·have qA2:decide ((k:Int)≤st.a)=true:=decide_eq_true hA2
    have HD:Hid (derB t im ss=false):=Kh (xX hk (by rw [HB.out];rw [show befB st.a k=false by simp [befB];omega];simp))
    go_wp2_with fail
    refine wp_region_still_tail 31 (by kernel_rfl) (by kernel_rfl) (StillG.h ?_)
    simp only [List.take_succ_cons,List.take_zero,List.drop_succ_cons,List.drop_zero]
    iterate 4 (refine g_un rfl ?_;intro K hK;go_simp;refine hK _ ?_;clear hK K)
    iterate 4 (refine vX (by kernel_rfl) ?_;intro K hK;go_simp;refine hK _ ?_;clear hK K)
    iterate 2 (refine g_un rfl ?_;intro K hK;go_simp;refine hK _ ?_;clear hK K)
    iterate 3 (refine g_no (by kernel_rfl) ?_;try simp only [Act.put,sPa,sPb,sPc])
    iterate 2 (refine g_un rfl ?_;intro K hK;go_simp;refine hK _ ?_;clear hK K)
    iterate 3 (refine g_no (by kernel_rfl) ?_;try simp only [Act.put,sPa,sPb,sPc])
    iterate 2 (refine g_un rfl ?_;intro K hK;go_simp;refine hK _ ?_;clear hK K)
    iterate 11 (refine g_no (by kernel_rfl) ?_;try simp only [Act.put,sPa,sPb,sPc])
    refine iM ?_
    go_wp2
    go_ret
    exact ⟨zZ HD.out.symm,zG HGB.out (zT wb none) (by simp)⟩
   have qA2:decide ((k:Int)≤st.a)=false:=decide_eq_false hA2
   by_cases hb:st.b≠0
   ·have qb:(st.b != 0)=true:=by rw [bne_iff_ne];exact hb
    have HD:Hid (derB t im ss=false):=Kh (xX hk (by rw [HB.out];simp [hb]))
    clear hb
    go_wp2_with fail
    refine wp_region_still_tail 31 (by kernel_rfl) (by kernel_rfl) (StillG.h ?_)
    simp only [List.take_succ_cons,List.take_zero,List.drop_succ_cons,List.drop_zero]
    iterate 4 (refine g_un rfl ?_;intro K hK;go_simp;refine hK _ ?_;clear hK K)
    iterate 4 (refine vX (by kernel_rfl) ?_;intro K hK;go_simp;refine hK _ ?_;clear hK K)
    iterate 2 (refine g_un rfl ?_;intro K hK;go_simp;refine hK _ ?_;clear hK K)
    iterate 3 (refine vX (by kernel_rfl) ?_;intro K hK;go_simp;refine hK _ ?_;clear hK K)
    iterate 2 (refine g_un rfl ?_;intro K hK;go_simp;refine hK _ ?_;clear hK K)
    iterate 3 (refine g_no (by kernel_rfl) ?_;try simp only [Act.put,sPa,sPb,sPc])
    iterate 2 (refine g_un rfl ?_;intro K hK;go_simp;refine hK _ ?_;clear hK K)
    iterate 11 (refine g_no (by kernel_rfl) ?_;try simp only [Act.put,sPa,sPb,sPc])
    refine iM ?_
    go_wp2
    go_ret
    exact ⟨zZ HD.out.symm,zG HGB.out (zT wb none) (by simp)⟩
   replace hb:st.b=0:=by omega
   have qb:(st.b != 0)=false:=by rw [hb];rfl
   have HB0:=Kh hb
   clear hb
   obtain ⟨ew,hew⟩:∃ ew,ew=st.word.toList.isEmpty:=⟨_,rfl⟩
   have qw:st.word.toList.isEmpty=ew:=hew.symm
   rw [qw] at HB
   clear hew
   cases ew with
   | false =>
    have HD:Hid (derB t im ss=false):=Kh (xX hk (by rw [HB.out];simp))
    go_wp2_with fail
    refine wp_region_still_tail 31 (by kernel_rfl) (by kernel_rfl) (StillG.h ?_)
    simp only [List.take_succ_cons,List.take_zero,List.drop_succ_cons,List.drop_zero]
    iterate 4 (refine g_un rfl ?_;intro K hK;go_simp;refine hK _ ?_;clear hK K)
    iterate 4 (refine vX (by kernel_rfl) ?_;intro K hK;go_simp;refine hK _ ?_;clear hK K)
    iterate 2 (refine g_un rfl ?_;intro K hK;go_simp;refine hK _ ?_;clear hK K)
    iterate 3 (refine vX (by kernel_rfl) ?_;intro K hK;go_simp;refine hK _ ?_;clear hK K)
    iterate 2 (refine g_un rfl ?_;intro K hK;go_simp;refine hK _ ?_;clear hK K)
    iterate 3 (refine vX (by kernel_rfl) ?_;intro K hK;go_simp;refine hK _ ?_;clear hK K)
    iterate 2 (refine g_un rfl ?_;intro K hK;go_simp;refine hK _ ?_;clear hK K)
    iterate 11 (refine g_no (by kernel_rfl) ?_;try simp only [Act.put,sPa,sPb,sPc])
    refine iM ?_
    go_wp2
    go_ret
    exact ⟨zZ HD.out.symm,zG HGB.out (zT wb none) (by simp)⟩
   | true =>
    obtain ⟨xa,hxa⟩:∃ xa:Nat,(xa:Int)=st.a:=⟨st.a.toNat,by omega⟩
    have hak:xa < ss.length:=by omega
    have hak':(xa:Int) < ss.length:=by omega
    have hsa:=step_set HGD.out hst.out xa (by omega)
    have HBF:Hid (befB st.a k=true):=Kh (xY.2 ⟨by omega,by omega⟩)
    have hso:=HSO.out.kept HGB.out (by simp)
    have ca:=hso.set xa hak
    obtain ⟨za,hza⟩:∃ za:Nat,(za:Int)=(ss.getD xa default).set:=⟨(ss.getD xa default).set.toNat,by omega⟩
    rw [← hza] at ca hsa
    obtain ⟨X,hX⟩:∃ X,X=yM t.length (entN t) za:=⟨_,rfl⟩
    have HPR:Hid (∀ W:World,wb.grownBy W none→Calls Tryd.prog 57 #[.slice ta t.length tc,.int .i64 (za:Int)] W fun e w'=>e=.returned (.int .i64 (X:Int))∧w'=W):=Kh (fun W hW=>(fW B W _ t za ((H.out.kept HGB.out (by simp)).kept hW (by simp)) HVA.out hle (by omega)).mono fun e w' ⟨h1,h2⟩=>⟨by rw [h1,hX],h2.symm⟩)
    have HBE:Hid (tI t im ss k=decide (st.set=(X:Int))):=Kh (by
     rw [HB.out,HBF.out,HB0.out,hX,← hxa,Int.toNat_natCast,← hza,Int.toNat_natCast];simp)
    rw [← hxa] at b1
    have f1:decide ((xa:Int) < 0)=false:=decide_eq_false (by omega)
    have f2:decide (k≤xa)=false:=decide_eq_false (by omega)
    clear hA hA2 qA qA2
    clear hX hsa hza hso hxa
    by_cases hsx:st.set=(X:Int)
    ·have qs:(st.set != (X:Int))=false:=by rw [hsx];simp
     have HBT:Hid (tI t im ss k=true):=Kh (by rw [HBE.out,decide_eq_true hsx])
     clear hsx
     go_wp2_with fail
     refine wp_region_still_tail 31 (by kernel_rfl) (by kernel_rfl) (StillG.h ?_)
     simp only [List.take_succ_cons,List.take_zero,List.drop_succ_cons,List.drop_zero]
     iterate 4 (refine g_un rfl ?_;intro K hK;go_simp;refine hK _ ?_;clear hK K)
     iterate 4 (refine vX (by kernel_rfl) ?_;intro K hK;go_simp;refine hK _ ?_;clear hK K)
     iterate 2 (refine g_un rfl ?_;intro K hK;go_simp;refine hK _ ?_;clear hK K)
     iterate 3 (refine vX (by kernel_rfl) ?_;intro K hK;go_simp;refine hK _ ?_;clear hK K)
     iterate 2 (refine g_un rfl ?_;intro K hK;go_simp;refine hK _ ?_;clear hK K)
     iterate 3 (refine vX (by kernel_rfl) ?_;intro K hK;go_simp;refine hK _ ?_;clear hK K)
     iterate 2 (refine g_un rfl ?_;intro K hK;go_simp;refine hK _ ?_;clear hK K)
     iterate 9 (refine vX (by kernel_rfl) ?_;intro K hK;go_simp;refine hK _ ?_;clear hK K)
     refine vX (by kernel_rfl) ?_;intro K hK;go_simp;refine ⟨_,HPR.out _ (zT _ _),hK _ ?_⟩;clear hK K
     refine vX (by kernel_rfl) ?_;intro K hK;go_simp;refine hK _ ?_;clear hK K
     refine iM ?_
     go_wp2
     go_roundg (ss.length - (k+1))
     case measure=>have:=HGH.out;omega
     case rel=>exact ⟨k+1,by have:=HGH.out;omega,by go_num,Kh (tT hst.out HBT.out),zG HGB.out (zT wb none) (by simp)⟩
    ·have qs:(st.set != (X:Int))=true:=by rw [bne_iff_ne];exact hsx
     have HD:Hid (derB t im ss=false):=Kh (xX hk (by rw [HBE.out,decide_eq_false hsx]))
     clear hsx
     go_wp2_with fail
     refine wp_region_still_tail 31 (by kernel_rfl) (by kernel_rfl) (StillG.h ?_)
     simp only [List.take_succ_cons,List.take_zero,List.drop_succ_cons,List.drop_zero]
     iterate 4 (refine g_un rfl ?_;intro K hK;go_simp;refine hK _ ?_;clear hK K)
     iterate 4 (refine vX (by kernel_rfl) ?_;intro K hK;go_simp;refine hK _ ?_;clear hK K)
     iterate 2 (refine g_un rfl ?_;intro K hK;go_simp;refine hK _ ?_;clear hK K)
     iterate 3 (refine vX (by kernel_rfl) ?_;intro K hK;go_simp;refine hK _ ?_;clear hK K)
     iterate 2 (refine g_un rfl ?_;intro K hK;go_simp;refine hK _ ?_;clear hK K)
     iterate 3 (refine vX (by kernel_rfl) ?_;intro K hK;go_simp;refine hK _ ?_;clear hK K)
     iterate 2 (refine g_un rfl ?_;intro K hK;go_simp;refine hK _ ?_;clear hK K)
     iterate 9 (refine vX (by kernel_rfl) ?_;intro K hK;go_simp;refine hK _ ?_;clear hK K)
     refine vX (by kernel_rfl) ?_;intro K hK;go_simp;refine ⟨_,HPR.out _ (zT _ _),hK _ ?_⟩;clear hK K
     refine vX (by kernel_rfl) ?_;intro K hK;go_simp;refine hK _ ?_;clear hK K
     refine iM ?_
     go_wp2
     go_ret
     exact ⟨zZ HD.out.symm,zG HGB.out (zT wb none) (by simp)⟩
  ·have HD:=Kh (xX hk (gM (t:=t) (im:=im) HST.out hp1 hp2 hp3))
   have q1:(st.op == 1)=false:=by rw [beq_eq_false_iff_ne];exact hp1
   have q2:(st.op == 2)=false:=by rw [beq_eq_false_iff_ne];exact hp2
   have q3:(st.op == 3)=false:=by rw [beq_eq_false_iff_ne];exact hp3
   go_wp2
   go_ret
   exact ⟨zZ HD.out.symm,HGB.out⟩
theorem pO (ss:List StepV):(yI ss).length=ss.length * 5:=by
 induction ss with
 | nil=>rfl
 | cons x ss ih=>simp only [yI,List.flatMap_cons,List.length_append,List.length_cons] at ih ⊢;rw [ih];simp [StepV.vals];omega
theorem iY:∀ (ss:List StepV) (i c:Nat) (u:Value) (y:StepV),i < ss.length→c < 5→y.vals=(ss.getD i default).vals.set c u→(yI ss).set (i * 5+c) u=yI (ss.set i y)
 | [],i,c,u,y,hi,_,_=>by simp at hi
 | x :: ss,0,c,u,y,_,hc,hy=>by
  show (x.vals ++ yI ss).set (0 * 5+c) u=y.vals ++ yI ss
  rw [List.set_append_left _ _ (by simp [StepV.vals];omega),hy]
  simp
 | x :: ss,i+1,c,u,y,hi,hc,hy=>by
  show (x.vals ++ yI ss).set ((i+1) * 5+c) u=x.vals ++ yI (ss.set i y)
  have hl:x.vals.length=5:=by simp [StepV.vals]
  rw [List.set_append_right _ _ (by omega),show (i+1) * 5+c - x.vals.length=i * 5+c from by omega,iY ss i c u y (by simpa using hi) hc (by simpa using hy)]
theorem Arr.of_owns5 {w:World} {base g n cap:Nat} {e:TypeId} {xs:List Value} (h:w.ownsRow base e 5 (.slice (some ⟨g,0,none⟩) n cap) n xs):Arr w g e xs:=by
 rcases h.2 with ⟨h',_⟩|⟨g',cap',cur,h',hb,hg,hnc,hcm,hcs,htake⟩
 ·simp at h'
 ·simp only [Value.slice.injEq,Option.some.injEq,Addr.mk.injEq,and_true,true_and] at h'
  obtain ⟨rfl,rfl⟩:=h'
  refine ⟨cur,cur.toList.drop (n * 5),hg,?_⟩
  rw [← htake,List.take_append_drop]
theorem StepsAt.of_arr {w:World} {g:Nat} {e:TypeId} {ss:List StepV} (h:Arr w g e (yI ss)):StepsAt w g ss:=by
 have key:∀ i c u,i < ss.length→c < 5→(ss.getD i default).vals[c]?=some u→w.cell? ⟨g,i * 5+c,none⟩=some u:=fun i c u hi hc hu=>by
  have hl:i * 5+c < (yI ss).length:=by rw [pO];omega
  rw [h.cell _ hl,← List.getElem?_eq_getElem hl,pP ss i c hi hc,hu]
 exact ⟨h.lt,fun i hi=>key i 0 _ hi (by omega) rfl,fun i hi=>key i 1 _ hi (by omega) rfl,fun i hi=>key i 2 _ hi (by omega) rfl,fun i hi=>key i 3 _ hi (by omega) rfl,fun i hi=>key i 4 _ hi (by omega) rfl⟩
theorem Arr.step_set {w:World} {g:Nat} {e:TypeId} {ss:List StepV} (h:Arr w g e (yI ss)) {i:Nat} (hi:i < ss.length) (c:Nat) (hc:c < 5) (u:Value) (y:StepV) (hy:y.vals=(ss.getD i default).vals.set c u):Arr (w.setCell ⟨g,i * 5+c,none⟩ u) g e (yI (ss.set i y)):=by
 rw [← iY ss i c u y hi hc hy]
 exact h.set _ (by rw [pO];omega) u
theorem SRow.of_arr {w:World} {g cap:Nat} {e:TypeId} {ss:List StepV} (h:Arr w g e (yI ss)) (h1:ss.length≤cap) (h2:cap≤maxLen):SRow w.heap.size w (.slice (some ⟨g,0,none⟩) ss.length cap) ss :=
 .inr ⟨g,0,cap,rfl,h.lt,h1,h2,StepsO.of_at (StepsAt.of_arr h)⟩
theorem StepsO.cells {w:World} {b off:Nat} {ss:List StepV} (h:StepsO w b off ss) (j:Nat) (u:Value) (hj:(yI ss)[j]?=some u):w.cell? ⟨b,off+j,none⟩=some u:=by
 have hjl:j < ss.length * 5:=by
  rw [← pO]
  rcases Nat.lt_or_ge j (yI ss).length with h|h
  ·exact h
  ·rw [List.getElem?_eq_none h] at hj;cases hj
 obtain ⟨i,c,rfl,hc⟩:∃ i c,j=i * 5+c∧c < 5:=⟨j / 5,j % 5,by omega,by omega⟩
 have hi:i < ss.length:=by omega
 rw [pP ss i c hi hc] at hj
 match c,hc,hj with
 | 0,_,hj=>simp [StepV.vals] at hj;subst hj;exact h.op i hi
 | 1,_,hj=>simp [StepV.vals] at hj;subst hj;exact h.a i hi
 | 2,_,hj=>simp [StepV.vals] at hj;subst hj;exact h.b i hi
 | 3,_,hj=>simp [StepV.vals] at hj;subst hj;exact h.word i hi
 | 4,_,hj=>simp [StepV.vals] at hj;subst hj;exact h.set i hi
theorem stepVals_one (ss:List StepV):∀ u∈yI ss,u.oneCell'=true:=by
 intro u hu
 obtain ⟨x,_,hx⟩:=List.mem_flatMap.1 hu
 simp [StepV.vals] at hx
 rcases hx with rfl|rfl|rfl|rfl|rfl <;> rfl
theorem owns_lit5 {W:World} {e base g:Nat} (h:W.heap[g]?=some (.cells #[] e (0,0))) (hb:base≤g):W.ownsRow base e 5 (.slice (some ⟨g,0,none⟩) 0 0) 0 [] :=
 ⟨by simp,.inr ⟨g,0,#[],rfl,hb,h,Nat.le_refl _,Nat.zero_le _,by simp,by simp⟩⟩
theorem wp_app5R {P:Program} {w:World} {o:Oper} {a:Act} {K:Act→World→Prop} {Q:Exit→Act→World→Prop} (s x:Operand) (t:TypeId)
  (ho:o.op=.call { callee:=.builtin .append,args:=#[s,x],argTypes:=#[t,t] })
  {e:TypeId} {z:Value} {bytes:Nat} (E:Elem5 P t e z bytes) (base:Nat) (v:Value) (n:Nat) (xs:List Value) (hs:a.eval s=v) (hown:w.ownsRow base e 5 v n xs)
  (b off cap:Nat) (ss:List StepV) (k:Nat) (hk:k=ss.length) (hx:a.eval x=.slice (some ⟨b,off,none⟩) k cap) (hso:StepsO w b off ss) (N:Nat) (hN:n+k=N) (h63:N≤maxLen) (hbytes:N * bytes≤140737488355328) (hbase:base≤w.heap.size)
  (h:∀ sa sc w',w'.ownsRow base e 5 (.slice sa N sc) N (xs ++ yI ss)→w.grownBy w' v.ownBlock→K (a.put o.dst (.slice sa N sc)) w'):o.wp P a w K Q:=by
 obtain ⟨i,hi,hz,hsz,hby⟩:=info_parts E.hi
 subst hN hk
 refine wp_append_own w s x t ho base e i z 5 bytes E.ht hi hz hsz hby E.hz (by decide) v n xs hs hown ⟨b,off,none⟩ ss.length cap (yI ss) hx (pO ss) (fun j u' hj=>?_) (stepVals_one ss) h63 hbytes hbase ?_
 ·have hadd:(⟨b,off,none⟩:Addr).add j=⟨b,off+j,none⟩:=by unfold Addr.add;split <;> simp_all
  rw [hadd];exact hso.cells j u' hj
 ·intro v' w' h1 h2 _
  obtain ⟨sa,sc,rfl⟩:=pR h1
  exact h sa sc w' h1 h2
theorem app5R {P:Program} {w:World} {ops:Array Oper} {rest:List Oper} {o:Oper} {a:Act} {Q:Exit→Act→World→Prop} (hgd:o.guard=none) (s x:Operand) (t:TypeId)
  (ho:o.op=.call { callee:=.builtin .append,args:=#[s,x],argTypes:=#[t,t] })
  {e:TypeId} {z:Value} {bytes:Nat} (E:Elem5 P t e z bytes) (base:Nat) (v:Value) (n:Nat) (xs:List Value) (hs:a.eval s=v) (hown:w.ownsRow base e 5 v n xs)
  (b off cap:Nat) (ss:List StepV) (k:Nat) (hk:k=ss.length) (hx:a.eval x=.slice (some ⟨b,off,none⟩) k cap) (hso:StepsO w b off ss) (N:Nat) (hN:n+k=N) (h63:N≤maxLen) (hbytes:N * bytes≤140737488355328) (hbase:base≤w.heap.size)
  (h:∀ sa sc w',w'.ownsRow base e 5 (.slice sa N sc) N (xs ++ yI ss)→w.grownBy w' v.ownBlock→wpList P ops Q rest (a.put o.dst (.slice sa N sc)) w'):wpList P ops Q (o :: rest) a w :=
 wpList_plain hgd fun _ hK=>wp_app5R s x t ho E base v n xs hs hown b off cap ss k hk hx hso N hN h63 hbytes hbase fun sa sc w' h2 h3=>hK _ _ (h sa sc w' h2 h3)
theorem owns5_some {w:World} {base e n sc:Nat} {sa:Option Addr} {xs:List Value} (h:w.ownsRow base e 5 (.slice sa n sc) n xs) (hn:0 < n):∃ kb,sa=some ⟨kb,0,none⟩∧base≤kb∧n≤sc∧sc≤maxLen∧Arr w kb e xs:=by
 rcases id h.2 with ⟨h',h0⟩|⟨g,cap,cur,h1,hb,hg,hnc,hcm,_⟩
 ·omega
 ·simp only [Value.slice.injEq] at h1
  obtain ⟨rfl,-,rfl⟩:=h1
  exact ⟨g,rfl,hb,hnc,hcm,Arr.of_owns5 h⟩
theorem step_word {t:List (List Int)} {im:List Int} {ss:List StepV} {i:Nat} (h:tI t im ss i=true):(ss.getD i default).word.size≤2048:=by
 simp only [tI] at h
 split at h
 ·simp only [Bool.and_eq_true] at h
  have hw:=h.1.2
  simp only [yN,Bool.and_eq_true,decide_eq_true_eq] at hw
  omega
 have key:(ss.getD i default).word.toList.isEmpty=true→(ss.getD i default).word.size≤2048:=fun h=>by
  have h:(ss.getD i default).word.data=#[]:=by simpa [ByteArray.toList_eq] using h
  have:(ss.getD i default).word.size=0:=by rw [ByteArray.size,h];rfl
  omega
 split at h
 ·simp only [Bool.and_eq_true] at h
  exact key h.1.1.1
 split at h
 ·simp only [Bool.and_eq_true] at h
  exact key h.1.1.1
 ·simp at h
theorem set_words {ss:List StepV} {r:Nat} {y:StepV} (h:∀ i,i < ss.length→(ss.getD i default).word.size≤2048) (hy:y.word.size≤3000):∀ i,i < (ss.set r y).length→((ss.set r y).getD i default).word.size≤maxLen:=fun i hi=>by
 rw [List.length_set] at hi
 unfold maxLen
 by_cases e:r=i
 ·subst e;rw [xK _ _ _ _ hi];omega
 ·rw [getD_set_ne _ _ _ _ _ e];have:=h i hi;omega
structure DerSt (w0 w:World) (v iv sv:Value) (t:List (List Int)) (im:List Int) (ss:List StepV):Prop where
 mat:Mat w.heap.size w v t
 im:Row w.heap.size w iv (ints im)
 ws:∀ i,i < ss.length→(ss.getD i default).word.size≤maxLen
 ss:SRow w.heap.size w sv ss
 tab:TabOk w
 grown:w0.grownBy w none
theorem DerSt.step {w0 w w':World} {v iv sv:Value} {t:List (List Int)} {im:List Int} {ss:List StepV} (h:DerSt w0 w v iv sv t im ss) (hg:w.grownBy w' none):DerSt w0 w' v iv sv t im ss :=
 ⟨(h.mat.kept hg (by simp)).mono hg.size,(h.im.kept hg (by simp)).mono hg.size,h.ws,(h.ss.kept hg (by simp)).mono hg.size,h.tab.kept hg (by simp),zG h.grown hg (by simp)⟩
set_option maxRecDepth 100000 in
set_option maxHeartbeats 4000000 in
theorem derives_walk (w:World) (sl:Value) (zs:List Int) (st how at_ v:Int) (h:Row w.heap.size w sl (zs.map (Value.int .i64))) (hT:TabOk w) :
  Calls Tryd.prog 8 #[sl,.int .i64 st,.int .i64 how,.int .i64 at_,.int .i64 v] w fun e w'=>e=.returned (.bool true)∧w.grownBy w' none:=by
 obtain ⟨sA,sC,rfl⟩:=h.shape
 obtain ⟨sl,hsl⟩:∃ sl,sl=(zs.map (Value.int .i64)).length:=⟨_,rfl⟩
 rw [← hsl] at h ⊢
 have HNW:=Kh (new_any w.heap.size w (.slice sA sl sC) zs h (Nat.le_refl _))
 have HT:=Kh hT
 obtain ⟨z5,by5,hE5,hby5⟩:=eM
 have HE5:=Kh hE5
 clear h hT hsl hE5
 go_enter Tryd.func8,Tryd.ntmps8
 go_wp2_with fail
 refine HNW.out.mono ?_
 rintro e w1 ⟨rfl,hT1,hg1⟩
 have HTA:=Kh (table40_any w.heap.size w.heap.size 7 w1 (by omega) hT1)
 have HG1:=Kh hg1
 clear hT1 hg1
 go_wp2_with fail
 refine HTA.out.mono ?_
 rintro e w2 ⟨T,im0,vT,vI,rfl,hTm,hIm,hTE,hTp,hg2⟩
 have hg02:=zG HG1.out hg2 (fun j e=>by have e:w.heap.size=j:=Oj e;omega)
 have HG2:=Kh hg02
 have HT2:=Kh (HT.out.kept hg02 (by simp))
 have hgood:=hTE.good (by omega) (by omega)
 have hmat:=(qI.tmat hTm).mat
 have him:=hIm.row
 rw [aJ] at him
 obtain ⟨tA,tC,rfl⟩:=(qI.tmat hTm).shape
 obtain ⟨iA,iC,rfl⟩:=hIm.shape
 obtain ⟨t,ht⟩:∃ t,t=tabI T:=⟨_,rfl⟩
 obtain ⟨im,him2⟩:∃ im,im=im0.map fun (x:Nat)=>(x:Int):=⟨_,rfl⟩
 obtain ⟨tl,htl⟩:∃ tl,tl=T.length:=⟨_,rfl⟩
 obtain ⟨il,hil⟩:∃ il,il=(nats im0).length:=⟨_,rfl⟩
 rw [← ht,← him2,← htl] at hgood
 obtain ⟨hgd,hl7,hlt,-⟩:=hgood
 rw [← ht,← htl] at hmat
 rw [← him2,← hil] at him
 rw [← htl,← hil]
 have HM2:=Kh hmat;have HI2:=Kh him
 have HGD:=Kh hgd
 have htl7:tl≤7:=by omega
 have hsh:=qE (m:=tl) (by omega)
 have hsh':=nG (m:=tl) (by omega)
 obtain ⟨N,hN⟩:∃ N,N=2 ^ tl:=⟨_,rfl⟩
 have hN7:N≤128:=by rw [hN];exact Nat.pow_le_pow_right (by omega) htl7
 have hN0:0 < N:=by rw [hN];exact Nat.pow_pos (by omega)
 rw [← hN] at hsh hsh'
 clear hTm hIm hTE hTp hg2 hg02 hmat ht htl him him2 hil hgd hl7 hlt hN
 go_wp2_with fail
 refine (nK _ _ _ (by omega)).mono ?_
 rintro e wq ⟨rfl,rfl⟩
 obtain ⟨s,hs⟩:∃ s,s=modI st N:=⟨_,rfl⟩
 rw [← hs]
 clear hs
 go_wp2_with fail
 refine (derive_any w2.heap.size w2 _ _ t im s (Nat.le_refl _) HM2.out HI2.out HT2.out).mono ?_
 rintro e w3 ⟨hg3,⟨hne,rfl⟩|⟨he0,da,dc,ds,S,rfl,hown,hso,hd0,hd4,hwz,hlast,hSl,hsub⟩⟩
 ·have HG3:=Kh (zG HG2.out hg3 (by simp));have HM3:=Kh ((HM2.out.kept hg3 (by simp)).mono hg3.size);have HI3:=Kh ((HI2.out.kept hg3 (by simp)).mono hg3.size);have HT3:=Kh (HT2.out.kept hg3 (by simp))
  have HDR:=Kh (eO w3.heap.size w3 _ _ t im s (Nat.le_refl _) HM3.out HI3.out)
  obtain ⟨E,hE⟩:∃ E,E=derE t im s:=⟨_,rfl⟩
  rw [← hE] at hne HDR ⊢
  have e1:(E != 0)=true:=by rw [bne_iff_ne];exact hne
  have e2:(E != E)=false:=by simp
  clear hE hne hg3
  go_wp2_with fail
  refine HDR.out.mono ?_
  rintro e w4 ⟨rfl,hg4⟩
  have HG4:=Kh (zG HG3.out hg4 (by simp));have HT4:=Kh (HT3.out.kept hg4 (by simp))
  clear hg4
  go_wp2_with fail
  refine (rE _ HT4.out).mono ?_
  rintro e w20 ⟨rfl,hg20⟩
  have HG20:=Kh (zG HG4.out hg20 (by simp))
  clear hg20
  go_wp2
  go_ret
  exact ⟨rfl,HG20.out⟩
 have HG3:=Kh (zG HG2.out hg3 (by simp));have HM3:=Kh ((HM2.out.kept hg3 (by simp)).mono hg3.size);have HI3:=Kh ((HI2.out.kept hg3 (by simp)).mono hg3.size);have HT3:=Kh (HT2.out.kept hg3 (by simp))
 have HDR:=Kh (eO w3.heap.size w3 _ _ t im s (Nat.le_refl _) HM3.out HI3.out)
 rw [he0] at HDR
 have HSR:Hid (SRow w3.heap.size w3 (.slice da ds.length dc) ds):=Kh (SRow.of_owns hown rfl)
 have HWZ:Hid (∀ i,i < ds.length→(ds.getD i default).word.size≤2048):=Kh (fun i hi=>step_word (hso i hi))
 obtain ⟨L,hL⟩:∃ L,L=ds.length:=⟨_,rfl⟩
 have HL:=Kh hL
 rw [← hL] at HSR hd0 hd4 ⊢
 have hL0:(L:Int)=0→False:=by omega
 have hLz:((L:Int) == 0)=false:=by rw [beq_eq_false_iff_ne];exact hL0
 have hLp:(0:Int) < L:=by omega
 have hLn:¬ L=0:=by omega
 clear he0 hown hso hwz hlast hSl hsub hg3 hL hL0
 go_wp2_with fail
 refine HDR.out.mono ?_
 rintro e w4 ⟨rfl,hg4⟩
 have HG4:=Kh (zG HG3.out hg4 (by simp));have HM4:=Kh ((HM3.out.kept hg4 (by simp)).mono hg4.size);have HI4:=Kh ((HI3.out.kept hg4 (by simp)).mono hg4.size);have HT4:=Kh (HT3.out.kept hg4 (by simp));have HSR4:=Kh ((HSR.out.kept hg4 (by simp)).mono hg4.size)
 clear hg4 HDR HSR HNW HTA
 by_cases hbig:300 < (L:Int)
 ·go_wp2
  go_ret
  exact ⟨rfl,HG4.out⟩
 have hbig':L≤300:=by omega
 have HBG:=Kh hbig'
 clear hd4
 obtain ⟨db,doff,dcap,de,hdB,hd1,hd2,hdso⟩:=HSR4.out.some_ (by rw [← HL.out];exact hd0)
 simp only [Value.slice.injEq] at de
 obtain ⟨rfl,-,rfl⟩:=de
 rw [← HL.out] at hd1
 have hdm:dc≤9223372036854775807:=by unfold maxLen at hd2;omega
 have HSO:=Kh hdso
 have HOA:Hid ((w4.alloc (.cells #[] 60)).ownsRow w4.heap.size 60 5 (.slice (some ⟨w4.heap.size,0,none⟩) 0 0) 0 []):=Kh (owns_lit5 (heap_alloc_new w4 _) (Nat.le_refl _))
 have HSOA:=Kh (hdso.kept (Ga w4 (.cells #[] 60) none) (by simp))
 have HGA:=Kh (Ga w4 (.cells #[] 60) none)
 clear hdso hd2
 go_wp2_with (at_builtin;(refine app5R rfl (.tmp 61) (.tmp 62) 56 rfl HE5.out w4.heap.size (.slice (some ⟨w4.heap.size,0,none⟩) 0 0) 0 [] rfl HOA.out db doff dc ds L HL.out rfl HSOA.out L (Nat.zero_add L) ?q1 ?q2 ?q3 ?_;(case q1=>(unfold maxLen;omega));(case q2=>exact Nat.le_trans (Nat.mul_le_mul hbig' hby5) (by decide));(case q3=>exact HGA.out.size);intro sa5 sc5 w5 hown5 hg5;rw [List.nil_append] at hown5))
 obtain ⟨g,rfl,hgb,hgn,hgm,harr⟩:=owns5_some hown5 (by omega)
 have hg45:w4.grownBy w5 none:=zG HGA.out hg5 (fun j e=>by have e:w4.heap.size=j:=Oj e;omega)
 have HM5:=Kh (HM4.out.kept hg45 (by simp));have HI5:=Kh (HI4.out.kept hg45 (by simp));have HT5:=Kh (HT4.out.kept hg45 (by simp));have HG5:=Kh (zG HG4.out hg45 (by simp))
 have HA:=Kh harr;have HGB:=Kh hgb;have HGM:=Kh hgm
 have HZ4:Hid (w.heap.size≤w4.heap.size∧w4.heap.size≤w5.heap.size):=Kh ⟨HG4.out.size,hg45.size⟩
 have hgm':sc5≤9223372036854775807:=by unfold maxLen at hgm;omega
 clear hown5 hg5 hg45 hgb hgm harr HOA HSOA HGA HSO HSR4 hLn hdB hd1 hdm
 go_wp2_with fail
 refine (nK _ _ _ (by omega)).mono ?_
 rintro e wq ⟨rfl,rfl⟩
 have hm0:=pB at_ L
 have hm1:=eB at_ L (by omega)
 obtain ⟨r,hr⟩:∃ r:Nat,(r:Int)=modI at_ L:=⟨(modI at_ L).toNat,by omega⟩
 rw [← hr] at hm0 hm1 ⊢
 have hrL:r < L:=by omega
 have hrd:r < ds.length:=by rw [← HL.out];exact hrL
 obtain ⟨st,hst⟩:∃ st,st=ds.getD r default:=⟨_,rfl⟩
 have hsw:st.word.size≤2048:=by rw [hst];exact HWZ.out r hrd
 have hat:=StepsAt.of_arr HA.out
 have c0:=hat.op r hrd
 have c1:=hat.a r hrd
 have c2:=hat.b r hrd
 have c3:=hat.word r hrd
 have c4:=hat.set r hrd
 rw [← hst] at c0 c1 c2 c3 c4
 have z0:=HA.out.frozen (r * 5)
 have z1:=HA.out.frozen (r * 5+1)
 have z2:=HA.out.frozen (r * 5+2)
 have z3:=HA.out.frozen (r * 5+3)
 have z4:=HA.out.frozen (r * 5+4)
 have FIN:Hid (∀ (c:Nat) (u:Value) (y:StepV),c < 5→y.vals=st.vals.set c u→y.word.size≤3000→DerSt w (w5.setCell ⟨g,r * 5+c,none⟩ u) (.slice tA tl tC) (.slice iA il iC) (.slice (some ⟨g,0,none⟩) L sc5) t im (ds.set r y)):=Kh (fun c u y hc hy hw=>by
  have hgr:=zH w5 ⟨g,r * 5+c,none⟩ u
  have hz:=hgr.size
  have hB:∀ k,some g=some k→w4.heap.size≤k:=fun k e=>by have e:g=k:=Oj e;have:=HGB.out;omega
  have hset:=HA.out.step_set hrd c hc u y (by rw [← hst];exact hy)
  have hsr:=SRow.of_arr (cap:=sc5) hset (by rw [List.length_set,← HL.out];exact hgn) HGM.out
  rw [List.length_set,← HL.out] at hsr
  have hz4:=HZ4.out
  have htb:1 < w4.heap.size:=HT4.out.1
  exact ⟨(HM5.out.kept hgr hB).mono (by omega),(HI5.out.kept hgr hB).mono (by omega),set_words HWZ.out hw,hsr,HT5.out.kept hgr (fun e=>by have e:g=1:=Oj e;have:=HGB.out;omega),zG HG5.out hgr (fun k e=>by have:=hB k e;omega)⟩)
 have hst0:=hst
 clear hst hat HA hr hgn HG5 HM5 HI5 HT5
 go_wp2_with fail
 refine (nK _ _ _ (by omega)).mono ?_
 rintro e wq ⟨rfl,rfl⟩
 have hk0:=pB how 5
 have hk1:=eB how 5 (by omega)
 have hk:modI how 5=0∨modI how 5=1∨modI how 5=2∨modI how 5=3∨modI how 5=4:=by omega
 obtain ⟨kk,hkk⟩:∃ kk,kk=modI how 5:=⟨_,rfl⟩
 rw [← hkk] at hk ⊢
 clear hkk hk0 hk1
 have HST:=Kh hst0
 clear hst0
 have hL2:(0:Int) < (L:Int)+2:=by omega
 rcases hk with rfl|rfl|rfl|rfl|rfl
 ·go_wp2_with fail
  refine (nK _ _ _ (by omega)).mono ?_
  rintro e wq ⟨rfl,rfl⟩
  obtain ⟨x,hx⟩:∃ x,x=modI v 5:=⟨_,rfl⟩
  rw [← hx]
  clear hx
  go_wp2_with fail
  have hS:=FIN.out 0 (.int .i64 x) ⟨x,st.a,st.b,st.word,st.set⟩ (by omega) rfl (by show st.word.size≤3000;omega)
  obtain ⟨ss,hss⟩:∃ ss,ss=ds.set r ⟨x,st.a,st.b,st.word,st.set⟩:=⟨_,rfl⟩
  obtain ⟨wS,hwS⟩:∃ W,W=w5.setCell ⟨g,r * 5,none⟩ (.int .i64 x):=⟨_,rfl⟩
  rw [← hwS]
  replace hS:DerSt w wS (.slice tA tl tC) (.slice iA il iC) (.slice (some ⟨g,0,none⟩) L sc5) t im ss:=by rw [hwS,hss];exact hS
  have HS:=Kh hS
  clear hss hS hwS
  clear FIN c0 c1 c2 c3 c4 z0 z1 z2 z3 z4
  refine (oT wS.heap.size wS _ _ _ t im ss (Nat.le_refl _) HS.out.mat HS.out.im HS.out.ss HS.out.ws HS.out.tab).mono ?_
  rintro e w6 ⟨rfl,hg6⟩
  have H6:=Kh (HS.out.step hg6)
  obtain ⟨b,hb⟩:∃ b,b=derB t im ss:=⟨_,rfl⟩
  rw [← hb]
  have fb:(b == b)=true:=by simp
  have HB:=Kh hb
  clear hg6 HS hb
  go_wp2_with fail
  refine (qW w6.heap.size w6 _ _ _ t im ss (Nat.le_refl _) H6.out.mat H6.out.im H6.out.ss H6.out.ws).mono ?_
  rintro e w7 ⟨rfl,hg7⟩
  rw [← HB.out]
  have H7:=Kh (H6.out.step hg7)
  clear hg7 H6
  go_wp2_with fail
  refine (rE _ H7.out.tab).mono ?_
  rintro e w20 ⟨rfl,hg20⟩
  have HG20:=Kh (zG H7.out.grown hg20 (by simp))
  clear hg20
  go_wp2
  go_ret
  exact ⟨rfl,HG20.out⟩
 ·go_wp2_with fail
  refine (nK _ _ _ (by omega)).mono ?_
  rintro e wq ⟨rfl,rfl⟩
  have hx0:=pB v ((L:Int)+2)
  have hx1:=eB v ((L:Int)+2) (by omega)
  obtain ⟨x,hx⟩:∃ x,x=modI v ((L:Int)+2):=⟨_,rfl⟩
  rw [← hx] at hx0 hx1 ⊢
  clear hx
  have hwr:wrap64 (x - 1)=x - 1:=by unfold wrap64;omega
  go_wp2_with fail
  have hS:=FIN.out 1 (.int .i64 (x - 1)) ⟨st.op,x - 1,st.b,st.word,st.set⟩ (by omega) rfl (by show st.word.size≤3000;omega)
  obtain ⟨ss,hss⟩:∃ ss,ss=ds.set r ⟨st.op,x - 1,st.b,st.word,st.set⟩:=⟨_,rfl⟩
  obtain ⟨wS,hwS⟩:∃ W,W=w5.setCell ⟨g,r * 5+1,none⟩ (.int .i64 (x - 1)):=⟨_,rfl⟩
  rw [← hwS]
  replace hS:DerSt w wS (.slice tA tl tC) (.slice iA il iC) (.slice (some ⟨g,0,none⟩) L sc5) t im ss:=by rw [hwS,hss];exact hS
  have HS:=Kh hS
  clear hss hS hwS
  clear FIN c0 c1 c2 c3 c4 z0 z1 z2 z3 z4
  refine (oT wS.heap.size wS _ _ _ t im ss (Nat.le_refl _) HS.out.mat HS.out.im HS.out.ss HS.out.ws HS.out.tab).mono ?_
  rintro e w6 ⟨rfl,hg6⟩
  have H6:=Kh (HS.out.step hg6)
  obtain ⟨b,hb⟩:∃ b,b=derB t im ss:=⟨_,rfl⟩
  rw [← hb]
  have fb:(b == b)=true:=by simp
  have HB:=Kh hb
  clear hg6 HS hb
  go_wp2_with fail
  refine (qW w6.heap.size w6 _ _ _ t im ss (Nat.le_refl _) H6.out.mat H6.out.im H6.out.ss H6.out.ws).mono ?_
  rintro e w7 ⟨rfl,hg7⟩
  rw [← HB.out]
  have H7:=Kh (H6.out.step hg7)
  clear hg7 H6
  go_wp2_with fail
  refine (rE _ H7.out.tab).mono ?_
  rintro e w20 ⟨rfl,hg20⟩
  have HG20:=Kh (zG H7.out.grown hg20 (by simp))
  clear hg20
  go_wp2
  go_ret
  exact ⟨rfl,HG20.out⟩
 ·go_wp2_with fail
  refine (nK _ _ _ (by omega)).mono ?_
  rintro e wq ⟨rfl,rfl⟩
  have hx0:=pB v ((L:Int)+2)
  have hx1:=eB v ((L:Int)+2) (by omega)
  obtain ⟨x,hx⟩:∃ x,x=modI v ((L:Int)+2):=⟨_,rfl⟩
  rw [← hx] at hx0 hx1 ⊢
  clear hx
  have hwr:wrap64 (x - 1)=x - 1:=by unfold wrap64;omega
  go_wp2_with fail
  have hS:=FIN.out 2 (.int .i64 (x - 1)) ⟨st.op,st.a,x - 1,st.word,st.set⟩ (by omega) rfl (by show st.word.size≤3000;omega)
  obtain ⟨ss,hss⟩:∃ ss,ss=ds.set r ⟨st.op,st.a,x - 1,st.word,st.set⟩:=⟨_,rfl⟩
  obtain ⟨wS,hwS⟩:∃ W,W=w5.setCell ⟨g,r * 5+2,none⟩ (.int .i64 (x - 1)):=⟨_,rfl⟩
  rw [← hwS]
  replace hS:DerSt w wS (.slice tA tl tC) (.slice iA il iC) (.slice (some ⟨g,0,none⟩) L sc5) t im ss:=by rw [hwS,hss];exact hS
  have HS:=Kh hS
  clear hss hS hwS
  clear FIN c0 c1 c2 c3 c4 z0 z1 z2 z3 z4
  refine (oT wS.heap.size wS _ _ _ t im ss (Nat.le_refl _) HS.out.mat HS.out.im HS.out.ss HS.out.ws HS.out.tab).mono ?_
  rintro e w6 ⟨rfl,hg6⟩
  have H6:=Kh (HS.out.step hg6)
  obtain ⟨b,hb⟩:∃ b,b=derB t im ss:=⟨_,rfl⟩
  rw [← hb]
  have fb:(b == b)=true:=by simp
  have HB:=Kh hb
  clear hg6 HS hb
  go_wp2_with fail
  refine (qW w6.heap.size w6 _ _ _ t im ss (Nat.le_refl _) H6.out.mat H6.out.im H6.out.ss H6.out.ws).mono ?_
  rintro e w7 ⟨rfl,hg7⟩
  rw [← HB.out]
  have H7:=Kh (H6.out.step hg7)
  clear hg7 H6
  go_wp2_with fail
  refine (rE _ H7.out.tab).mono ?_
  rintro e w20 ⟨rfl,hg20⟩
  have HG20:=Kh (zG H7.out.grown hg20 (by simp))
  clear hg20
  go_wp2
  go_ret
  exact ⟨rfl,HG20.out⟩
 ·go_wp2_with fail
  obtain ⟨u,hu⟩:∃ u,u=st.word ++ ⟨#[97]⟩:=⟨_,rfl⟩
  have hus:u.size≤3000:=by have h1:(⟨#[97]⟩:ByteArray).size=1:=rfl;rw [hu,ByteArray.size_append];omega
  have hS:=FIN.out 3 (.string u) ⟨st.op,st.a,st.b,u,st.set⟩ (by omega) rfl hus
  obtain ⟨ss,hss⟩:∃ ss,ss=ds.set r ⟨st.op,st.a,st.b,u,st.set⟩:=⟨_,rfl⟩
  obtain ⟨wS,hwS⟩:∃ W,W=w5.setCell ⟨g,r * 5+3,none⟩ (.string u):=⟨_,rfl⟩
  rw [← hu,← hwS]
  replace hS:DerSt w wS (.slice tA tl tC) (.slice iA il iC) (.slice (some ⟨g,0,none⟩) L sc5) t im ss:=by rw [hwS,hss];exact hS
  have HS:=Kh hS
  clear hss hS hwS hu
  clear FIN c0 c1 c2 c3 c4 z0 z1 z2 z3 z4
  refine (oT wS.heap.size wS _ _ _ t im ss (Nat.le_refl _) HS.out.mat HS.out.im HS.out.ss HS.out.ws HS.out.tab).mono ?_
  rintro e w6 ⟨rfl,hg6⟩
  have H6:=Kh (HS.out.step hg6)
  obtain ⟨b,hb⟩:∃ b,b=derB t im ss:=⟨_,rfl⟩
  rw [← hb]
  have fb:(b == b)=true:=by simp
  have HB:=Kh hb
  clear hg6 HS hb
  go_wp2_with fail
  refine (qW w6.heap.size w6 _ _ _ t im ss (Nat.le_refl _) H6.out.mat H6.out.im H6.out.ss H6.out.ws).mono ?_
  rintro e w7 ⟨rfl,hg7⟩
  rw [← HB.out]
  have H7:=Kh (H6.out.step hg7)
  clear hg7 H6
  go_wp2_with fail
  refine (rE _ H7.out.tab).mono ?_
  rintro e w20 ⟨rfl,hg20⟩
  have HG20:=Kh (zG H7.out.grown hg20 (by simp))
  clear hg20
  go_wp2
  go_ret
  exact ⟨rfl,HG20.out⟩
 ·go_wp2_with fail
  refine (nK _ _ _ (by omega)).mono ?_
  rintro e wq ⟨rfl,rfl⟩
  obtain ⟨x,hx⟩:∃ x,x=modI v N:=⟨_,rfl⟩
  rw [← hx]
  clear hx
  go_wp2_with fail
  have hS:=FIN.out 4 (.int .i64 x) ⟨st.op,st.a,st.b,st.word,x⟩ (by omega) rfl (by show st.word.size≤3000;omega)
  obtain ⟨ss,hss⟩:∃ ss,ss=ds.set r ⟨st.op,st.a,st.b,st.word,x⟩:=⟨_,rfl⟩
  obtain ⟨wS,hwS⟩:∃ W,W=w5.setCell ⟨g,r * 5+4,none⟩ (.int .i64 x):=⟨_,rfl⟩
  rw [← hwS]
  replace hS:DerSt w wS (.slice tA tl tC) (.slice iA il iC) (.slice (some ⟨g,0,none⟩) L sc5) t im ss:=by rw [hwS,hss];exact hS
  have HS:=Kh hS
  clear hss hS hwS
  clear FIN c0 c1 c2 c3 c4 z0 z1 z2 z3 z4
  refine (oT wS.heap.size wS _ _ _ t im ss (Nat.le_refl _) HS.out.mat HS.out.im HS.out.ss HS.out.ws HS.out.tab).mono ?_
  rintro e w6 ⟨rfl,hg6⟩
  have H6:=Kh (HS.out.step hg6)
  obtain ⟨b,hb⟩:∃ b,b=derB t im ss:=⟨_,rfl⟩
  rw [← hb]
  have fb:(b == b)=true:=by simp
  have HB:=Kh hb
  clear hg6 HS hb
  go_wp2_with fail
  refine (qW w6.heap.size w6 _ _ _ t im ss (Nat.le_refl _) H6.out.mat H6.out.im H6.out.ss H6.out.ws).mono ?_
  rintro e w7 ⟨rfl,hg7⟩
  rw [← HB.out]
  have H7:=Kh (H6.out.step hg7)
  clear hg7 H6
  go_wp2_with fail
  refine (rE _ H7.out.tab).mono ?_
  rintro e w20 ⟨rfl,hg20⟩
  have HG20:=Kh (zG H7.out.grown hg20 (by simp))
  clear hg20
  go_wp2
  go_ret
  exact ⟨rfl,HG20.out⟩
def laidTabs : List (String × DataW Unit) := [("math/bits.deBruijn32tab", Rows.laid_math_bits_deBruijn32tab), ("math/bits.deBruijn64tab", Rows.laid_math_bits_deBruijn64tab)]
theorem tabOk_of_laid {W:World} (h:laidMetH Tryd.prog laidTabs W):TabOk W:=by
 rw [MakeChecks.laidMetH_plain _ _ _ (by kernel_rfl)] at h
 obtain ⟨ps,⟨g0,t0,cs0,f0,p0,q0,hg0,ht0,hv0,hd0,⟨g1,t1,cs1,f1,p1,q1,hg1,ht1,hv1,hd1,_,_⟩,_⟩,_,_⟩:=h
 have e1 : Tryd.prog.globalNamed "math/bits.deBruijn64tab" = some 1 := by kernel_rfl
 obtain rfl:=Oj (e1.symm.trans hg1)
 have e2:(Tryd.prog.globals[1]?).map (·.type)=some 143:=by kernel_rfl
 obtain rfl:=Oj (e2.symm.trans ht1)
 have hc:=Lib.cells_of_tab (k:=.u8) (zs:=Lib.deBruijn64tab.map fun (x:Nat)=>(x:Int)) (n:=64) (e:=5) (by kernel_rfl) (by kernel_rfl) (by kernel_rfl) (by kernel_rfl) hd1
 have hti : Lib.TabIs Tryd.prog W "math/bits.deBruijn64tab" .u8 (Lib.deBruijn64tab.map fun (x : Nat) => (x : Int)) := by
  unfold Lib.TabIs
  rw [hv1,← hc]
 have hcell:∀ i,i < Lib.deBruijn64tab.length→W.cell? ⟨1,i,none⟩=some (.int .u8 (Lib.deBruijn64tab.getD i 0)):=fun i hi=>by
  have:=hti.cell e1 i (by rw [List.length_map];exact hi)
  rw [this]
  simp [List.getD,List.getElem?_eq_getElem hi]
 exact ⟨World.block_lt_of_cell? W _ (hcell 0 (by decide)),hcell⟩
end Go.Proofs.YtdjhoadoiknaoaaDoor
