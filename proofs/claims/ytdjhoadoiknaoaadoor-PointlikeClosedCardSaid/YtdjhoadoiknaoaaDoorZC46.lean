/- Part 46 of the proof: Needed, Derive, CClosed, PClosed, StillG, RCheckD, Law40C, Laid40. -/
import Derived.Test.YtdjhoadoiknaoaaDoorZC45
import Derived.LaidMore
import Derived.Lib.LaidTab
import Derived.Stop.Joined
set_option linter.unusedVariables false
set_option linter.unusedSimpArgs false
namespace Go.Proofs.YtdjhoadoiknaoaaDoor
open Go.RowKit
theorem app5n {P:Program} {w:World} {ops:Array Oper} {rest:List Oper} {o:Oper} {a:Act} {Q:Exit→Act→World→Prop} (hgd:o.guard=none) (s x:Operand) (t:TypeId)
  (ho:o.op=.call { callee:=.builtin .append,args:=#[s,x],argTypes:=#[t,t] })
  {e:TypeId} {z:Value} {bytes:Nat} (E:Elem5 P t e z bytes) (base:Nat) (v:Value) (n:Nat) (xs:List Value) (hs:a.eval s=v) (hown:w.ownsRow base e 5 v n xs)
  (st:StepV) (hx:a.eval x=.slice (some ⟨w.heap.size,0,none⟩) 1 1) (h63:n+1≤maxLen) (hbytes:(n+1) * bytes≤140737488355328) (hbase:base≤w.heap.size)
  (h:∀ sa sc w',w'.ownsRow base e 5 (.slice sa (n+1) sc) (n+1) (xs ++ st.vals)→w.grownBy w' v.ownBlock→wpList P ops Q rest (a.put o.dst (.slice sa (n+1) sc)) w') :
  wpList P ops Q (o :: rest) a (w.alloc (.cells #[.int .i64 st.op,.int .i64 st.a,.int .i64 st.b,.string st.word,.int .i64 st.set] e)) :=
 wpList_plain hgd fun _ hK=>wp_app5 s x t ho E base v n xs hs (hown.alloc _) st w.heap.size hx (0,0) (heap_alloc_new w _) h63 hbytes (by simp;omega) fun sa sc w' h2 h3=>hK _ _ (h sa sc w' h2 (zG (Ga w _ _) h3))
theorem rK {bs:List Bool} {a j:Nat} (h:bs.getD j false=true):(bs.set a true).getD j false=true:=by
 by_cases e:a=j
 ·subst e
  by_cases hl:a < bs.length
  ·rw [xO _ _ _ _ hl]
  ·rw [List.set_eq_of_length_le (by omega)];exact h
 ·rw [getD_set_ne _ _ _ _ _ e];exact h
theorem uH {bs:List Bool} {a:Nat} (h:a < bs.length):(bs.set a true).getD a false=true:=xO _ _ _ _ h
theorem MarksOk.set {ss:List StepV} {bs:List Bool} {k a:Nat} (h:MarksOk ss bs k) (ha:a < k):MarksOk ss (bs.set a true) k where
 len:=by rw [List.length_set];exact h.len
 last:=rK h.last
 a:=fun i hk hi hb hop=>rK (h.a i hk hi (by rw [getD_set_ne _ _ _ _ _ (by omega)] at hb;exact hb) hop)
 b:=fun i hk hi hb hop=>rK (h.b i hk hi (by rw [getD_set_ne _ _ _ _ _ (by omega)] at hb;exact hb) hop)
theorem MarksOk.close {ss:List StepV} {bs:List Bool} {k:Nat} (h:MarksOk ss bs (k+1)) (ha:bs.getD k false=true→(ss.getD k default).op≠1→bs.getD (ss.getD k default).a.toNat false=true) (hb:bs.getD k false=true→(ss.getD k default).op=2→bs.getD (ss.getD k default).b.toNat false=true):MarksOk ss bs k where
 len:=h.len
 last:=h.last
 a:=fun i hk hi hbi hop=>by
  rcases Nat.eq_or_lt_of_le hk with rfl|hk
  ·exact ha hbi hop
  ·exact h.a i hk hi hbi hop
 b:=fun i hk hi hbi hop=>by
  rcases Nat.eq_or_lt_of_le hk with rfl|hk
  ·exact hb hbi hop
  ·exact h.b i hk hi hbi hop
theorem marks_start {ss:List StepV} {m n:Nat} (hl:ss.length=m) (hm:m=n+1):MarksOk ss ((List.replicate m false).set n true) m where
 len:=by simp [hl]
 last:=by
  rw [show ss.length - 1=n by omega]
  exact uH (by simp;omega)
 a:=fun i hk hi=>by omega
 b:=fun i hk hi=>by omega
theorem step_ops {t:List (List Int)} {im:List Int} {ss:List StepV} {k:Nat} {st:StepV} (e:st=ss.getD k default) (h:stepB t im ss k=true):st.op=1∨(st.op=2∧(0≤st.a∧st.a < k)∧0≤st.b∧st.b < k)∨(st.op=3∧0≤st.a∧st.a < k):=by
 by_cases h1:st.op=1
 ·exact .inl h1
 by_cases h2:st.op=2
 ·rw [rL e h2] at h
  simp only [Bool.and_eq_true] at h
  exact .inr (.inl ⟨h2,xT.1 h.1.1.2,xT.1 h.1.2⟩)
 by_cases h3:st.op=3
 ·rw [oY e h3] at h
  simp only [Bool.and_eq_true] at h
  exact .inr (.inr ⟨h3,xT.1 h.1.1.2⟩)
 ·rw [lK e h1 h2 h3] at h;cases h
def NeededOk (w:World) (t:List (List Int)) (im:List Int) (ss:List StepV) (e:Ending) (w':World):Prop :=
 w.grownBy w' none∧∃ (sa:Option Addr) (sc:Nat) (l:List StepV),e=.returned (.slice sa l.length sc)∧w'.ownsRow w.heap.size 60 5 (.slice sa l.length sc) l.length (yV l)∧tU t im l l.length∧0 < l.length∧l.length≤ss.length∧(l.getD (l.length - 1) default).set=(ss.getD (ss.length - 1) default).set∧∀ i,i < l.length→(l.getD i default).word.size≤maxLen
set_option maxRecDepth 100000 in
set_option maxHeartbeats 1000000 in
theorem needed_any (w:World) (g cap m n:Nat) (t:List (List Int)) (im:List Int) (ss:List StepV) (hl:ss.length=m) (hm:m=n+1) (hm4:m≤4096) (hs:StepsAt w g ss) (hok:tU t im ss ss.length) (hwz:∀ i,i < ss.length→(ss.getD i default).word.size≤maxLen) :
  Calls Tryd.prog 77 #[.slice (some ⟨g,0,none⟩) m cap] w (NeededOk w t im ss):=by
 have hgl:=hs.lt
 have hnm:n < m:=by omega
 have hmn:m≤n+1:=by omega
 have hm1:1≤m:=by omega
 have hn1:m - 1=n:=by omega
 have HMS:Hid (MarksOk ss ((List.replicate m false).set (m - 1) true) m):=Kh (by rw [hn1];exact marks_start hl hm)
 clear hn1
 have HL:=Kh hl;have HM:=Kh hm;have HS:=Kh hs;have HOK:=Kh hok;have HWZ:=Kh hwz
 obtain ⟨z5,by5,hE5,hby5⟩:=elem_step
 have HE5:=Kh hE5
 clear hl hm hs hok hwz hE5
 go_enter Tryd.func77,Tryd.ntmps77
 go_wp2_with (at_make;refine make1 rfl _ _ _ rfl wD rfl _ _ _ _ m rfl rfl rfl rfl ?b1 ?b2 ?_;(case b1=>omega);(case b2=>(unfold maxLen;omega));intro w1 ha1 hg1 hz1;rw [← wU] at ha1;have c1:=ha1.bool (m - 1) (by simp;omega);have f1:=ha1.frozen (m - 1);have hA1:=ha1.bool_set (m - 1) (by simp;omega) true;have hG1:=zF hg1 (zH w1 ⟨w.heap.size,m - 1,none⟩ (.bool true)) (fun j e=>by have e:w.heap.size=j:=Oj e;omega))
 have HA1:=Kh hA1;have HG1:=Kh hG1
 clear ha1 hg1 c1 f1 hA1 hG1 hz1
 go_loopg [4] m (fun gh i wr=>∃ (k:Nat) (bs:List Bool) (z:Int),gh=k∧k≤m∧i=.int .i64 z∧Hid (z=(k:Int) - 1)∧Hid (Arr wr w.heap.size 4 (bls bs))∧Hid (w.grownBy wr none)∧Hid (MarksOk ss bs k))
 case atStart=>exact ⟨m,_,(m:Int) - 1,rfl,Nat.le_refl _,rfl,Kh rfl,HA1,HG1,HMS⟩
 case round =>
  clear HA1 HG1 HMS
  obtain ⟨k,bs,z,hgk,hkm,rfl,HZ,HA,HG,HMK⟩:=hrel
  have HGK:=Kh hgk
  clear hgk
  have hmb:=HA.out.lt
  by_cases hk0:k=0
  ·have hz:z < 0:=by have:=HZ.out;omega
   have hz':¬ 0≤z:=by omega
   have HMF:Hid (MarksOk ss bs 0):=Kh (by have:=HMK.out;rw [hk0] at this;exact this)
   obtain ⟨wz,rfl⟩:∃ wz:World,wz=wr:=⟨_,rfl⟩
   clear hk0 HZ HMK
   go_wp2_with (at_make;refine make1 rfl _ _ _ rfl yG rfl _ _ _ _ m rfl rfl rfl rfl ?b3 ?b4 ?_;(case b3=>omega);(case b4=>(unfold maxLen;omega));intro w2 ha2 hg2 hz2;rw [← xX] at ha2)
   have HA2:=Kh ha2;have HB2:=Kh (HA.out.kept hg2 (by simp));have HG2:=Kh (zF HG.out hg2 (by simp))
   obtain ⟨nb,hnb⟩:∃ nb,nb=wz.heap.size:=⟨_,rfl⟩
   rw [← hnb] at HA2 ⊢
   have hbn:w.heap.size < nb:=by omega
   have HLS:Hid (ListOk t im ss bs (List.replicate m 0) 0 []):=Kh ⟨by simp [HL.out],fun i hi=>absurd hi (by simp),Nat.zero_le _,fun i hi=>absurd hi (by omega),fun i hi=>absurd hi (by simp),fun h=>absurd h (by omega)⟩
   clear ha2 hg2 hz2 hnb HA HG hmb
   go_loopg [6,61] m (fun gh v6 i wr=>∃ (k:Nat) (no:List Nat) (l:List StepV) (sa:Option Addr) (sc:Nat),gh+k=m∧i=.int .i64 k∧v6=.slice sa l.length sc∧Hid (ListOk t im ss bs no k l)∧Hid (Arr wr nb 3 (nats no))∧Hid (Arr wr w.heap.size 4 (bls bs))∧Hid (wr.ownsRow w.heap.size 60 5 (.slice sa l.length sc) l.length (yV l))∧Hid (w.grownBy wr none))
   case atStart=>exact ⟨0,_,[],none,0,rfl,rfl,rfl,HLS,HA2,HB2,Kh (World.ownsRow_nil _ _ _ _),HG2⟩
   case round =>
    clear HLS HA2 HB2 HG2
    obtain ⟨k,no,l,sa,sc,hgh,rfl,rfl,HLO,HN,HB,HO,HG⟩:=hrel
    have HGH:=Kh hgh
    clear hgh
    by_cases hk:¬ k < m
    ·have hk':¬ (k:Int) < m:=by omega
     have HKM:Hid (k=m):=Kh (by have:=HGH.out;omega)
     go_wp2
     go_ret
     have hlo:=HLO.out
     rw [HKM.out] at hlo
     have hlast:=HMF.out.last
     rw [HL.out] at hlast
     obtain ⟨h0,h1⟩:=hlo.lastn (by omega) hlast
     have h2:=hlo.nos (m - 1) (by omega) hlast
     rw [h1] at h2
     exact ⟨HG.out,sa,sc,l,rfl,HO.out,hlo.ok,h0,by rw [HL.out];exact hlo.le,by rw [HL.out];exact h2.2.1,hlo.wz⟩
    replace hk:k < m:=by omega
    have hk':(k:Int) < m:=by omega
    have hst:=HS.out.kept HG.out (by simp)
    have hks:k < ss.length:=by rw [HL.out];exact hk
    have c0:=hst.op k hks
    have c1:=hst.a k hks
    have c2:=hst.b k hks
    have c3:=hst.word k hks
    have c4:=hst.set k hks
    have hsb:=HOK.out k hks
    obtain ⟨st,est⟩:∃ st,st=ss.getD k default:=⟨_,rfl⟩
    rw [← est] at c0 c1 c2 c3 c4
    have HEST:=Kh est
    have hops:=step_ops est hsb
    have hllk:=HLO.out.le
    obtain ⟨wb,hwb⟩:∃ W,W=wr.alloc (.cells #[.int .i64 st.op,.int .i64 st.a,.int .i64 st.b,.string st.word,.int .i64 st.set] 60):=⟨_,rfl⟩
    have hgb:wr.grownBy wb none:=by rw [hwb];exact Ga wr _ none
    have hbb:=heap_alloc_new wr (.cells #[.int .i64 st.op,.int .i64 st.a,.int .i64 st.b,.string st.word,.int .i64 st.set] 60)
    rw [← hwb] at hbb
    obtain ⟨o,ho⟩:∃ o,o=wr.heap.size:=⟨_,rfl⟩
    rw [← ho] at hbb
    have hno:=HN.out.lt
    have hwr:=HG.out.size
    have hnbo:nb≠o:=by omega
    have hmbo:w.heap.size≠o:=by omega
    have HWB:=Kh hwb;have HOE:=Kh ho;have HBB:=Kh hbb
    have HNB:=Kh (HN.out.kept hgb (by simp));have HMB:=Kh (HB.out.kept hgb (by simp));have HOB:=Kh (yZ HO.out hgb);have HGB:=Kh (zF HG.out hgb (by simp))
    have HOLT:Hid (∀ q,(Value.slice sa l.length sc).ownBlock=some q→q < o):=Kh (fun q e=>by rw [ho];exact iR HO.out e)
    clear hwb hgb hbb ho est hst hsb HN HB HO HG
    go_upto_region 15 with fail
    rw [← HWB.out,← HOE.out]
    have cm:=HMB.out.bool k (by rw [HMF.out.len];exact hks)
    cases hbk:bs.getD k false with
    | false =>
     rw [hbk] at cm
     have HSK:=Kh (HLO.out.skip hbk)
     clear hbk c0 c1 c2 c3 c4
     go_wp2
     go_roundg (m - (k+1))
     case measure=>have:=HGH.out;omega
     case rel=>exact ⟨k+1,no,l,sa,sc,by have:=HGH.out;omega,by go_num,rfl,HSK,HNB,HMB,HOB,HGB⟩
    | true =>
     rw [hbk] at cm
     have HPU:=Kh (HLO.out.push hks hbk HMF.out (HOK.out k hks) (HWZ.out k hks))
     rw [← HEST.out] at HPU
     have hnl:no.length=m:=by rw [HLO.out.len,HL.out]
     have HNL:=Kh hnl
     obtain ⟨r,hr⟩:∃ r,r=renum no st:=⟨_,rfl⟩
     rw [← hr] at HPU
     have HR:=Kh hr
     clear hbk hnl hr c0 c1 c2 c3 c4
     obtain ⟨b0,b1,b2,b3,b4⟩:=wG HBB.out
     have f1:=zD HBB.out 1
     have f2:=zD HBB.out 2
     rcases hops with h1|⟨h2,⟨ha0,ha1⟩,hb0,hb1⟩|⟨h3,ha0,ha1⟩
     ·have q1:(st.op != 1)=false:=by rw [h1];rfl
      have q2:(st.op == 2)=false:=by rw [h1];rfl
      have HBC:Hid (wb.heap[o]?=some (.cells #[.int .i64 r.op,.int .i64 r.a,.int .i64 r.b,.string r.word,.int .i64 r.set] 60 (0,0))):=Kh (by
       have e:r=st:=by rw [HR.out];unfold renum;rw [if_pos h1]
       rw [e];exact HBB.out)
      have HGC:Hid (wb.grownBy wb (some o)):=Kh (zX _ _)
      clear h1
      go_upto_region 20 with fail
      obtain ⟨wc,hwc⟩:∃ W:World,W=wb:=⟨_,rfl⟩
      rw [← hwc] at HBC ⊢
      have HGC:Hid (wb.grownBy wc (some o)):=Kh (by rw [hwc];exact zX _ _)
      clear hwc b0 b1 b2 b3 b4 f1 f2 cm q1 q2
      have HNC:=Kh (HNB.out.kept HGC.out (fun e=>hnbo (Oj e).symm));have HMC:=Kh (HMB.out.kept HGC.out (fun e=>hmbo (Oj e).symm))
      have HOC:Hid (wc.ownsRow w.heap.size 60 5 (.slice sa l.length sc) l.length (yV l)):=Kh (HOB.out.kept HGC.out (by
       rcases hv:(Value.slice sa l.length sc).ownBlock with _|q
       ·exact .inl rfl
       ·exact .inr (fun e=>by have e:q=o:=Oj e;have:=HOLT.out q hv;omega)))
      have HGW:=Kh (zF HGB.out HGC.out (fun q e=>by have e:o=q:=Oj e;have:=HOE.out;omega))
      have cn:=HNC.out.nat k (by rw [HNL.out];exact hk)
      have fn:=HNC.out.frozen k
      have gd:=zH wc ⟨nb,k,none⟩ (.int .i64 (l.length:Int))
      have ad:=HNC.out.nat_set k (by rw [HNL.out];exact hk) l.length
      obtain ⟨wd,hwd⟩:∃ W,W=wc.setCell ⟨nb,k,none⟩ (.int .i64 (l.length:Int)):=⟨_,rfl⟩
      rw [← hwd] at gd ad
      have hbd:=zE HBC.out gd (fun e=>hnbo (Oj e))
      have HMD:=Kh (HMC.out.kept gd (fun e=>by have e:nb=w.heap.size:=Oj e;omega))
      have HND:=Kh ad
      have HOD:Hid (wd.ownsRow w.heap.size 60 5 (.slice sa l.length sc) l.length (yV l)):=Kh (HOC.out.kept gd (.inr (by
       obtain ⟨cur,rest,hh,_⟩:=HNC.out
       exact zS HOC.out hh (by decide))))
      have HGD:=Kh (zF HGW.out gd (fun q e=>by have e:nb=q:=Oj e;omega))
      have HWD:=Kh hwd
      have HBD:=Kh hbd
      have hwdz:=HGD.out.size
      have hod:o < wd.heap.size:=zQ hbd
      clear gd ad hwd hbd
      go_upto_region 21 with fail
      rw [← HWD.out]
      clear cn fn
      obtain ⟨r0,r1,r2,r3,r4⟩:=wG HBD.out
      have hbyn:(l.length+1) * by5≤4097 * 64:=Nat.mul_le_mul (by omega) hby5
      go_wp2_with (at_builtin;refine app5n rfl _ _ _ rfl HE5.out w.heap.size _ l.length (yV l) rfl HOD.out r rfl ?c1 ?c2 ?c3 ?_;(case c1=>(unfold maxLen;omega));(case c2=>omega);(case c3=>omega);intro sa8 sc8 w8 hown8 hg8)
      rw [← rI] at hown8
      have HO8:Hid (w8.ownsRow w.heap.size 60 5 (.slice sa8 (l ++ [r]).length sc8) (l ++ [r]).length (yV (l ++ [r]))):=Kh (by rw [List.length_append,List.length_singleton];exact hown8)
      have hlow:=fun q e=>(HOD.out.lt q e).1
      have HG8:=Kh (zF HGD.out hg8 (fun q e=>hlow q e))
      have HN8:=Kh (HND.out.kept hg8 (by
       obtain ⟨cur,rest,hh,_⟩:=HND.out
       exact zS HOD.out hh (by decide)))
      have HM8:=Kh (HMD.out.kept hg8 (by
       obtain ⟨cur,rest,hh,_⟩:=HMD.out
       exact zS HOD.out hh (by decide)))
      have HEL:Hid ((l ++ [r]).length=l.length+1):=Kh (by simp)
      clear hown8 hg8 hlow r0 r1 r2 r3 r4
      go_wp2
      go_roundg (m - (k+1))
      case measure=>have:=HGH.out;omega
      case rel=>exact ⟨k+1,_,l ++ [r],sa8,sc8,by have:=HGH.out;omega,by go_num,by rw [HEL.out],HPU,HN8,HM8,HO8,HG8⟩
     ·have q1:(st.op != 1)=true:=by rw [h2];rfl
      have q2:(st.op == 2)=true:=by rw [h2];rfl
      obtain ⟨xa,hxa⟩:∃ xa:Nat,(xa:Int)=st.a:=⟨st.a.toNat,by omega⟩
      obtain ⟨xb,hxb⟩:∃ xb:Nat,(xb:Int)=st.b:=⟨st.b.toNat,by omega⟩
      have hxam:(xa:Int) < m:=by omega
      have hxbm:(xb:Int) < m:=by omega
      have na:=HNB.out.nat xa (by rw [HNL.out];omega)
      have nbb:=HNB.out.nat xb (by rw [HNL.out];omega)
      obtain ⟨A,hA⟩:∃ A,A=no.getD xa 0:=⟨_,rfl⟩
      obtain ⟨B,hB⟩:∃ B,B=no.getD xb 0:=⟨_,rfl⟩
      rw [← hA] at na
      rw [← hB] at nbb
      rw [← hxa] at b1
      rw [← hxb] at b2
      have s1:=heap_setCell_same wb o 1 _ _ (.int .i64 (A:Int)) HBB.out
      have g1:=zH wb ⟨o,1,none⟩ (.int .i64 (A:Int))
      obtain ⟨we,hwe⟩:∃ W,W=wb.setCell ⟨o,1,none⟩ (.int .i64 (A:Int)):=⟨_,rfl⟩
      have s1z:=s1
      have g1z:=g1
      rw [← hwe] at s1 g1
      have s1':we.heap[o]?=some (.cells #[.int .i64 st.op,.int .i64 (A:Int),.int .i64 st.b,.string st.word,.int .i64 st.set] 60 (0,0)):=by rw [s1];simp
      have s2:=heap_setCell_same we o 2 _ _ (.int .i64 (B:Int)) s1'
      have g2:=zH we ⟨o,2,none⟩ (.int .i64 (B:Int))
      have s1w:=s1'
      rw [hwe] at s1w
      obtain ⟨e0,e1,e2,e3,e4⟩:=wG s1w
      have k2:=zD s1w 2
      rw [← hxb] at e2
      have nb2:=(HNB.out.kept g1z (fun e=>hnbo (Oj e).symm)).nat xb (by rw [HNL.out];omega)
      rw [← hB] at nb2
      obtain ⟨wc,hwc⟩:∃ W,W=we.setCell ⟨o,2,none⟩ (.int .i64 (B:Int)):=⟨_,rfl⟩
      rw [← hwc] at s2 g2
      have HBC:Hid (wc.heap[o]?=some (.cells #[.int .i64 r.op,.int .i64 r.a,.int .i64 r.b,.string r.word,.int .i64 r.set] 60 (0,0))):=Kh (by
       have e:r={ st with a:=(A:Int),b:=(B:Int) }:=by
        rw [HR.out,hA,hB];unfold renum;rw [if_neg (by omega),if_pos h2,← hxa,← hxb,Int.toNat_natCast,Int.toNat_natCast]
       rw [e,s2];simp)
      have HGC:Hid (wb.grownBy wc (some o)):=Kh (zG g1 g2)
      have HWE:=Kh hwe;have HWC:=Kh hwc
      clear h2 hA hB s1 s1' s2 g1 g2 s1z g1z s1w hwe hwc hxa hxb
      go_upto_region 20 with fail
      rw [← HWE.out,← HWC.out]
      clear b0 b1 b2 b3 b4 f1 f2 cm q1 q2 na nbb nb2 e0 e1 e2 e3 e4 k2
      have HNC:=Kh (HNB.out.kept HGC.out (fun e=>hnbo (Oj e).symm));have HMC:=Kh (HMB.out.kept HGC.out (fun e=>hmbo (Oj e).symm))
      have HOC:Hid (wc.ownsRow w.heap.size 60 5 (.slice sa l.length sc) l.length (yV l)):=Kh (HOB.out.kept HGC.out (by
       rcases hv:(Value.slice sa l.length sc).ownBlock with _|q
       ·exact .inl rfl
       ·exact .inr (fun e=>by have e:q=o:=Oj e;have:=HOLT.out q hv;omega)))
      have HGW:=Kh (zF HGB.out HGC.out (fun q e=>by have e:o=q:=Oj e;have:=HOE.out;omega))
      have cn:=HNC.out.nat k (by rw [HNL.out];exact hk)
      have fn:=HNC.out.frozen k
      have gd:=zH wc ⟨nb,k,none⟩ (.int .i64 (l.length:Int))
      have ad:=HNC.out.nat_set k (by rw [HNL.out];exact hk) l.length
      obtain ⟨wd,hwd⟩:∃ W,W=wc.setCell ⟨nb,k,none⟩ (.int .i64 (l.length:Int)):=⟨_,rfl⟩
      rw [← hwd] at gd ad
      have hbd:=zE HBC.out gd (fun e=>hnbo (Oj e))
      have HMD:=Kh (HMC.out.kept gd (fun e=>by have e:nb=w.heap.size:=Oj e;omega))
      have HND:=Kh ad
      have HOD:Hid (wd.ownsRow w.heap.size 60 5 (.slice sa l.length sc) l.length (yV l)):=Kh (HOC.out.kept gd (.inr (by
       obtain ⟨cur,rest,hh,_⟩:=HNC.out
       exact zS HOC.out hh (by decide))))
      have HGD:=Kh (zF HGW.out gd (fun q e=>by have e:nb=q:=Oj e;omega))
      have HWD:=Kh hwd
      have HBD:=Kh hbd
      have hwdz:=HGD.out.size
      have hod:o < wd.heap.size:=zQ hbd
      clear gd ad hwd hbd
      go_upto_region 21 with fail
      rw [← HWD.out]
      clear cn fn
      obtain ⟨r0,r1,r2,r3,r4⟩:=wG HBD.out
      have hbyn:(l.length+1) * by5≤4097 * 64:=Nat.mul_le_mul (by omega) hby5
      go_wp2_with (at_builtin;refine app5n rfl _ _ _ rfl HE5.out w.heap.size _ l.length (yV l) rfl HOD.out r rfl ?c1 ?c2 ?c3 ?_;(case c1=>(unfold maxLen;omega));(case c2=>omega);(case c3=>omega);intro sa8 sc8 w8 hown8 hg8)
      rw [← rI] at hown8
      have HO8:Hid (w8.ownsRow w.heap.size 60 5 (.slice sa8 (l ++ [r]).length sc8) (l ++ [r]).length (yV (l ++ [r]))):=Kh (by rw [List.length_append,List.length_singleton];exact hown8)
      have hlow:=fun q e=>(HOD.out.lt q e).1
      have HG8:=Kh (zF HGD.out hg8 (fun q e=>hlow q e))
      have HN8:=Kh (HND.out.kept hg8 (by
       obtain ⟨cur,rest,hh,_⟩:=HND.out
       exact zS HOD.out hh (by decide)))
      have HM8:=Kh (HMD.out.kept hg8 (by
       obtain ⟨cur,rest,hh,_⟩:=HMD.out
       exact zS HOD.out hh (by decide)))
      have HEL:Hid ((l ++ [r]).length=l.length+1):=Kh (by simp)
      clear hown8 hg8 hlow r0 r1 r2 r3 r4
      go_wp2
      go_roundg (m - (k+1))
      case measure=>have:=HGH.out;omega
      case rel=>exact ⟨k+1,_,l ++ [r],sa8,sc8,by have:=HGH.out;omega,by go_num,by rw [HEL.out],HPU,HN8,HM8,HO8,HG8⟩
     ·have q1:(st.op != 1)=true:=by rw [h3];rfl
      have q2:(st.op == 2)=false:=by rw [h3];rfl
      obtain ⟨xa,hxa⟩:∃ xa:Nat,(xa:Int)=st.a:=⟨st.a.toNat,by omega⟩
      have hxam:(xa:Int) < m:=by omega
      have na:=HNB.out.nat xa (by rw [HNL.out];omega)
      obtain ⟨A,hA⟩:∃ A,A=no.getD xa 0:=⟨_,rfl⟩
      rw [← hA] at na
      rw [← hxa] at b1
      have s1:=heap_setCell_same wb o 1 _ _ (.int .i64 (A:Int)) HBB.out
      have g1:=zH wb ⟨o,1,none⟩ (.int .i64 (A:Int))
      obtain ⟨wc,hwc⟩:∃ W,W=wb.setCell ⟨o,1,none⟩ (.int .i64 (A:Int)):=⟨_,rfl⟩
      rw [← hwc] at s1 g1
      have s1':wc.heap[o]?=some (.cells #[.int .i64 st.op,.int .i64 (A:Int),.int .i64 st.b,.string st.word,.int .i64 st.set] 60 (0,0)):=by rw [s1];simp
      have s1w:=s1'
      rw [hwc] at s1w
      obtain ⟨e0,e1,e2,e3,e4⟩:=wG s1w
      have HBC:Hid (wc.heap[o]?=some (.cells #[.int .i64 r.op,.int .i64 r.a,.int .i64 r.b,.string r.word,.int .i64 r.set] 60 (0,0))):=Kh (by
       have e:r={ st with a:=(A:Int) }:=by
        rw [HR.out,hA];unfold renum;rw [if_neg (by omega),if_neg (by omega),← hxa,Int.toNat_natCast]
       rw [e];exact s1')
      have HGC:Hid (wb.grownBy wc (some o)):=Kh g1
      have HWC:=Kh hwc
      clear h3 hA s1 s1' s1w g1 hwc hxa
      go_upto_region 20 with fail
      rw [← HWC.out]
      clear b0 b1 b2 b3 b4 f1 f2 cm q1 q2 na e0 e1 e2 e3 e4
      have HNC:=Kh (HNB.out.kept HGC.out (fun e=>hnbo (Oj e).symm));have HMC:=Kh (HMB.out.kept HGC.out (fun e=>hmbo (Oj e).symm))
      have HOC:Hid (wc.ownsRow w.heap.size 60 5 (.slice sa l.length sc) l.length (yV l)):=Kh (HOB.out.kept HGC.out (by
       rcases hv:(Value.slice sa l.length sc).ownBlock with _|q
       ·exact .inl rfl
       ·exact .inr (fun e=>by have e:q=o:=Oj e;have:=HOLT.out q hv;omega)))
      have HGW:=Kh (zF HGB.out HGC.out (fun q e=>by have e:o=q:=Oj e;have:=HOE.out;omega))
      have cn:=HNC.out.nat k (by rw [HNL.out];exact hk)
      have fn:=HNC.out.frozen k
      have gd:=zH wc ⟨nb,k,none⟩ (.int .i64 (l.length:Int))
      have ad:=HNC.out.nat_set k (by rw [HNL.out];exact hk) l.length
      obtain ⟨wd,hwd⟩:∃ W,W=wc.setCell ⟨nb,k,none⟩ (.int .i64 (l.length:Int)):=⟨_,rfl⟩
      rw [← hwd] at gd ad
      have hbd:=zE HBC.out gd (fun e=>hnbo (Oj e))
      have HMD:=Kh (HMC.out.kept gd (fun e=>by have e:nb=w.heap.size:=Oj e;omega))
      have HND:=Kh ad
      have HOD:Hid (wd.ownsRow w.heap.size 60 5 (.slice sa l.length sc) l.length (yV l)):=Kh (HOC.out.kept gd (.inr (by
       obtain ⟨cur,rest,hh,_⟩:=HNC.out
       exact zS HOC.out hh (by decide))))
      have HGD:=Kh (zF HGW.out gd (fun q e=>by have e:nb=q:=Oj e;omega))
      have HWD:=Kh hwd
      have HBD:=Kh hbd
      have hwdz:=HGD.out.size
      have hod:o < wd.heap.size:=zQ hbd
      clear gd ad hwd hbd
      go_upto_region 21 with fail
      rw [← HWD.out]
      clear cn fn
      obtain ⟨r0,r1,r2,r3,r4⟩:=wG HBD.out
      have hbyn:(l.length+1) * by5≤4097 * 64:=Nat.mul_le_mul (by omega) hby5
      go_wp2_with (at_builtin;refine app5n rfl _ _ _ rfl HE5.out w.heap.size _ l.length (yV l) rfl HOD.out r rfl ?c1 ?c2 ?c3 ?_;(case c1=>(unfold maxLen;omega));(case c2=>omega);(case c3=>omega);intro sa8 sc8 w8 hown8 hg8)
      rw [← rI] at hown8
      have HO8:Hid (w8.ownsRow w.heap.size 60 5 (.slice sa8 (l ++ [r]).length sc8) (l ++ [r]).length (yV (l ++ [r]))):=Kh (by rw [List.length_append,List.length_singleton];exact hown8)
      have hlow:=fun q e=>(HOD.out.lt q e).1
      have HG8:=Kh (zF HGD.out hg8 (fun q e=>hlow q e))
      have HN8:=Kh (HND.out.kept hg8 (by
       obtain ⟨cur,rest,hh,_⟩:=HND.out
       exact zS HOD.out hh (by decide)))
      have HM8:=Kh (HMD.out.kept hg8 (by
       obtain ⟨cur,rest,hh,_⟩:=HMD.out
       exact zS HOD.out hh (by decide)))
      have HEL:Hid ((l ++ [r]).length=l.length+1):=Kh (by simp)
      clear hown8 hg8 hlow r0 r1 r2 r3 r4
      go_wp2
      go_roundg (m - (k+1))
      case measure=>have:=HGH.out;omega
      case rel=>exact ⟨k+1,_,l ++ [r],sa8,sc8,by have:=HGH.out;omega,by go_num,by rw [HEL.out],HPU,HN8,HM8,HO8,HG8⟩
  ·obtain ⟨j,hj⟩:∃ j,k=j+1:=⟨k - 1,by omega⟩
   have hzj:z=(j:Int):=by have:=HZ.out;omega
   subst hzj
   have hjm:j < m:=by omega
   have hjm':(j:Int) < m:=by omega
   have hjs:j < ss.length:=by rw [HL.out];exact hjm
   have hwj:wrap64 ((j:Int) - 1)=(j:Int) - 1:=IntWalk.wrap64_in _ (by omega)
   have hst:=HS.out.kept HG.out (by simp)
   have c0:=hst.op j hjs
   have c1:=hst.a j hjs
   have c2:=hst.b j hjs
   have hsb:=HOK.out j hjs
   obtain ⟨st,est⟩:∃ st,st=ss.getD j default:=⟨_,rfl⟩
   rw [← est] at c0 c1 c2
   have hops:=step_ops est hsb
   have HEST:=Kh est
   have HMK1:Hid (MarksOk ss bs (j+1)):=Kh (by have:=HMK.out;rw [hj] at this;exact this)
   have hbl:bs.length=m:=by rw [HMK.out.len,HL.out]
   have cm:=HA.out.bool j (by rw [hbl];exact hjm)
   have HBL:=Kh hbl
   have HJ:=Kh hj
   clear hj hk0 HZ HMK hbl est hst hsb
   cases hbj:bs.getD j false with
   | false =>
    rw [hbj] at cm
    have HC:Hid (MarksOk ss bs j):=Kh (HMK1.out.close (fun h=>by rw [hbj] at h;cases h) (fun h=>by rw [hbj] at h;cases h))
    clear hbj
    go_wp2
    go_roundg j
    case measure=>have:=HJ.out;have:=HGK.out;omega
    case rel=>exact ⟨j,bs,(j:Int) - 1,rfl,by omega,rfl,Kh rfl,HA,HG,HC⟩
   | true =>
    rw [hbj] at cm
    rcases hops with h1|⟨h2,⟨ha0,ha1⟩,hb0,hb1⟩|⟨h3,ha0,ha1⟩
    ·have q1:(st.op != 1)=false:=by rw [h1];rfl
     have HC:Hid (MarksOk ss bs j):=Kh (HMK1.out.close (fun _ h=>absurd (by rw [← HEST.out];exact h1) h) (fun _ h=>by rw [← HEST.out,h1] at h;omega))
     clear hbj h1
     go_wp2
     go_roundg j
     case measure=>have:=HJ.out;have:=HGK.out;omega
     case rel=>exact ⟨j,bs,(j:Int) - 1,rfl,by omega,rfl,Kh rfl,HA,HG,HC⟩
    ·have q1:(st.op != 1)=true:=by rw [h2];rfl
     have q2:(st.op == 2)=true:=by rw [h2];rfl
     obtain ⟨xa,hxa⟩:∃ xa:Nat,(xa:Int)=st.a:=⟨st.a.toNat,by omega⟩
     obtain ⟨xb,hxb⟩:∃ xb:Nat,(xb:Int)=st.b:=⟨st.b.toNat,by omega⟩
     have hxam:(xa:Int) < m:=by omega
     have hxbm:(xb:Int) < m:=by omega
     have ca:=HA.out.bool xa (by rw [HBL.out];omega)
     have fa:=HA.out.frozen xa
     have A1:=HA.out.bool_set xa (by rw [HBL.out];omega) true
     have g1:=zH wr ⟨w.heap.size,xa,none⟩ (.bool true)
     have hG1:=zF HG.out g1 (fun q e=>by have e:w.heap.size=q:=Oj e;omega)
     have st1:=HS.out.kept hG1 (by simp)
     have k0:=st1.op j hjs
     have k2:=st1.b j hjs
     rw [← HEST.out] at k0 k2
     rw [← hxb] at k2 c2
     rw [← hxa] at c1
     have cb:=A1.bool xb (by rw [List.length_set,HBL.out];omega)
     have fb:=A1.frozen xb
     have A2:=A1.bool_set xb (by rw [List.length_set,HBL.out];omega) true
     have hG2:=zF hG1 (zH (wr.setCell ⟨w.heap.size,xa,none⟩ (.bool true)) ⟨w.heap.size,xb,none⟩ (.bool true)) (fun q e=>by have e:w.heap.size=q:=Oj e;omega)
     obtain ⟨wc,hwc⟩:∃ W,W=(wr.setCell ⟨w.heap.size,xa,none⟩ (.bool true)).setCell ⟨w.heap.size,xb,none⟩ (.bool true):=⟨_,rfl⟩
     rw [← hwc] at A2 hG2
     have HC:Hid (MarksOk ss ((bs.set xa true).set xb true) j):=Kh (((HMK1.out.set (by omega)).set (by omega)).close (fun _ _=>by
      rw [← HEST.out,← hxa,Int.toNat_natCast];exact rK (uH (by rw [HBL.out];omega))) (fun _ _=>by
      rw [← HEST.out,← hxb,Int.toNat_natCast];exact uH (by rw [List.length_set,HBL.out];omega)))
     have HA2:=Kh A2;have HG2:=Kh hG2;have HWC:=Kh hwc
     clear hbj h2 A1 A2 g1 hG1 hG2 st1 hwc hxa hxb
     go_upto_region 5 with fail
     rw [← HWC.out]
     clear ca fa cb fb k0 k2 c0 c1 c2 cm
     go_wp2
     go_roundg j
     case measure=>have:=HJ.out;have:=HGK.out;omega
     case rel=>exact ⟨j,_,(j:Int) - 1,rfl,by omega,rfl,Kh rfl,HA2,HG2,HC⟩
    ·have q1:(st.op != 1)=true:=by rw [h3];rfl
     have q2:(st.op == 2)=false:=by rw [h3];rfl
     obtain ⟨xa,hxa⟩:∃ xa:Nat,(xa:Int)=st.a:=⟨st.a.toNat,by omega⟩
     have hxam:(xa:Int) < m:=by omega
     have ca:=HA.out.bool xa (by rw [HBL.out];omega)
     have fa:=HA.out.frozen xa
     have A1:=HA.out.bool_set xa (by rw [HBL.out];omega) true
     have hG1:=zF HG.out (zH wr ⟨w.heap.size,xa,none⟩ (.bool true)) (fun q e=>by have e:w.heap.size=q:=Oj e;omega)
     have st1:=HS.out.kept hG1 (by simp)
     have k0:=st1.op j hjs
     rw [← HEST.out] at k0
     obtain ⟨we,hwe⟩:∃ W,W=wr.setCell ⟨w.heap.size,xa,none⟩ (.bool true):=⟨_,rfl⟩
     rw [← hwe] at A1 hG1
     rw [← hxa] at c1
     have HC:Hid (MarksOk ss (bs.set xa true) j):=Kh ((HMK1.out.set (by omega)).close (fun _ _=>by
      rw [← HEST.out,← hxa,Int.toNat_natCast];exact uH (by rw [HBL.out];omega)) (fun _ h=>by rw [← HEST.out,h3] at h;omega))
     have HA2:=Kh A1;have HG2:=Kh hG1;have HWE:=Kh hwe
     clear hbj h3 A1 hG1 st1 hwe hxa
     go_upto_region 5 with fail
     rw [← HWE.out]
     clear ca fa k0 c0 c1 c2 cm
     go_wp2
     go_roundg j
     case measure=>have:=HJ.out;have:=HGK.out;omega
     case rel=>exact ⟨j,_,(j:Int) - 1,rfl,by omega,rfl,Kh rfl,HA2,HG2,HC⟩
theorem find_cases (ss:List StepV) (s:Int):(∃ i:Nat,i < ss.length∧sK ss s=i∧hits s (ss.getD i default)=true)∨(sK ss s = -1∧∀ i,i < ss.length→hits s (ss.getD i default)=false):=by
 unfold sK
 cases h:ss.findIdx? (hits s) with
 | some i =>
  obtain ⟨hi,h1,_⟩:=List.findIdx?_eq_some_iff_getElem.1 h
  exact .inl ⟨i,hi,rfl,by simpa [List.getD,List.getElem?_eq_getElem hi] using h1⟩
 | none =>
  refine .inr ⟨rfl,fun i hi=>?_⟩
  have:=List.findIdx?_eq_none_iff.1 h _ (List.getElem_mem hi)
  simpa [List.getD,List.getElem?_eq_getElem hi] using this
theorem step_take {t:List (List Int)} {im:List Int} {ss:List StepV} {k i:Nat} (hi:i < k) (h:stepB t im ss i=true):stepB t im (ss.take k) i=true:=by
 have key:∀ j,j < k→(ss.take k).getD j default=ss.getD j default:=fun j hj=>by
  rw [List.getD_eq_getElem?_getD,List.getElem?_take_of_lt hj,← List.getD_eq_getElem?_getD]
 simp only [stepB] at h ⊢
 rw [key i hi]
 split at h
 ·rename_i h1;rw [if_pos h1];exact h
 rename_i h1
 rw [if_neg h1]
 split at h
 ·rename_i h2
  rw [if_pos h2]
  simp only [Bool.and_eq_true] at h
  have ha:=xT.1 h.1.1.2
  have hb:=xT.1 h.1.2
  rw [key _ (by omega),key _ (by omega)]
  simp only [Bool.and_eq_true];exact h
 rename_i h2
 rw [if_neg h2]
 split at h
 ·rename_i h3
  rw [if_pos h3]
  simp only [Bool.and_eq_true] at h
  have ha:=xT.1 h.1.1.2
  rw [key _ (by omega)]
  simp only [Bool.and_eq_true];exact h
 ·cases h
theorem mZ {w:World} {p e:Nat} {x0 x1:Value} (h:w.heap[p]?=some (.cells #[x0,x1] e (0,0))):w.cell? ⟨p,0,none⟩=some x0∧w.cell? ⟨p,1,none⟩=some x1:=by
 have c0:=zI h 0 (by simp)
 have c1:=zI h 1 (by simp)
 exact ⟨by simpa using c0,by simpa using c1⟩
theorem rU {ss:List StepV} {k j:Nat} (hj:j < k):(ss.take k).getD j default=ss.getD j default:=by
 rw [List.getD_eq_getElem?_getD,List.getElem?_take_of_lt hj,← List.getD_eq_getElem?_getD]
theorem take_len {ss:List StepV} {i:Nat} (hi:i < ss.length):(ss.take (i+1)).length=i+1:=by
 rw [List.length_take];omega
theorem tI {ss:List StepV} {k j:Nat} (hj:j < (ss.take k).length):j < k∧j < ss.length:=by
 rw [List.length_take] at hj;omega
theorem StepsAt.take {w:World} {g:Nat} {ss:List StepV} (h:StepsAt w g ss) (k:Nat):StepsAt w g (ss.take k) where
 lt:=h.lt
 op:=fun j hj=>by rw [rU (tI hj).1];exact h.op j (tI hj).2
 a:=fun j hj=>by rw [rU (tI hj).1];exact h.a j (tI hj).2
 b:=fun j hj=>by rw [rU (tI hj).1];exact h.b j (tI hj).2
 word:=fun j hj=>by rw [rU (tI hj).1];exact h.word j (tI hj).2
 set:=fun j hj=>by rw [rU (tI hj).1];exact h.set j (tI hj).2
theorem take_steps {t:List (List Int)} {im:List Int} {ss:List StepV} (h:tU t im ss ss.length) (k:Nat):tU t im (ss.take k) (ss.take k).length:=fun j hj=>step_take (tI hj).1 (h j (tI hj).2)
theorem take_words {ss:List StepV} (h:∀ i,i < ss.length→(ss.getD i default).word.size≤maxLen) (k:Nat):∀ i,i < (ss.take k).length→((ss.take k).getD i default).word.size≤maxLen:=fun j hj=>by rw [rU (tI hj).1];exact h j (tI hj).2
theorem DerAt.steps {C dp p g n:Nat} {w:World} {ss:List StepV} {ix:List Nat} (h:DerAt C w dp p g n ss ix) (h0:0 < ss.length):∃ q sc,w.heap[dp]?=some (.cells #[.pointer (some ⟨p,0,none⟩),.slice (some ⟨q,0,none⟩) ss.length sc,.slice (some ⟨g,0,none⟩) (2 ^ n) (2 ^ n)] 95 (0,0))∧StepsAt w q ss∧ss.length≤sc∧sc≤maxLen:=by
 obtain ⟨sa,sc,hb,ho⟩:=h.box
 rcases id ho.2 with ⟨_,e⟩|⟨gg,cap,cur,e,hc,hg,h1,h2,_⟩
 ·omega
 ·simp only [Value.slice.injEq] at e
  obtain ⟨rfl,_,rfl⟩:=e
  exact ⟨gg,sc,hb,StepsAt.of_owns ho,h1,h2⟩
theorem DState.typed {F C p go dp g q e:Nat} {w0 w w':World} {t:List (List Int)} {im:List Int} {ix0 ix:List Nat} {ss:List StepV} {c:Array Value} {m:Nat × Nat} (h:DState F C w0 w p go dp g t im ix0 ss ix) (hq:w.heap[q]?=some (.cells c e m)) (h1:60≠e) (h2:3≠e) (h3:95≠e) (hC:C≤q) (h0:w0.heap.size≤q) (hg:w.grownBy w' (some q)) (hFC:F≤C) (htF:1 < F):DState F C w0 w' p go dp g t im ix0 ss ix:=by
 obtain ⟨sa,sc,hb,how⟩:=h.der.box
 have hdq:dp≠q:=fun e2=>by
  subst e2
  rw [hb] at hq
  simp only [Option.some.injEq,Obj.cells.injEq] at hq
  exact h3 hq.2.1
 have hgq:g≠q:=h.der.arr.type_ne hq h2
 exact ⟨h.sets.kept hg (fun k e=>by have e:q=k:=Oj e;omega),⟨⟨sa,sc,zE hb hg (fun e=>hdq (Oj e).symm),how.kept hg (.inr (zS how hq h1))⟩,h.der.arr.kept hg (fun e=>hgq (Oj e).symm),h.der.len,h.der.lo⟩,h.ok,h.le,h.but.step hg (fun k e=>by have e:q=k:=Oj e;exact .inr (by omega)),h.tab.kept hg (fun e=>by have e:q=1:=Oj e;omega),Nat.le_trans h.sz hg.size⟩
theorem DState.more {F C p go dp g:Nat} {w0 w1 w:World} {t:List (List Int)} {im:List Int} {ix0 ix1 ix:List Nat} {ss1 ss:List StepV} (h:DState F C w0 w1 p go dp g t im ix0 ss1 ix1) (k:DState F C w1 w p go dp g t im ix1 ss ix):DState F C w0 w p go dp g t im ix0 ss ix :=
 ⟨k.sets,k.der,k.ok,h.le.trans k.le,lE h.but k.but,k.tab,k.sz⟩
def DeriveOk (w:World) (t:List (List Int)) (im:List Int) (s:Int) (e:Ending) (w':World):Prop :=
 w.grownBy w' none∧((derE t im s≠0∧e=.returned (.tuple #[.slice none 0 0,.int .i64 (derE t im s)])) ∨
  (derE t im s=0∧∃ (sa:Option Addr) (sc:Nat) (l:List StepV) (S:Nat),e=.returned (.tuple #[.slice sa l.length sc,.int .i64 0])∧w'.ownsRow w.heap.size 60 5 (.slice sa l.length sc) l.length (yV l)∧tU t im l l.length∧0 < l.length∧l.length≤4096∧(∀ i,i < l.length→(l.getD i default).word.size≤maxLen)∧(l.getD (l.length - 1) default).set=(S:Int)∧S < 2 ^ t.length∧s.toNat &&& S=s.toNat))
theorem hit_in {t:List (List Int)} {im:List Int} {ss:List StepV} {ix:List Nat} {s:Int} {i:Nat} (hg:Good t im) (h:DerS t im ss ix) (hs:setB t.length s=true) (hi:i < ss.length) (hh:hits s (ss.getD i default)=true):tG (intL (uI t im)) s=true∧∃ S:Nat,(ss.getD i default).set=(S:Int)∧S < 2 ^ t.length∧s.toNat &&& S=s.toNat:=by
 obtain ⟨S,h1,h2,h3⟩:=h.d.uc i hi
 have hp:2 ^ t.length≤2 ^ 12:=Nat.pow_le_pow_right (by omega) hg.le
 simp only [setB,decide_eq_true_eq] at hs
 obtain ⟨x,rfl⟩:∃ x:Nat,s=(x:Int):=⟨s.toNat,by omega⟩
 have hx:x < 2 ^ t.length:=by omega
 simp only [hits,h1,beq_iff_eq] at hh
 rw [uQ S x (by omega) (by omega)] at hh
 have hh:S &&& x=x:=by omega
 have hx2:x &&& S=x:=by rw [Nat.and_comm];exact hh
 obtain ⟨b,hb,hbs⟩:=yI.1 h3
 exact ⟨within_uc hg hx (yI.2 ⟨b,hb,rV hx2 hbs⟩),S,h1,h2,by rw [Int.toNat_natCast];exact hx2⟩
theorem hit_no {t:List (List Int)} {im:List Int} {ss:List StepV} {ix:List Nat} {s:Int} (hg:Good t im) (h:DerS t im ss ix) (hl:∀ a∈uI t im,ix.getD a 0≠0) (hn:∀ i,i < ss.length→hits s (ss.getD i default)=false):tG (intL (uI t im)) s=false:=by
 unfold tG
 rw [List.any_eq_false]
 intro b hb
 obtain ⟨a,ha,rfl⟩:=List.mem_map.1 hb
 obtain ⟨h1,h2⟩:=h.at_set ((uS hg).2.2 a ha) (hl a ha)
 have:=hn _ h1
 unfold hits at this
 rw [h2] at this
 rw [this];simp
set_option maxRecDepth 100000 in
set_option maxHeartbeats 2000000 in
theorem derive_any (B:Nat) (w:World) (v iv:Value) (t:List (List Int)) (im:List Int) (s:Int) (hB:B≤w.heap.size) (h:Mat B w v t) (hi:Row B w iv (ints im)) (hT:TabOk w) :
  Calls Tryd.prog 36 #[v,iv,.int .i64 s] w (DeriveOk w t im s):=by
 have HCH:=Kh (mM B w v iv t im hB h hi)
 have H:=Kh h;have HI:=Kh hi;have HT:=Kh hT
 obtain ⟨ta,tc,rfl⟩:=h.shape
 obtain ⟨ia,ic,rfl⟩:=hi.shape
 rw [zM] at HCH HI ⊢
 clear h hi hT
 go_enter Tryd.func36,Tryd.ntmps36
 go_wp2_with fail
 refine HCH.out.mono ?_
 rintro e w1 ⟨rfl,hg1⟩
 have HG1:=Kh hg1
 clear HCH hg1
 by_cases hz:yO t im≠0
 ·have HD:=Kh (derE_check (s:=s) hz)
  obtain ⟨E,hE⟩:∃ E,E=yO t im:=⟨_,rfl⟩
  rw [← hE] at hz HD ⊢
  have e1:(E != 0)=true:=by rw [bne_iff_ne];exact hz
  have HE:=Kh hz
  clear hE hz
  go_wp2
  refine bodyPost_ret (v:=.tuple #[.slice none 0 0,.int .i64 E]) (by simp [results,Tryd.results36,go_sem]) rfl ?_
  exact ⟨HG1.out,.inl ⟨by rw [HD.out];exact HE.out,by rw [HD.out]⟩⟩
 replace hz:yO t im=0:=by omega
 rw [hz]
 have hgd:=wV.1 hz
 have hle:=hgd.le
 have hva:=hgd.valid
 have HZ:=Kh hz;have HGD:=Kh hgd;have HVA:=Kh hva;have HTB:=Kh (tb_of hva)
 clear hz hgd hva
 by_cases h0:s=0
 ·have HE:=Kh (derE_arg (s:=s) HZ.out (.inl h0))
  have HS0:=Kh h0
  have e1:(s == 0)=true:=by rw [h0];rfl
  clear h0
  go_wp2
  refine bodyPost_ret (v:=.tuple #[.slice none 0 0,.int .i64 1]) (by simp [results,Tryd.results36,go_sem]) rfl ?_
  exact ⟨HG1.out,.inl ⟨by rw [HE.out];omega,by rw [HE.out]⟩⟩
 have e1:(s == 0)=false:=by rw [beq_eq_false_iff_ne];exact h0
 have HS0:=Kh h0
 clear h0
 go_wp2_with fail
 refine (rH _ ta t.length tc s hle).mono ?_
 rintro e w2 ⟨rfl,rfl⟩
 by_cases hs:setB t.length s=false
 ·have HE:=Kh (derE_arg HZ.out (.inr hs))
  rw [hs]
  clear hs
  go_wp2
  refine bodyPost_ret (v:=.tuple #[.slice none 0 0,.int .i64 1]) (by simp [results,Tryd.results36,go_sem]) rfl ?_
  exact ⟨HG1.out,.inl ⟨by rw [HE.out];omega,by rw [HE.out]⟩⟩
 replace hs:setB t.length s=true:=by simpa using hs
 rw [hs]
 have HSB:=Kh hs
 have HEI:=Kh (derE_in (s:=s) HZ.out (fun h=>h.elim HS0.out (fun h=>by rw [HSB.out] at h;cases h)))
 clear hs
 have HN:=Kh (tY B w1 _ t (by have:=HG1.out.size;omega) (H.out.kept HG1.out (by simp)) HVA.out hle (HT.out.kept HG1.out (by simp)))
 go_wp2_with fail
 refine HN.out.mono ?_
 rintro e w2 ⟨p,go,rfl,hs2,hg2⟩
 have HS2:=Kh hs2;have HG2:=Kh (zF HG1.out hg2 (by simp))
 have hgo:=hs2.go_lt'
 have hwF:=HG1.out.size
 have hFC:=hg2.size
 have htw:=HT.out.1
 have htF:1 < w1.heap.size:=by omega
 obtain ⟨F,hF⟩:∃ F,F=w1.heap.size:=⟨_,rfl⟩
 obtain ⟨C,hC⟩:∃ C,C=w2.heap.size:=⟨_,rfl⟩
 rw [← hF,← hC] at HS2 hgo hFC
 rw [← hF] at htF hwF
 have hCe:C≤w2.heap.size:=by omega
 have hCe':w2.heap.size≤C:=by omega
 have HCC:=Kh hC
 clear hF hC hs2 hg2 HN
 have hsh:=rW (m:=t.length) (by omega)
 obtain ⟨N,hN⟩:∃ N,N=2 ^ t.length:=⟨_,rfl⟩
 have hN4:N≤4096:=by have:=uG hle;omega
 rw [← hN] at hsh
 have HNN:=Kh hN
 clear hN
 go_wp2_with (at_make;refine make1 rfl _ _ _ rfl yG rfl _ _ _ _ N rfl rfl hsh hsh ?b1 ?b2 ?_;(case b1=>omega);(case b2=>(unfold maxLen;omega));intro w3 ha3 hg3 hz3;rw [← xX] at ha3)
 have HA3:=Kh ha3;have HG3:=Kh hg3
 obtain ⟨g,hg⟩:∃ g,g=w2.heap.size:=⟨_,rfl⟩
 rw [← hg] at HA3 ⊢
 have hgC:C≤g:=by omega
 have hgz:g < w3.heap.size:=by omega
 clear ha3 hg3 hsh hg
 obtain ⟨w4,hw4⟩:∃ W,W=w3.alloc (.cells #[.pointer (some ⟨p,0,none⟩),.slice none 0 0,.slice (some ⟨g,0,none⟩) N N] 95):=⟨_,rfl⟩
 have hg4:=Ga w3 (.cells #[.pointer (some ⟨p,0,none⟩),.slice none 0 0,.slice (some ⟨g,0,none⟩) N N] 95) none
 have hb4:=heap_alloc_new w3 (.cells #[.pointer (some ⟨p,0,none⟩),.slice none 0 0,.slice (some ⟨g,0,none⟩) N N] 95)
 rw [← hw4] at hg4 hb4
 obtain ⟨dp,hdp⟩:∃ dp,dp=w3.heap.size:=⟨_,rfl⟩
 rw [← hdp] at hb4
 have HW4:=Kh hw4;have HDP:=Kh hdp
 have hdz:=zQ hb4
 have hgdp:g < dp:=by omega
 have HG24:=Kh (zF HG3.out hg4 (by simp))
 have HD4:Hid (DState F C w4 w4 p go dp g t im (List.replicate (2 ^ t.length) 0) [] (List.replicate (2 ^ t.length) 0)):=Kh (by
  refine ⟨HS2.out.kept HG24.out (by simp),⟨⟨none,0,by rw [← HNN.out];exact hb4,World.ownsRow_nil _ _ _ _⟩,by rw [← HNN.out];exact HA3.out.kept hg4 (by simp),by simp,by omega,hgC⟩,derS_nil t im,IxLe.refl _,GrownBut.refl _ _,(HT.out.kept (zF HG2.out HG24.out (by simp)) (by simp)),by omega⟩)
 have HGW4:=Kh (zF HG2.out HG24.out (by simp))
 have hzw4:=HGW4.out.size
 clear hw4 hg4 hb4 hdp HA3 HG3
 go_upto_region 8 with fail
 rw [← HW4.out,← HDP.out]
 go_wp2_with fail
 refine (dbegin_any F C B w4 p go dp g _ _ t im [] _ HD4.out HGD.out (by omega) (H.out.kept HGW4.out (by simp)) (HI.out.kept HGW4.out (by simp)) (by omega) hFC htF).mono ?_
 rintro e w5 ⟨rfl,ss5,ix5,hd5,hp5⟩
 have HD5:=Kh hd5;have HP5:=Kh hp5
 have hz45:=hd5.but.size
 have hwB5:w.grownBy w5 none:=hd5.but.grown HGW4.out (fun k hk=>.inr (by rcases hk with e|e|e|⟨e,_⟩ <;> omega))
 have HGW5:=Kh hwB5
 clear hd5 hp5 hwB5 HD4
 go_wp2_with fail
 refine (sJ B w5 _ _ t im (by omega) (H.out.kept HGW5.out (by simp)) (HI.out.kept HGW5.out (by simp)) HGD.out).mono ?_
 rintro e w6 ⟨sa6,sc6,rfl,hown6,hg6⟩
 have HD6:=Kh (HD5.out.quiet hg6)
 have HR6:=Kh (Row.of_owns hown6)
 have HGW6:=Kh (zF HGW5.out hg6 (by simp))
 have hz56:=hg6.size
 clear hown6 hg6
 go_wp2_with fail
 refine (pN F C w6 p go t.length (entN t) _ w6.heap.size (genL t im) HD6.out.sets hle HR6.out (qX HGD.out) (Nat.le_refl _)).mono ?_
 rintro e w7 ⟨sa7,sc7,rfl,hown7,hg7⟩
 have HST:Hid (maxOf t.length (genL t im)=tB t im):=Kh rfl
 rw [HST.out] at hown7 ⊢
 have hpos:=start_pos HGD.out
 obtain ⟨k0,rfl,hk1,hk2,harr⟩:=yQ hown7 hpos
 have hkl:=hown7.lt k0 rfl
 obtain ⟨l0,hl0⟩:∃ l0,l0=tB t im:=⟨_,rfl⟩
 have HIN:Hid (∀ a∈l0,ix5.getD a 0≠0):=Kh (fun a ha=>by
  rw [hl0] at ha
  obtain ⟨j,hj,rfl⟩:=List.getElem_of_mem (oH (qX HGD.out) ha)
  have:=HP5.out j hj
  rwa [zV hj] at this)
 rw [← hl0] at hpos hk1 harr ⊢
 have HF0:Hid (FamOk t.length (l0,false)):=Kh (by rw [hl0];exact lL HGD.out)
 have HL0:=Kh hl0
 have HD7:=HD6.out.quiet hg7
 have hz67:=hg7.size
 obtain ⟨w8,hw8⟩:∃ W,W=w7.alloc (.cells #[.slice (some ⟨k0,0,none⟩) l0.length sc7,.bool false] 49):=⟨_,rfl⟩
 have hg8:=Ga w7 (.cells #[.slice (some ⟨k0,0,none⟩) l0.length sc7,.bool false] 49) none
 have hb8:=heap_alloc_new w7 (.cells #[.slice (some ⟨k0,0,none⟩) l0.length sc7,.bool false] 49)
 rw [← hw8] at hg8 hb8
 obtain ⟨fb,hfb⟩:∃ fb,fb=w7.heap.size:=⟨_,rfl⟩
 rw [← hfb] at hb8
 have HW8:=Kh hw8;have HFB:=Kh hfb;have HB8:=Kh hb8
 have HD8:=Kh (HD7.quiet hg8)
 have HFR:Hid (FamRow w8 dp g go k0 l0):=Kh ⟨harr.kept hg8 (by simp),by omega,by omega,by omega⟩
 have hCf:C≤fb:=by omega
 have hCk:C≤k0:=by omega
 have hkf:k0≠fb:=by omega
 have h4f:w4.heap.size≤fb:=by omega
 have HGO:Hid (Going t.length (entN t) l0 l0 false):=Kh ⟨HF0.out,0,rfl⟩
 clear hw8 hg8 hb8 hfb HD7 hown7 hg7 harr hl0 HP5 HD5 HD6 HR6
 go_upto_region 10 with fail
 rw [← HW8.out,← HFB.out]
 go_loopg [] (togo t.length l0 false) (fun gh wr=>∃ (k sc:Nat) (l:List Nat) (d:Bool) (ss:List StepV) (ix:List Nat),gh=togo t.length l d∧Hid (Going t.length (entN t) l0 l d)∧0 < l.length∧Hid (DState F C w4 wr p go dp g t im (List.replicate (2 ^ t.length) 0) ss ix)∧Hid (FamRow wr dp g go k l)∧l.length≤sc∧sc≤maxLen∧k≠fb∧C≤k∧Hid (wr.heap[fb]?=some (.cells #[.slice (some ⟨k,0,none⟩) l.length sc,.bool d] 49 (0,0)))∧Hid (∀ a∈l,ix.getD a 0≠0))
 case atStart=>exact ⟨k0,sc7,l0,false,ss5,ix5,rfl,HGO,hpos,HD8,HFR,hk1,hk2,hkf,hCk,HB8,HIN⟩
 case round =>
  clear HGO HD8 HFR hk1 hk2 hkf hCk HB8 HIN hpos
  obtain ⟨k,sc,l,d,ss,ix,hgh,HGO,hpos,HD,HFR,hk1,hk2,hkf,hCk,HB,HIN⟩:=hrel
  have HGH:=Kh hgh
  clear hgh
  have hzr:=HD.out.but.size
  have hwr:w.grownBy wr none:=HD.out.but.grown HGW4.out (fun q hq=>.inr (by rcases hq with e|e|e|⟨e,_⟩ <;> omega))
  have HGR:=Kh hwr
  have hss:=HD.out.ok.i.le
  rw [← HNN.out] at hss
  have hs0:0 < ss.length:=by
   have hm:l.getD 0 0∈l:=wY hpos
   have:=(HD.out.ok.at_set (HGO.out.1.1 _ hm) (HIN.out _ hm)).1
   omega
  obtain ⟨q,qc,hbx,hst,hq1,hq2⟩:=HD.out.der.steps hs0
  have HBX:=Kh hbx;have HSTP:=Kh hst
  clear hwr hbx hst
  go_wp2_with fail
  refine (find_any wr dp q (2 ^ t.length) qc _ _ _ ss s HBX.out HSTP.out (by omega)).mono ?_
  rintro e wf ⟨rfl,hgf⟩
  have HDF:=Kh (HD.out.quiet hgf);have HGF:=Kh (zF HGR.out hgf (by simp));have HSF:=Kh (HSTP.out.kept hgf (by simp));have HBF:=Kh (zE HB.out hgf (by simp));have HBXF:=Kh (zE HBX.out hgf (by simp))
  have HFF:Hid (FamRow wf dp g go k l):=Kh ⟨HFR.out.arr.kept hgf (by simp),HFR.out.nd,HFR.out.ng,HFR.out.no⟩
  have hzf:=hgf.size
  clear hgf
  rcases find_cases ss s with ⟨i,hi,hfi,hh⟩|⟨hfn,hno⟩
  ·rw [hfi]
   obtain ⟨hin,S,hS1,hS2,hS3⟩:=hit_in HGD.out HDF.out.ok HSB.out hi hh
   have HIN2:=Kh hin;have HS1:=Kh hS1;have HS2':=Kh hS2;have HS3:=Kh hS3
   clear hfi hin hS1 hS2 hS3 hh
   have hi0:(0:Int)≤i:=by omega
   obtain ⟨d0,d1,d2⟩:=vJ HBXF.out
   have hqc:i+1≤qc:=by omega
   have hqm:qc≤9223372036854775807:=by unfold maxLen at hq2;omega
   have HTK:Hid ((ss.take (i+1)).length=i+1):=Kh (take_len hi)
   have HKEY:Hid ((ss.take (i+1)).getD i default=ss.getD i default):=Kh (rU (Nat.lt_succ_self i))
   have HNE:=Kh (needed_any wf q qc (i+1) i t im (ss.take (i+1)) HTK.out rfl (by omega) (HSF.out.take _) (take_steps HDF.out.ok.d.ok _) (take_words HDF.out.ok.d.wz _))
   have hi4:(i:Int)≤4096:=by omega
   go_wp2_with fail
   refine HNE.out.mono ?_
   rintro e wn ⟨hgn,sn,cn,ln,rfl,hown,hso,hl1,hl2,hl3,hl4⟩
   have HON:=Kh hown;have HGN:=Kh (zF HGF.out hgn (by simp));have HSO:=Kh hso;have HL3:=Kh hl3;have HL4:=Kh hl4
   have hzn:=HGF.out.size
   clear hown hgn hso hl3 hl4
   go_wp2
   refine bodyPost_ret (v:=.tuple #[.slice sn ln.length cn,.int .i64 0]) (by simp [results,Tryd.results36,go_sem]) rfl ?_
   refine ⟨HGN.out,.inr ⟨by rw [HEI.out,if_pos HIN2.out],sn,cn,ln,S,rfl,yK HON.out hzn,HSO.out,hl1,by rw [HTK.out] at hl2;omega,HL4.out,?_,HS2'.out,HS3.out⟩⟩
   rw [HL3.out,HTK.out,Nat.add_sub_cancel,HKEY.out];exact HS1.out
  ·rw [hfn]
   have HNO:=Kh hno
   obtain ⟨f0,f1⟩:=mZ HBF.out
   have z0:=zD HBF.out 0
   have z1:=zD HBF.out 1
   clear hno hfn
   cases d with
   | true =>
    have HCL:Hid (l=uI t im):=Kh (by unfold uI;rw [← HL0.out];exact HGO.out.stop HTB.out HF0.out)
    have hno:=hit_no HGD.out HDF.out.ok (fun a ha=>HIN.out a (by rw [HCL.out];exact ha)) HNO.out
    have HE:Hid (derE t im s=9):=Kh (by rw [HEI.out,if_neg (by rw [hno];simp)])
    clear hno
    go_wp2
    refine bodyPost_ret (v:=.tuple #[.slice none 0 0,.int .i64 9]) (by simp [results,Tryd.results36,go_sem]) rfl ?_
    exact ⟨HGF.out,.inl ⟨by rw [HE.out];omega,by rw [HE.out]⟩⟩
   | false =>
    have hll:=HGO.out.le
    rw [← HNN.out] at hll
    have HD0:Hid (DState F C wf wf p go dp g t im ix ss ix):=Kh ⟨HDF.out.sets,HDF.out.der,HDF.out.ok,IxLe.refl _,GrownBut.refl _ _,HDF.out.tab,HDF.out.sz⟩
    go_wp2_with fail
    refine (dround_any F C wf p go dp g k sc t im ss ix l HD0.out HGD.out HFF.out (fun a ha=>⟨HGO.out.1.1 a ha,HIN.out a ha⟩) (by omega) hFC htF).mono ?_
    rintro e wg ⟨rfl,ss2,ix2,hd2,hp2⟩
    have HDG:=Kh (HDF.out.more hd2);have HPR:=Kh hp2;have HLE:=Kh hd2.le
    have hfbk:¬ DerF C dp g go wf fb:=fun hf=>by
     rcases hf with e|e|e|⟨_,c,m,e⟩
     ·omega
     ·omega
     ·omega
     ·rw [HBF.out] at e
      simp only [Option.some.injEq,Obj.cells.injEq] at e
      exact absurd e.2.1 (by decide)
    have HBG:=Kh (hd2.but.heap HBF.out hfbk)
    have HFG:=Kh (HFF.out.but hd2.but)
    have hzg:=hd2.but.size
    clear hd2 hp2 f0 f1 z0 z1 HD0 hfbk
    obtain ⟨f0,f1⟩:=mZ HBG.out
    have HRO:Hid (RowO F C wg.heap.size wg (.slice (some ⟨k,0,none⟩) l.length sc) (nats l)):=Kh (.inr ⟨k,0,sc,by rw [zN],.inr hCk,HFG.out.arr.lt,by rw [zN];exact hk1,hk2,HFG.out.arr.row⟩)
    have htl:1 < F:=htF
    go_wp2_with fail
    refine (round_any F C wg.heap.size wg p go t.length (entN t) _ false l HDG.out.sets HTB.out hle HRO.out hpos HGO.out.1.1 (by omega) (Nat.le_refl _) HDG.out.sz htF HDG.out.tab).mono ?_
    rintro e wh ⟨sa3,sc3,rfl,hown3,hs3,hg3⟩
    have hpos3:=jC HTB.out HGO.out.1.1 hpos
    obtain ⟨k3,rfl,hc1,hc2,harr3⟩:=yQ hown3 hpos3
    have hk3:=hown3.lt k3 rfl
    have HM:Hid (togo t.length (yA t.length (entN t) l) (decide (yA t.length (entN t) l=l)) < togo t.length l false):=Kh (HGO.out.less HTB.out)
    have HGN:=Kh (HGO.out.step HTB.out)
    obtain ⟨R,hR⟩:∃ R,R=yA t.length (entN t) l:=⟨_,rfl⟩
    obtain ⟨D,hD⟩:∃ D,D=decide (yA t.length (entN t) l=l):=⟨_,rfl⟩
    have HINR:Hid (∀ a∈R,ix2.getD a 0≠0):=Kh (fun a ha=>by
     rw [hR] at ha
     rcases wR.1 (oH (vH HTB.out HGO.out.1.1) ha) with h1|⟨x,hx,⟨y,hy,rfl⟩|rfl⟩
     ·exact HLE.out.ne (HIN.out a h1)
     ·obtain ⟨i,hi,rfl⟩:=List.getElem_of_mem hx
      obtain ⟨j,hj,rfl⟩:=List.getElem_of_mem hy
      have:=(HPR.out i hi).1 j hj
      rwa [zV hi,zV hj] at this
     ·obtain ⟨i,hi,rfl⟩:=List.getElem_of_mem hx
      have:=(HPR.out i hi).2
      rwa [zV hi] at this)
    rw [← hD,← hR] at HM HGN
    rw [← hD]
    rw [← hR] at hown3 hpos3 hc1 harr3 ⊢
    have HDH:=Kh (HDG.out.goes hs3 hg3 htF)
    have hr3:=zE HBG.out hg3 (fun e=>by have e:go=fb:=Oj e;omega)
    have HBH:=Kh hr3
    obtain ⟨y0,y1⟩:=mZ hr3
    have u0:=zD hr3 0
    have u1:=zD hr3 1
    have hsR:=fam_set hr3 (.slice (some ⟨k3,0,none⟩) R.length sc3) (.bool D)
    have hgR:wh.grownBy ((wh.setCell ⟨fb,0,none⟩ (.slice (some ⟨k3,0,none⟩) R.length sc3)).setCell ⟨fb,1,none⟩ (.bool D)) (some fb):=zG (zH wh ⟨fb,0,none⟩ _) (zH (wh.setCell ⟨fb,0,none⟩ (.slice (some ⟨k3,0,none⟩) R.length sc3)) ⟨fb,1,none⟩ _)
    have hz3:=hg3.size
    have hzg4:=HDG.out.but.size
    have hk3f:k3≠fb:=by have:=zQ HBG.out;omega
    have HDS:=Kh (HDH.out.typed hr3 (by decide) (by decide) (by decide) hCf h4f hgR hFC htF)
    have hdpl:dp < wg.heap.size:=by omega
    have HFS:Hid (FamRow ((wh.setCell ⟨fb,0,none⟩ (.slice (some ⟨k3,0,none⟩) R.length sc3)).setCell ⟨fb,1,none⟩ (.bool D)) dp g go k3 R):=Kh ⟨harr3.kept hgR (fun e=>hk3f (Oj e).symm),by omega,by omega,by omega⟩
    have HBS:=Kh hsR
    have hCk3:C≤k3:=by have:=HDG.out.sz;omega
    clear hown3 hs3 hg3 hr3 hR hD hsR hgR harr3 f0 f1
    go_wp2
    go_roundg (togo t.length R D)
    case measure=>rw [HGH.out];exact HM.out
    case rel=>exact ⟨k3,sc3,R,D,ss2,ix2,rfl,HGN,hpos3,HDS,HFS,hc1,hc2,hk3f,hCk3,HBS,HINR⟩
def clN (t:List (List Int)) (im:List Int) (l:List Nat):Bool:=(genL t im).all (under l) && l.all fun a=>(l.all fun b=>under l (zP t.length (entN t) a b)) && under l (yC t.length (entN t) a)
noncomputable def clB (t:List (List Int)) (im zs:List Int):Bool:=decide (yO t im=0) && (zs.all (setB t.length) && clN t im (natL zs))
theorem oJ (l:List Nat):ints (intL l)=nats l:=by simp [ints,intL,nats]
section
variable {t:List (List Int)} {im zs:List Int}
theorem clB_check (h:yO t im≠0):clB t im zs=false:=by simp [clB,h]
theorem clB_set {k:Nat} (hk:k < zs.length) (h:setB t.length (zs.getD k 0)=false):clB t im zs=false:=by
 have:zs.all (setB t.length)=false:=List.all_eq_false.2 ⟨zs.getD k 0,getDm hk,by rw [h];simp⟩
 simp [clB,this]
theorem clN_gen {l:List Nat} {s:Nat} (hs:s∈genL t im) (h:under l s=false):clN t im l=false:=by
 have:(genL t im).all (under l)=false:=List.all_eq_false.2 ⟨s,hs,by rw [h];simp⟩
 simp [clN,this]
theorem clN_prod {l:List Nat} {a b:Nat} (ha:a∈l) (hb:b∈l) (h:under l (zP t.length (entN t) a b)=false):clN t im l=false:=by
 have h1:(l.all fun b=>under l (zP t.length (entN t) a b))=false:=List.all_eq_false.2 ⟨b,hb,by rw [h];simp⟩
 have h2:(l.all fun a=>(l.all fun b=>under l (zP t.length (entN t) a b)) && under l (yC t.length (entN t) a))=false:=List.all_eq_false.2 ⟨a,ha,by rw [h1];simp⟩
 simp [clN,h2]
theorem clN_om {l:List Nat} {a:Nat} (ha:a∈l) (h:under l (yC t.length (entN t) a)=false):clN t im l=false:=by
 have h2:(l.all fun a=>(l.all fun b=>under l (zP t.length (entN t) a b)) && under l (yC t.length (entN t) a))=false:=List.all_eq_false.2 ⟨a,ha,by rw [h];simp⟩
 simp [clN,h2]
theorem iI {l:List Nat} (hg:∀ s∈genL t im,under l s=true) (hp:∀ a∈l,∀ b∈l,under l (zP t.length (entN t) a b)=true) (ho:∀ a∈l,under l (yC t.length (entN t) a)=true):clN t im l=true:=by
 unfold clN
 rw [Bool.and_eq_true,List.all_eq_true,List.all_eq_true]
 refine ⟨hg,fun a ha=>?_⟩
 rw [Bool.and_eq_true,List.all_eq_true]
 exact ⟨fun b hb=>hp a ha b hb,ho a ha⟩
theorem iY (h:yO t im=0) (hs:∀ k,k < zs.length→setB t.length (zs.getD k 0)=true):clB t im zs=clN t im (natL zs):=by
 have:zs.all (setB t.length)=true:=List.all_eq_true.2 fun z hz=>by
  obtain ⟨i,hi,rfl⟩:=List.getElem_of_mem hz
  have:=hs i hi
  rwa [zV hi] at this
 simp [clB,h,this]
theorem clN_max {l:List Nat} (ht:Tb t.length (entN t)) (hl:∀ b∈l,b < 2 ^ t.length) (hg:∀ s∈genL t im,under l s=true) (hp:∀ a∈maxOf t.length l,∀ b∈maxOf t.length l,under l (zP t.length (entN t) a b)=true) (ho:∀ a∈maxOf t.length l,under l (yC t.length (entN t) a)=true):clN t im l=true:=by
 have up:∀ a∈l,∃ x∈maxOf t.length l,a &&& x=a:=fun a ha=>rQ hl _ a (Nat.le_refl _) ha
 refine iI hg (fun a ha b hb=>?_) (fun a ha=>?_)
 ·obtain ⟨x,hx,hax⟩:=up a ha
  obtain ⟨y,hy,hby⟩:=up b hb
  obtain ⟨c,hc,e⟩:=yI.1 (hp x hx y hy)
  exact yI.2 ⟨c,hc,rV (qM hax hby) e⟩
 ·obtain ⟨x,hx,hax⟩:=up a ha
  have hxl:=hl x (oH hl hx)
  obtain ⟨c,hc,e⟩:=yI.1 (ho x hx)
  exact yI.2 ⟨c,hc,rV (omegaSet_mono ht (iO hax hxl) hxl hax) e⟩
theorem sets_nat {n:Nat} (h:∀ k,k < zs.length→setB n (zs.getD k 0)=true):ints zs=nats (natL zs)∧∀ b∈natL zs,b < 2 ^ n:=by
 have key:∀ z∈zs,0≤z∧z < ((2 ^ n:Nat):Int):=fun z hz=>by
  obtain ⟨i,hi,rfl⟩:=List.getElem_of_mem hz
  have:=h i hi
  rw [zV hi] at this
  have e:((2 ^ n:Nat):Int)=(2:Int) ^ n:=by rw [Int.natCast_pow];rfl
  simp only [setB,decide_eq_true_eq] at this
  rw [e];exact this
 refine ⟨?_,fun b hb=>?_⟩
 ·simp only [ints,nats,natL,List.map_map]
  refine List.map_congr_left fun z hz=>?_
  have:=key z hz
  simp only [Function.comp]
  rw [Int.toNat_of_nonneg this.1]
 ·obtain ⟨z,hz,rfl⟩:=List.mem_map.1 hb
  have:=key z hz
  omega
end
set_option maxRecDepth 100000 in
set_option maxHeartbeats 1000000 in
theorem rcclosed_any (B:Nat) (w:World) (v iv sv:Value) (t:List (List Int)) (im zs:List Int) (hB:B≤w.heap.size) (h:Mat B w v t) (hi:Row B w iv (ints im)) (hs:Row B w sv (ints zs)) :
  Calls Tryd.prog 40 #[v,iv,sv] w fun e w'=>e=.returned (.bool (clB t im zs))∧w.grownBy w' none:=by
 have hzl:=hs.len_le
 rw [zM] at hzl
 unfold maxLen at hzl
 have HM:=Kh (may_any B w v iv t im h hi)
 have H:=Kh h;have HI:=Kh hi;have HS:=Kh hs
 obtain ⟨ta,tc,rfl⟩:=h.shape
 obtain ⟨ia,ic,rfl⟩:=hi.shape
 obtain ⟨sa,sc,rfl⟩:=hs.shape
 rw [zM] at HM HI HS ⊢
 rw [zM]
 clear h hi hs
 go_enter Tryd.func40,Tryd.ntmps40
 go_wp2_with fail
 refine HM.out.mono ?_
 rintro e w1 ⟨rfl,m,rfl⟩
 have HG1:=Kh (zJ w m none)
 by_cases hz:yO t im≠0
 ·have HD:=Kh (clB_check (zs:=zs) hz)
  obtain ⟨E,hE⟩:∃ E,E=yO t im:=⟨_,rfl⟩
  rw [← hE] at hz ⊢
  have e1:(E != 0)=true:=by rw [bne_iff_ne];exact hz
  clear hE hz
  go_wp2
  go_ret
  exact ⟨zT HD.out.symm,HG1.out⟩
 replace hz:yO t im=0:=by omega
 rw [hz]
 have hgd:=wV.1 hz
 have hle:=hgd.le
 have HZ:=Kh hz;have HGD:=Kh hgd;have HTB:=Kh (tb_of hgd.valid);have HSH:=Kh (uE hgd.valid).1;have HVA:=Kh hgd.valid
 have hwl:=hB
 clear hz hgd
 obtain ⟨wk,hwk⟩:∃ wk:World,wk=w.drewN m:=⟨_,rfl⟩
 rw [← hwk]
 have HK:=Kh ((H.out.kept (zJ w m none) (by simp)));have HIK:=Kh ((HI.out.kept (zJ w m none) (by simp)));have HSK:=Kh ((HS.out.kept (zJ w m none) (by simp)))
 rw [← hwk] at HK HIK HSK HG1
 have hwz:w.heap.size≤wk.heap.size:=HG1.out.size
 clear hwk
 go_wp2_with fail
 go_loopg [21] zs.length (fun gh i wr=>wk=wr∧∃ k:Nat,gh+k=zs.length∧i=.int .i64 (k:Int)∧Hid (∀ j,j < k→setB t.length (zs.getD j 0)=true))
 case atStart=>exact ⟨rfl,0,rfl,rfl,Kh (fun j hj=>absurd hj (by omega))⟩
 case round =>
  obtain ⟨rfl,k,hgh,rfl,HP⟩:=hrel
  have HGH:=Kh hgh
  clear hgh
  by_cases hk:k < zs.length
  ·have hk':(k:Int) < zs.length:=by omega
   obtain ⟨kb,off,cap,ek,hkB,hk1,hk2,hkr⟩:=HSK.out.some_ (by rw [zM];omega)
   rw [zM] at ek
   simp only [Value.slice.injEq] at ek
   obtain ⟨rfl,_,rfl⟩:=ek
   have hc:=hkr.int k hk
   obtain ⟨z,hz⟩:∃ z,z=zs.getD k 0:=⟨_,rfl⟩
   rw [← hz] at hc
   have HZK:=Kh hz
   clear hz hkr
   go_wp2_with fail
   refine (isSet_any _ ta t.length tc z hle).mono ?_
   rintro e wq ⟨rfl,rfl⟩
   cases hb:setB t.length z with
   | false =>
    have HD:Hid (clB t im zs=false):=Kh (clB_set hk (by rw [← HZK.out];exact hb))
    clear hb
    go_wp2
    go_ret
    exact ⟨zT HD.out.symm,HG1.out⟩
   | true =>
    have HP2:Hid (∀ j,j < k+1→setB t.length (zs.getD j 0)=true):=Kh (fun j hj=>by
     rcases Nat.lt_succ_iff_lt_or_eq.1 hj with hj|rfl
     ·exact HP.out j hj
     ·rw [← HZK.out];exact hb)
    clear hb
    go_wp2
    go_roundg (zs.length - (k+1))
    case measure=>have:=HGH.out;omega
    case rel=>exact ⟨rfl,k+1,by omega,by go_num,HP2⟩
  ·have HE:Hid (k=zs.length):=Kh (by have:=HGH.out;omega)
   have hk':¬ (k:Int) < zs.length:=by omega
   have hall:∀ j,j < zs.length→setB t.length (zs.getD j 0)=true:=by rw [← HE.out];exact HP.out
   obtain ⟨hnz,hlt⟩:=sets_nat hall
   have HCL:=Kh (iY HZ.out hall)
   obtain ⟨l,hl⟩:∃ l,l=natL zs:=⟨_,rfl⟩
   have hll:l.length=zs.length:=by rw [hl];simp [natL]
   rw [← hl] at hnz hlt HCL
   have HNI:Hid (ints zs=ints (intL l)):=Kh (by rw [hnz,oJ])
   rw [HNI.out] at HSK
   have HLT:=Kh hlt;have HLL:=Kh hll
   clear hnz hlt hl hll hall HP
   have HBG:=Kh (begin40_any B wk _ _ t im (by omega) HK.out HIK.out HGD.out)
   go_wp2_with fail
   refine HBG.out.mono ?_
   rintro e w2 ⟨ga,gc,rfl,hown,hg2⟩
   have HG2:=Kh (zF HG1.out hg2 (by simp))
   have HM2:=Kh (HK.out.kept hg2 (by simp));have HS2:=Kh (HSK.out.kept hg2 (by simp))
   have HR2:=Kh (Row.of_owns hown)
   have hgl:(genL t im).length=im.length+1:=qE t im
   have h6:=HGD.out.im6
   obtain ⟨gl,hglE⟩:∃ gl,gl=genL t im:=⟨_,rfl⟩
   rw [← hglE] at hgl HR2 ⊢
   have hgl7:gl.length≤7:=by omega
   have HGL:=Kh hglE
   have HWI:Hid (∀ x:Nat,x < 2 ^ t.length→Calls Tryd.prog 34 #[.slice sa zs.length sc,.int .i64 (x:Int)] w2 fun e w'=>e=.returned (.bool (under l x))∧w2=w'):=Kh (fun x hx=>by
    refine (within_any B w2 _ (intL l) x HS2.out).mono ?_
    rintro e w' ⟨rfl,rfl⟩
    refine ⟨?_,rfl⟩
    congr 2
    have hp:=uG hle
    unfold tG under intL
    rw [List.any_map,Bool.eq_iff_iff,List.any_eq_true,List.any_eq_true]
    refine exists_congr fun b=>and_congr_right fun hb=>?_
    have hbl:=HLT.out b hb
    simp only [Function.comp,beq_iff_eq,decide_eq_true_eq]
    rw [uQ b x (by omega) (by omega),Nat.and_comm]
    omega)
   clear hown hg2 hglE hgl HBG
   go_wp2_with fail
   go_loopg [34] gl.length (fun gh i wr=>w2=wr∧∃ k:Nat,gh+k=gl.length∧i=.int .i64 (k:Int)∧Hid (∀ j,j < k→under l (gl.getD j 0)=true))
   case atStart=>exact ⟨rfl,0,rfl,rfl,Kh (fun j hj=>absurd hj (by omega))⟩
   case round =>
    obtain ⟨rfl,k,hgh,rfl,HP⟩:=hrel
    have HGH2:=Kh hgh
    clear hgh
    by_cases hk:k < gl.length
    ·have hk':(k:Int) < gl.length:=by omega
     obtain ⟨kb,off,cap,ek,hkB,hk1,hk2,hkr⟩:=HR2.out.some_ (by rw [zN];omega)
     rw [zN] at ek
     simp only [Value.slice.injEq] at ek
     obtain ⟨rfl,_,rfl⟩:=ek
     have hc:=hkr.nat k hk
     obtain ⟨x,hx⟩:∃ x,x=gl.getD k 0:=⟨_,rfl⟩
     rw [← hx] at hc
     have hxm:x∈gl:=by rw [hx];exact wY hk
     have HXM:=Kh hxm;have HXK:=Kh hx
     have hxl:x < 2 ^ t.length:=qX HGD.out x (by rw [← HGL.out];exact hxm)
     clear hx hkr hxm
     go_wp2_with fail
     refine (HWI.out x hxl).mono ?_
     rintro e wq ⟨rfl,rfl⟩
     cases hb:under l x with
     | false =>
      have HD:Hid (clB t im zs=false):=Kh (by rw [HCL.out];exact clN_gen (by rw [← HGL.out];exact HXM.out) hb)
      clear hb hxl
      go_wp2
      go_ret
      exact ⟨zT HD.out.symm,HG2.out⟩
     | true =>
      have HP2:Hid (∀ j,j < k+1→under l (gl.getD j 0)=true):=Kh (fun j hj=>by
       rcases Nat.lt_succ_iff_lt_or_eq.1 hj with hj|rfl
       ·exact HP.out j hj
       ·rw [← HXK.out];exact hb)
      clear hb hxl
      go_wp2
      go_roundg (gl.length - (k+1))
      case measure=>have:=HGH2.out;omega
      case rel=>exact ⟨rfl,k+1,by omega,by go_num,HP2⟩
    ·have hk':¬ (k:Int) < gl.length:=by omega
     have HGA:Hid (∀ s∈genL t im,under l s=true):=Kh (fun s hs=>by
      rw [← HGL.out] at hs
      obtain ⟨i,hi,rfl⟩:=List.getElem_of_mem hs
      have:=HP.out i (by omega)
      rwa [zV hi] at this)
     clear HP
     go_wp2_with fail
     go_loopg [45] zs.length (fun gh i wr=>w2=wr∧∃ k:Nat,gh+k=zs.length∧i=.int .i64 (k:Int)∧Hid (∀ i,i < k→(∀ j,j < zs.length→under l (zP t.length (entN t) (l.getD i 0) (l.getD j 0))=true)∧under l (yC t.length (entN t) (l.getD i 0))=true))
     case atStart=>exact ⟨rfl,0,rfl,rfl,Kh (fun j hj=>absurd hj (by omega))⟩
     case round =>
      obtain ⟨rfl,k,hgh,rfl,HP⟩:=hrel
      have HGH3:=Kh hgh
      clear hgh
      by_cases hk:k < zs.length
      ·have hk':(k:Int) < zs.length:=by omega
       have hkl:k < l.length:=by rw [HLL.out];exact hk
       have hsn:=HS2.out
       rw [oJ] at hsn
       obtain ⟨kb,off,cap,ek,hkB,hk1,hk2,hkr⟩:=hsn.some_ (by rw [zN,HLL.out];omega)
       rw [zN,HLL.out] at ek
       simp only [Value.slice.injEq] at ek
       obtain ⟨rfl,_,rfl⟩:=ek
       have hc:=hkr.nat k hkl
       have HKR:=Kh hkr
       obtain ⟨a,ha⟩:∃ a,a=l.getD k 0:=⟨_,rfl⟩
       rw [← ha] at hc
       have ham:a∈l:=by rw [ha];exact wY hkl
       have hal:=HLT.out a ham
       have HAM:=Kh ham;have HAK:=Kh ha;have HAL:=Kh hal
       clear ha hkr hsn ham hal
       go_wp2_with fail
       go_loopg [51] zs.length (fun gh i wr=>w2=wr∧∃ j:Nat,gh+j=zs.length∧i=.int .i64 (j:Int)∧Hid (∀ i,i < j→under l (zP t.length (entN t) a (l.getD i 0))=true))
       case atStart=>exact ⟨rfl,0,rfl,rfl,Kh (fun j hj=>absurd hj (by omega))⟩
       case round =>
        obtain ⟨rfl,j,hgj,rfl,HQ⟩:=hrel
        have HGJ:=Kh hgj
        clear hgj
        by_cases hj:j < zs.length
        ·have hj':(j:Int) < zs.length:=by omega
         have hjl:j < l.length:=by rw [HLL.out];exact hj
         have hcj:=HKR.out.nat j hjl
         obtain ⟨b,hb⟩:∃ b,b=l.getD j 0:=⟨_,rfl⟩
         rw [← hb] at hcj
         have hbm:b∈l:=by rw [hb];exact wY hjl
         have HBL:=Kh (HLT.out b hbm);have HBM:=Kh hbm;have HBJ:=Kh hb
         have HPL:=Kh (xU HTB.out.lt a b)
         clear hb hbm
         go_wp2_with fail
         refine (nJ B w2 _ t a b HM2.out HSH.out hle HAL.out HBL.out).mono ?_
         rintro e wq ⟨rfl,rfl⟩
         obtain ⟨P,hP⟩:∃ P,P=zP t.length (entN t) a b:=⟨_,rfl⟩
         rw [← hP] at HPL ⊢
         have HPE:=Kh hP
         clear hP
         go_wp2_with fail
         refine (HWI.out P HPL.out).mono ?_
         rintro e wq ⟨rfl,rfl⟩
         cases hu:under l P with
         | false =>
          have HD:Hid (clB t im zs=false):=Kh (by rw [HCL.out];exact clN_prod HAM.out HBM.out (by rw [← HPE.out];exact hu))
          clear hu
          go_wp2
          go_ret
          exact ⟨zT HD.out.symm,HG2.out⟩
         | true =>
          have HQ2:Hid (∀ i,i < j+1→under l (zP t.length (entN t) a (l.getD i 0))=true):=Kh (fun i hi=>by
           rcases Nat.lt_succ_iff_lt_or_eq.1 hi with hi|rfl
           ·exact HQ.out i hi
           ·rw [← HBJ.out,← HPE.out];exact hu)
          clear hu
          go_wp2
          go_roundg (zs.length - (j+1))
          case measure=>have:=HGJ.out;omega
          case rel=>exact ⟨rfl,j+1,by omega,by go_num,HQ2⟩
        ·have hj':¬ (j:Int) < zs.length:=by omega
         have HQA:Hid (∀ i,i < zs.length→under l (zP t.length (entN t) a (l.getD i 0))=true):=Kh (fun i hi=>HQ.out i (by omega))
         have HOL:=Kh (vO HTB.out HAL.out)
         clear HQ
         go_wp2_with fail
         refine (omega40_any B w2 _ t a HM2.out HVA.out hle HAL.out).mono ?_
         rintro e wq ⟨rfl,rfl⟩
         obtain ⟨P,hP⟩:∃ P,P=yC t.length (entN t) a:=⟨_,rfl⟩
         rw [← hP] at HOL ⊢
         have HPE:=Kh hP
         clear hP
         go_wp2_with fail
         refine (HWI.out P HOL.out).mono ?_
         rintro e wq ⟨rfl,rfl⟩
         cases hu:under l P with
         | false =>
          have HD:Hid (clB t im zs=false):=Kh (by rw [HCL.out];exact clN_om HAM.out (by rw [← HPE.out];exact hu))
          clear hu
          go_wp2
          go_ret
          exact ⟨zT HD.out.symm,HG2.out⟩
         | true =>
          have HP2:Hid (∀ i,i < k+1→(∀ j,j < zs.length→under l (zP t.length (entN t) (l.getD i 0) (l.getD j 0))=true)∧under l (yC t.length (entN t) (l.getD i 0))=true):=Kh (fun i hi=>by
           rcases Nat.lt_succ_iff_lt_or_eq.1 hi with hi|rfl
           ·exact HP.out i hi
           ·rw [← HAK.out];exact ⟨HQA.out,by rw [← HPE.out];exact hu⟩)
          clear hu
          go_wp2
          go_roundg (zs.length - (k+1))
          case measure=>have:=HGH3.out;omega
          case rel=>exact ⟨rfl,k+1,by omega,by go_num,HP2⟩
      ·have hk':¬ (k:Int) < zs.length:=by omega
       have HD:Hid (clB t im zs=true):=Kh (by
        rw [HCL.out]
        have key:∀ a∈l,∃ i,i < zs.length∧l.getD i 0=a:=fun a ha=>by
         obtain ⟨i,hi,rfl⟩:=List.getElem_of_mem ha
         exact ⟨i,by rw [← HLL.out];exact hi,zV hi⟩
        refine iI HGA.out (fun a ha b hb=>?_) (fun a ha=>?_)
        ·obtain ⟨i,hi,rfl⟩:=key a ha
         obtain ⟨j,hj,rfl⟩:=key b hb
         exact (HP.out i (by omega)).1 j hj
        ·obtain ⟨i,hi,rfl⟩:=key a ha
         exact (HP.out i (by omega)).2)
       go_wp2
       go_ret
       exact ⟨zT HD.out.symm,HG2.out⟩
set_option maxRecDepth 100000 in
set_option maxHeartbeats 1000000 in
theorem pcclosed_any (B:Nat) (w:World) (v iv sv:Value) (t:List (List Int)) (im zs:List Int) (hB:B≤w.heap.size) (h:Mat B w v t) (hi:Row B w iv (ints im)) (hs:Row B w sv (ints zs)) (hT:TabOk w) :
  Calls Tryd.prog 39 #[v,iv,sv] w fun e w'=>e=.returned (.bool (clB t im zs))∧w.grownBy w' none:=by
 have hzl:=hs.len_le
 rw [zM] at hzl
 unfold maxLen at hzl
 have HCH:=Kh (mM B w v iv t im hB h hi)
 have H:=Kh h;have HI:=Kh hi;have HS:=Kh hs;have HT:=Kh hT
 obtain ⟨ta,tc,rfl⟩:=h.shape
 obtain ⟨ia,ic,rfl⟩:=hi.shape
 obtain ⟨sa,sc,rfl⟩:=hs.shape
 rw [zM] at HCH HI HS ⊢
 rw [zM]
 clear h hi hs hT
 go_enter Tryd.func39,Tryd.ntmps39
 go_wp2_with fail
 refine HCH.out.mono ?_
 rintro e wk ⟨rfl,hg1⟩
 have HG1:=Kh hg1
 clear hg1 HCH
 by_cases hz:yO t im≠0
 ·have HD:=Kh (clB_check (zs:=zs) hz)
  obtain ⟨E,hE⟩:∃ E,E=yO t im:=⟨_,rfl⟩
  rw [← hE] at hz ⊢
  have e1:(E != 0)=true:=by rw [bne_iff_ne];exact hz
  clear hE hz
  go_wp2
  go_ret
  exact ⟨zT HD.out.symm,HG1.out⟩
 replace hz:yO t im=0:=by omega
 rw [hz]
 have hgd:=wV.1 hz
 have hle:=hgd.le
 have HZ:=Kh hz;have HGD:=Kh hgd;have HTB:=Kh (tb_of hgd.valid);have HVA:=Kh hgd.valid
 clear hz hgd
 have HK:=Kh (H.out.kept HG1.out (by simp));have HIK:=Kh (HI.out.kept HG1.out (by simp));have HSK:=Kh (HS.out.kept HG1.out (by simp));have HTK:=Kh (HT.out.kept HG1.out (by simp))
 have hwz:w.heap.size≤wk.heap.size:=HG1.out.size
 go_wp2_with fail
 go_loopg [24] zs.length (fun gh i wr=>wk=wr∧∃ k:Nat,gh+k=zs.length∧i=.int .i64 (k:Int)∧Hid (∀ j,j < k→setB t.length (zs.getD j 0)=true))
 case atStart=>exact ⟨rfl,0,rfl,rfl,Kh (fun j hj=>absurd hj (by omega))⟩
 case round =>
  obtain ⟨rfl,k,hgh,rfl,HP⟩:=hrel
  have HGH:=Kh hgh
  clear hgh
  by_cases hk:k < zs.length
  ·have hk':(k:Int) < zs.length:=by omega
   obtain ⟨kb,off,cap,ek,hkB,hk1,hk2,hkr⟩:=HSK.out.some_ (by rw [zM];omega)
   rw [zM] at ek
   simp only [Value.slice.injEq] at ek
   obtain ⟨rfl,_,rfl⟩:=ek
   have hc:=hkr.int k hk
   obtain ⟨z,hz⟩:∃ z,z=zs.getD k 0:=⟨_,rfl⟩
   rw [← hz] at hc
   have HZK:=Kh hz
   clear hz hkr
   go_wp2_with fail
   refine (rH _ ta t.length tc z hle).mono ?_
   rintro e wq ⟨rfl,rfl⟩
   cases hb:setB t.length z with
   | false =>
    have HD:Hid (clB t im zs=false):=Kh (clB_set hk (by rw [← HZK.out];exact hb))
    clear hb
    go_wp2
    go_ret
    exact ⟨zT HD.out.symm,HG1.out⟩
   | true =>
    have HP2:Hid (∀ j,j < k+1→setB t.length (zs.getD j 0)=true):=Kh (fun j hj=>by
     rcases Nat.lt_succ_iff_lt_or_eq.1 hj with hj|rfl
     ·exact HP.out j hj
     ·rw [← HZK.out];exact hb)
    clear hb
    go_wp2
    go_roundg (zs.length - (k+1))
    case measure=>have:=HGH.out;omega
    case rel=>exact ⟨rfl,k+1,by omega,by go_num,HP2⟩
  ·have HE:Hid (k=zs.length):=Kh (by have:=HGH.out;omega)
   have hk':¬ (k:Int) < zs.length:=by omega
   have hall:∀ j,j < zs.length→setB t.length (zs.getD j 0)=true:=by rw [← HE.out];exact HP.out
   obtain ⟨hnz,hlt⟩:=sets_nat hall
   have HCL:=Kh (iY HZ.out hall)
   obtain ⟨l,hl⟩:∃ l,l=natL zs:=⟨_,rfl⟩
   have hll:l.length=zs.length:=by rw [hl];simp [natL]
   rw [← hl] at hnz hlt HCL
   have HNI:Hid (ints zs=ints (intL l)):=Kh (by rw [hnz,oJ])
   rw [HNI.out] at HSK
   have HLT:=Kh hlt;have HLL:=Kh hll
   clear hnz hlt hl hll hall HP
   have hlz:l.length≤9223372036854775807:=by have:=HLL.out;omega
   have HN:=Kh (tY B wk _ t (by omega) HK.out HVA.out hle HTK.out)
   go_wp2_with fail
   refine HN.out.mono ?_
   rintro e w2 ⟨p,go,rfl,hs2,hg2⟩
   have hgo:=hs2.go_lt'
   have HS2:=Kh hs2;have HG2:=Kh (zF HG1.out hg2 (by simp))
   have hfc:=hg2.size
   have HM2:=Kh (HK.out.kept hg2 (by simp));have HR2:=Kh (HSK.out.kept hg2 (by simp));have HI2:=Kh (HIK.out.kept hg2 (by simp));have HT2:=Kh (HTK.out.kept hg2 (by simp))
   rw [oJ] at HR2
   have HIS:=Kh (inside_any wk.heap.size w2.heap.size w2 p go t.length (entN t) _ B l hs2 hle HR2.out HLT.out (by omega))
   obtain ⟨N,hN⟩:∃ N,N=2 ^ t.length:=⟨_,rfl⟩
   have hN4:N≤4096:=by have:=uG hle;omega
   rw [← hN] at HIS
   have HNN:=Kh hN
   clear hs2 hg2 HN hN
   go_wp2_with fail
   refine HIS.out.mono ?_
   rintro e w3 ⟨rfl,harr,hg3⟩
   obtain ⟨ib,hib⟩:∃ ib,ib=w2.heap.size:=⟨_,rfl⟩
   rw [← hib] at harr ⊢
   have HA3:=Kh harr;have HG3:=Kh (zF HG2.out hg3 (by simp));have HS3:=Kh (HS2.out.kept hg3 (by simp));have HT3:=Kh (HT2.out.kept hg3 (by simp));have HR3:=Kh (HR2.out.kept hg3 (by simp))
   have hgoi:go < ib:=by omega
   have hcib:w2.heap.size≤ib:=by omega
   have HBG:=Kh (sJ B w3 _ _ t im (by have:=hg3.size;omega) (HM2.out.kept hg3 (by simp)) (HI2.out.kept hg3 (by simp)) HGD.out)
   have hz3:=hg3.size
   clear harr hg3 hib HIS
   go_wp2_with fail
   refine HBG.out.mono ?_
   rintro e w4 ⟨ga,gc,rfl,hown,hg4⟩
   have HG4:=Kh (zF HG3.out hg4 (by simp));have HS4:=Kh (HS3.out.kept hg4 (by simp));have HT4:=Kh (HT3.out.kept hg4 (by simp));have HR4:=Kh (HR3.out.kept hg4 (by simp));have HA4:=Kh (HA3.out.kept hg4 (by simp))
   have HGR:=Kh (Row.of_owns hown)
   have hz4:=hg4.size
   have hgl:(genL t im).length=im.length+1:=qE t im
   have h6:=HGD.out.im6
   obtain ⟨gl,hglE⟩:∃ gl,gl=genL t im:=⟨_,rfl⟩
   rw [← hglE] at hgl HGR ⊢
   have hgl7:gl.length≤7:=by omega
   have hgl1:1≤gl.length:=by omega
   have HGL:=Kh hglE
   clear hown hg4 hglE hgl HBG
   go_wp2_with fail
   go_loopg [42] gl.length (fun gh i wr=>w4=wr∧∃ k:Nat,gh+k=gl.length∧i=.int .i64 (k:Int)∧Hid (∀ j,j < k→under l (gl.getD j 0)=true))
   case atStart=>exact ⟨rfl,0,rfl,rfl,Kh (fun j hj=>absurd hj (by omega))⟩
   case round =>
    obtain ⟨rfl,k,hgh,rfl,HP⟩:=hrel
    have HGH2:=Kh hgh
    clear hgh
    by_cases hk:k < gl.length
    ·have hk':(k:Int) < gl.length:=by omega
     obtain ⟨kb,off,cap,ek,hkB,hk1,hk2,hkr⟩:=HGR.out.some_ (by rw [zN];omega)
     rw [zN] at ek
     simp only [Value.slice.injEq] at ek
     obtain ⟨rfl,_,rfl⟩:=ek
     have hc:=hkr.nat k hk
     obtain ⟨x,hx⟩:∃ x,x=gl.getD k 0:=⟨_,rfl⟩
     rw [← hx] at hc
     have hxm:x∈gl:=by rw [hx];exact wY hk
     have HXM:=Kh hxm;have HXK:=Kh hx
     have hxl:x < N:=by rw [HNN.out];exact qX HGD.out x (by rw [← HGL.out];exact hxm)
     have hxl':(x:Int) < N:=by omega
     have hca:=HA4.out.bool x (by rw [uO];exact hxl)
     rw [sQ hxl] at hca
     clear hx hkr hxm
     cases hb:under l x with
     | false =>
      rw [hb] at hca
      have HD:Hid (clB t im zs=false):=Kh (by rw [HCL.out];exact clN_gen (by rw [← HGL.out];exact HXM.out) hb)
      clear hb
      go_wp2
      go_ret
      exact ⟨zT HD.out.symm,HG4.out⟩
     | true =>
      rw [hb] at hca
      have HP2:Hid (∀ j,j < k+1→under l (gl.getD j 0)=true):=Kh (fun j hj=>by
       rcases Nat.lt_succ_iff_lt_or_eq.1 hj with hj|rfl
       ·exact HP.out j hj
       ·rw [← HXK.out];exact hb)
      clear hb
      go_wp2
      go_roundg (gl.length - (k+1))
      case measure=>have:=HGH2.out;omega
      case rel=>exact ⟨rfl,k+1,by omega,by go_num,HP2⟩
    ·have hk':¬ (k:Int) < gl.length:=by omega
     have HGA:Hid (∀ s∈genL t im,under l s=true):=Kh (fun s hs=>by
      rw [← HGL.out] at hs
      obtain ⟨i,hi,rfl⟩:=List.getElem_of_mem hs
      have:=HP.out i (by omega)
      rwa [zV hi] at this)
     have HMX:=Kh (pN wk.heap.size w2.heap.size w4 p go t.length (entN t) _ B l HS4.out hle HR4.out HLT.out (by omega))
     clear HP
     go_wp2_with fail
     refine HMX.out.mono ?_
     rintro e wm ⟨ma,mc,rfl,hown,hgm⟩
     have hmpos:0 < (maxOf t.length l).length:=by
      have h0:gl.getD 0 0∈genL t im:=by rw [← HGL.out];exact wY hgl1
      obtain ⟨b,hb,_⟩:=yI.1 (HGA.out _ h0)
      obtain ⟨c,hc,_⟩:=rQ HLT.out _ b (Nat.le_refl _) hb
      exact List.length_pos_of_mem hc
     have hml:(maxOf t.length l).length≤N:=by rw [HNN.out];exact jJ _ _
     have HMI:Hid (∀ a∈maxOf t.length l,a∈l):=Kh (fun a ha=>oH HLT.out ha)
     obtain ⟨M,hM⟩:∃ M,M=maxOf t.length l:=⟨_,rfl⟩
     rw [← hM] at hown hmpos hml HMI ⊢
     have HMM:=Kh hM
     obtain ⟨mk,rfl,hm1,hm2,hma⟩:=yQ hown hmpos
     have hmk:=(hown.lt mk rfl).1
     have hcm:mc≤9223372036854775807:=by unfold maxLen at hm2;omega
     have HGM:=Kh (zF HG4.out hgm (by simp));have HSM:=Kh (HS4.out.kept hgm (by simp));have HTM:=Kh (HT4.out.kept hgm (by simp));have HAM:=Kh (HA4.out.kept hgm (by simp));have HMA:=Kh hma
     have hzm:=hgm.size
     have hgomk:go≠mk:=by omega
     have hgoib:go≠ib:=by omega
     have hwgo:w.heap.size≤go:=by omega
     have htgo:=HT.out.1
     clear hown hgm hma hM hm2 HMX
     go_wp2_with fail
     go_loopg [57] M.length (fun gh i wr=>∃ k:Nat,gh+k=M.length∧i=.int .i64 (k:Int)∧Hid (wH wk.heap.size w2.heap.size wr p go t.length (entN t))∧Hid (wm.grownBy wr (some go))∧Hid (∀ i,i < k→(∀ j,j < M.length→under l (zP t.length (entN t) (M.getD i 0) (M.getD j 0))=true)∧under l (yC t.length (entN t) (M.getD i 0))=true))
     case atStart=>exact ⟨0,rfl,rfl,HSM,Kh (zX _ _),Kh (fun j hj=>absurd hj (by omega))⟩
     case round =>
      clear HSM
      obtain ⟨k,hgh,rfl,HSR,HGR2,HP⟩:=hrel
      have HGH3:=Kh hgh
      clear hgh
      have HGW:=Kh (zF HGM.out HGR2.out (fun q e=>by have e:go=q:=Oj e;omega))
      by_cases hk:k < M.length
      ·have hk':(k:Int) < M.length:=by omega
       have hc:=(HMA.out.kept HGR2.out (fun e=>hgomk (Oj e))).nat k hk
       obtain ⟨a,ha⟩:∃ a,a=M.getD k 0:=⟨_,rfl⟩
       rw [← ha] at hc
       have ham:a∈M:=by rw [ha];exact wY hk
       have HAM2:=Kh (HMI.out a ham);have HAK:=Kh ha;have HAL:=Kh (HLT.out a (HMI.out a ham))
       clear ha ham
       obtain ⟨wz,rfl⟩:∃ wz:World,wz=wr:=⟨_,rfl⟩
       go_wp2_with fail
       clear hc
       go_loopg [63] M.length (fun gh i wr=>∃ j:Nat,gh+j=M.length∧i=.int .i64 (j:Int)∧Hid (wH wk.heap.size w2.heap.size wr p go t.length (entN t))∧Hid (wm.grownBy wr (some go))∧Hid (∀ i,i < j→under l (zP t.length (entN t) a (M.getD i 0))=true))
       case atStart=>exact ⟨0,rfl,rfl,HSR,HGR2,Kh (fun j hj=>absurd hj (by omega))⟩
       case round =>
        clear HSR HGR2 HGW
        obtain ⟨j,hgj,rfl,HSR,HGR2,HQ⟩:=hrel
        have HGJ:=Kh hgj
        clear hgj
        have HGW:=Kh (zF HGM.out HGR2.out (fun q e=>by have e:go=q:=Oj e;omega))
        have HTR:=Kh (HT.out.kept HGW.out (by simp))
        by_cases hj:j < M.length
        ·have hj':(j:Int) < M.length:=by omega
         have hcj:=(HMA.out.kept HGR2.out (fun e=>hgomk (Oj e))).nat j hj
         obtain ⟨b,hb⟩:∃ b,b=M.getD j 0:=⟨_,rfl⟩
         rw [← hb] at hcj
         have hbm:b∈M:=by rw [hb];exact wY hj
         have HBL:=Kh (HLT.out b (HMI.out b hbm));have HBM:=Kh (HMI.out b hbm);have HBJ:=Kh hb
         clear hb hbm
         go_wp2_with fail
         refine (tW wk.heap.size w2.heap.size wr p go t.length (entN t) a b HSR.out HTB.out.lt hle HAL.out HBL.out HTR.out).mono ?_
         rintro e wq ⟨rfl,mq,rfl⟩
         obtain ⟨P,hP⟩:∃ P,P=zP t.length (entN t) a b:=⟨_,rfl⟩
         have hPN:P < N:=by rw [hP,HNN.out];exact xU HTB.out.lt a b
         have hPN':(P:Int) < N:=by omega
         rw [← hP]
         have HPE:=Kh hP
         clear hP
         have hgq:=zJ wr mq none
         have hca:=((HAM.out.kept HGR2.out (fun e=>hgoib (Oj e))).kept hgq (by simp)).bool P (by rw [uO];exact hPN)
         rw [sQ hPN] at hca
         have HSQ:=Kh (HSR.out.kept hgq (by simp));have HGQ:=Kh (zG HGR2.out (zJ wr mq (some go)));have HGWQ:=Kh (zF HGW.out hgq (by simp))
         clear hgq hcj
         cases hu:under l P with
         | false =>
          rw [hu] at hca
          have HD:Hid (clB t im zs=false):=Kh (by rw [HCL.out];exact clN_prod HAM2.out HBM.out (by rw [← HPE.out];exact hu))
          clear hu
          go_wp2
          go_ret
          exact ⟨zT HD.out.symm,HGWQ.out⟩
         | true =>
          rw [hu] at hca
          have HQ2:Hid (∀ i,i < j+1→under l (zP t.length (entN t) a (M.getD i 0))=true):=Kh (fun i hi=>by
           rcases Nat.lt_succ_iff_lt_or_eq.1 hi with hi|rfl
           ·exact HQ.out i hi
           ·rw [← HBJ.out,← HPE.out];exact hu)
          clear hu
          go_wp2
          go_roundg (M.length - (j+1))
          case measure=>have:=HGJ.out;omega
          case rel=>exact ⟨j+1,by omega,by go_num,HSQ,HGQ,HQ2⟩
        ·have hj':¬ (j:Int) < M.length:=by omega
         have HQA:Hid (∀ i,i < M.length→under l (zP t.length (entN t) a (M.getD i 0))=true):=Kh (fun i hi=>HQ.out i (by omega))
         clear HQ
         go_wp2_with fail
         refine (oD wk.heap.size w2.heap.size wr p go t.length (entN t) a HSR.out HTB.out hle HAL.out HTR.out).mono ?_
         rintro e wq ⟨rfl,hsq,hgq⟩
         obtain ⟨P,hP⟩:∃ P,P=yC t.length (entN t) a:=⟨_,rfl⟩
         have hPN:P < N:=by rw [hP,HNN.out];exact vO HTB.out HAL.out
         have hPN':(P:Int) < N:=by omega
         rw [← hP]
         have HPE:=Kh hP
         have HGQ:=Kh (zG HGR2.out hgq)
         have hca:=(HAM.out.kept HGQ.out (fun e=>hgoib (Oj e))).bool P (by rw [uO];exact hPN)
         rw [sQ hPN] at hca
         have HSQ:=Kh hsq;have HGWQ:=Kh (zF HGW.out hgq (fun q e=>by have e:go=q:=Oj e;omega))
         clear hsq hgq hP
         cases hu:under l P with
         | false =>
          rw [hu] at hca
          have HD:Hid (clB t im zs=false):=Kh (by rw [HCL.out];exact clN_om HAM2.out (by rw [← HPE.out];exact hu))
          clear hu
          go_wp2
          go_ret
          exact ⟨zT HD.out.symm,HGWQ.out⟩
         | true =>
          rw [hu] at hca
          have HP2:Hid (∀ i,i < k+1→(∀ j,j < M.length→under l (zP t.length (entN t) (M.getD i 0) (M.getD j 0))=true)∧under l (yC t.length (entN t) (M.getD i 0))=true):=Kh (fun i hi=>by
           rcases Nat.lt_succ_iff_lt_or_eq.1 hi with hi|rfl
           ·exact HP.out i hi
           ·rw [← HAK.out];exact ⟨HQA.out,by rw [← HPE.out];exact hu⟩)
          clear hu
          go_wp2
          go_roundg (M.length - (k+1))
          case measure=>have:=HGH3.out;omega
          case rel=>exact ⟨k+1,by omega,by go_num,HSQ,HGQ,HP2⟩
      ·have hk':¬ (k:Int) < M.length:=by omega
       have HD:Hid (clB t im zs=true):=Kh (by
        rw [HCL.out]
        have key:∀ a∈M,∃ i,i < M.length∧M.getD i 0=a:=fun a ha=>by
         obtain ⟨i,hi,rfl⟩:=List.getElem_of_mem ha
         exact ⟨i,hi,zV hi⟩
        refine clN_max HTB.out HLT.out HGA.out (fun a ha b hb=>?_) (fun a ha=>?_)
        ·rw [← HMM.out] at ha hb
         obtain ⟨i,hi,rfl⟩:=key a ha
         obtain ⟨j,hj,rfl⟩:=key b hb
         exact (HP.out i (by omega)).1 j hj
        ·rw [← HMM.out] at ha
         obtain ⟨i,hi,rfl⟩:=key a ha
         exact (HP.out i (by omega)).2)
       go_wp2
       go_ret
       exact ⟨zT HD.out.symm,HGW.out⟩
end Go.Proofs.YtdjhoadoiknaoaaDoor
namespace Go.Proofs.YtdjhoadoiknaoaaDoor
structure StillG (P:Program) (ops:Array Oper) (w:World) (Q:Act→Prop) (l:List Oper) (a:Act):Prop where
 h:wpStill P ops w Q l a
section
variable {P:Program} {ops:Array Oper} {w:World} {Q:Act→Prop} {a:Act} {o:Oper} {rest:List Oper}
theorem g_nil (h:Q a):StillG P ops w Q [] a:=⟨wpStill_nil h⟩
theorem g_yes (hw:Region.wanted o (yielded ops a.tmps)=true) (h:∀ K:Act→Prop,(∀ a,StillG P ops w Q rest a→K a)→o.still P a w K):StillG P ops w Q (o :: rest) a:=by
 refine ⟨?_⟩
 rw [wpStill,if_pos hw]
 exact h _ (fun _ h=>h.h)
theorem g_no (hw:Region.wanted o (yielded ops a.tmps)=false) (h:StillG P ops w Q rest (a.put o.dst undef)):StillG P ops w Q (o :: rest) a:=by
 refine ⟨?_⟩
 rw [wpStill,if_neg (by rw [hw];simp)]
 exact h.h
theorem g_un (hg:o.guard=none) (h:∀ K:Act→Prop,(∀ a,StillG P ops w Q rest a→K a)→o.still P a w K):StillG P ops w Q (o :: rest) a :=
 g_yes (by simp [Region.wanted,hg]) h
end
end Go.Proofs.YtdjhoadoiknaoaaDoor
namespace Go.Proofs.YtdjhoadoiknaoaaDoor
open Go.RowKit
set_option maxRecDepth 100000 in
set_option maxHeartbeats 4000000 in
theorem rcheckD_any (B:Nat) (w:World) (v iv sv:Value) (t:List (List Int)) (im:List Int) (ss:List StepV) (hB:B≤w.heap.size) (h:Mat B w v t) (hi:Row B w iv (ints im)) (hs:SRow B w sv ss) (hw:∀ i,i < ss.length→(ss.getD i default).word.size≤maxLen) :
  Calls Tryd.prog 38 #[v,iv,sv] w fun e w'=>e=.returned (.bool (derB t im ss))∧w.grownBy w' none:=by
 have hsl:=hs.len_le
 unfold maxLen at hsl
 have HCH:=Kh (may_any B w v iv t im h hi)
 have H:=Kh h;have HI:=Kh hi;have HS:=Kh hs;have HW:=Kh hw
 obtain ⟨ta,tc,rfl⟩:=h.shape
 obtain ⟨ia,ic,rfl⟩:=hi.shape
 obtain ⟨sa,sc,rfl⟩:=hs.shape
 rw [zM] at HCH HI ⊢
 clear h hi hs hw
 go_enter Tryd.func38,Tryd.ntmps38
 go_wp2_with fail
 refine HCH.out.mono ?_
 rintro e w1' ⟨rfl,mq,rfl⟩
 obtain ⟨w1,hw1⟩:∃ W,W=w.drewN mq:=⟨_,rfl⟩
 have HG1:Hid (w.grownBy w1 none):=Kh (by rw [hw1];exact zJ w mq none)
 rw [← hw1]
 clear HCH hw1
 by_cases hz:yO t im≠0
 ·have HD:=Kh (derB_check (ss:=ss) hz)
  obtain ⟨E,hE⟩:∃ E,E=yO t im:=⟨_,rfl⟩
  rw [← hE] at hz ⊢
  have e1:(E != 0)=true:=by rw [bne_iff_ne];exact hz
  clear hE hz
  go_wp2
  go_ret
  exact ⟨zT HD.out.symm,HG1.out⟩
 replace hz:yO t im=0:=by omega
 rw [hz]
 by_cases hl:ss.length=0
 ·have HD:=Kh (derB_nil (t:=t) (im:=im) hl)
  have e1:((ss.length:Int) == 0)=true:=by rw [hl];rfl
  clear hz
  go_wp2
  go_ret
  exact ⟨zT HD.out.symm,HG1.out⟩
 have hgd:=wV.1 hz
 have e1:((ss.length:Int) == 0)=false:=by rw [beq_eq_false_iff_ne];omega
 have hle:=hgd.le
 have h6:=hgd.im6
 have him0:=hgd.im0
 have hva:=hgd.valid
 have HZ:=Kh hz;have HGD:=Kh hgd;have HVA:=Kh hva;have HTB:=Kh (tb_of hva);have HSH:=Kh (uE hva).1
 obtain ⟨gb,go_,gcap,ge,hgB,hgc,hgm,hso⟩:=HS.out.some_ (by omega)
 simp only [Value.slice.injEq] at ge
 obtain ⟨rfl,_,rfl⟩:=ge
 have HSO:=Kh hso
 have hgm':sc≤9223372036854775807:=by unfold maxLen at hgm;omega
 have hz12:=HG1.out.size
 clear hz hgd hva hso hgm
 go_wp2_with fail
 go_loopg [22] ss.length (fun gh i wr=>∃ (k:Nat),gh+k=ss.length∧i=.int .i64 (k:Int)∧Hid (tU t im ss k)∧w.grownBy wr none)
 case atStart=>exact ⟨0,rfl,rfl,Kh (fun i hi=>absurd hi (by omega)),HG1.out⟩
 case round =>
  obtain ⟨k,hgh,rfl,hst,hgr⟩:=hrel
  have HGH:=Kh hgh;have HGR:=Kh hgr
  clear hgh hgr
  by_cases hk:¬ k < ss.length
  ·have HD:=Kh (lW HZ.out (by omega) (fun i hi=>hst.out i (by have:=HGH.out;omega)))
   go_wp2
   go_ret
   exact ⟨zT HD.out.symm,HGR.out⟩
  replace hk:k < ss.length:=by omega
  have hk':(k:Int) < ss.length:=by omega
  have hso:=HSO.out.kept HGR.out (by simp)
  have c0:=hso.op k hk
  have c1:=hso.a k hk
  have c2:=hso.b k hk
  have c3:=hso.word k hk
  have c4:=hso.set k hk
  obtain ⟨st,hst0⟩:∃ st,st=ss.getD k default:=⟨_,rfl⟩
  rw [← hst0] at c0 c1 c2 c3 c4
  have HST:=Kh hst0
  have HWZ:Hid (st.word.size≤maxLen):=Kh (by rw [hst0];exact HW.out k hk)
  clear hst0 hso
  obtain ⟨wb,hwb⟩:∃ W,W=wr.alloc (.cells #[.int .i64 st.op,.int .i64 st.a,.int .i64 st.b,.string st.word,.int .i64 st.set] 60):=⟨_,rfl⟩
  have hgb:wr.grownBy wb none:=by rw [hwb];exact Ga wr _ none
  have hbb:=heap_alloc_new wr (.cells #[.int .i64 st.op,.int .i64 st.a,.int .i64 st.b,.string st.word,.int .i64 st.set] 60)
  rw [← hwb] at hbb
  obtain ⟨o,ho⟩:∃ o,o=wr.heap.size:=⟨_,rfl⟩
  rw [← ho] at hbb
  have HWB:=Kh hwb;have HO:=Kh ho;have HBB:=Kh hbb
  have HGB:=Kh (zF HGR.out hgb (by simp))
  clear hwb hgb hbb ho
  go_upto_region 6 with fail
  rw [← HWB.out,← HO.out]
  clear c0 c1 c2 c3 c4
  obtain ⟨b0,b1,b2,b3,b4⟩:=wG HBB.out
  by_cases hp1:st.op=1
  ·have q1:(st.op == 1)=true:=by rw [hp1];rfl
   have HB:=Kh (pD (t:=t) (im:=im) HST.out hp1)
   clear hp1
   by_cases ha:st.a≠0
   ·have qa:(st.a != 0)=true:=by rw [bne_iff_ne];exact ha
    have HD:Hid (derB t im ss=false):=Kh (xS hk (by rw [HB.out];simp [ha]))
    go_wp2
    go_ret
    exact ⟨zT HD.out.symm,HGB.out⟩
   replace ha:st.a=0:=by omega
   have qa:(st.a != 0)=false:=by rw [ha];rfl
   by_cases hb:st.b≠0
   ·have qb:(st.b != 0)=true:=by rw [bne_iff_ne];exact hb
    have HD:Hid (derB t im ss=false):=Kh (xS hk (by rw [HB.out];simp [hb]))
    clear ha
    go_wp2
    go_ret
    exact ⟨zT HD.out.symm,HGB.out⟩
   replace hb:st.b=0:=by omega
   have qb:(st.b != 0)=false:=by rw [hb];rfl
   have HAB:Hid (st.a=0∧st.b=0):=Kh ⟨ha,hb⟩
   clear ha hb
   go_wp2_with fail
   refine (valid01_any st.word im.length wb HWZ.out).mono ?_
   rintro e wq ⟨rfl,rfl⟩
   by_cases hv:yH st.word im.length=false
   ·have HD:Hid (derB t im ss=false):=Kh (xS hk (by rw [HB.out,hv];simp))
    rw [hv]
    clear hv
    go_wp2
    go_ret
    exact ⟨zT HD.out.symm,HGB.out⟩
   replace hv:yH st.word im.length=true:=by simpa using hv
   rw [hv]
   have HV:=Kh hv
   clear hv qa qb
   have HMB:=Kh (H.out.kept HGB.out (by simp))
   go_wp2_with fail
   refine (qW B wb _ t HMB.out HSH.out).mono ?_
   rintro e wq ⟨rfl,rfl⟩
   rw [(oC HGD.out).2]
   obtain ⟨mb,moff,mcap,RB,RO,RC,meq,hc1,hc2,hq⟩:=HMB.out.sq HSH.out
   simp only [Value.slice.injEq] at meq
   obtain ⟨rfl,_,rfl⟩:=meq
   obtain ⟨ib,io,icp,ieq,_,hi1,hi2,hra⟩:=(HI.out.kept HGB.out (by simp)).some_ (by rw [zM];exact him0)
   rw [zM] at ieq hi1
   simp only [Value.slice.injEq] at ieq
   obtain ⟨rfl,_,rfl⟩:=ieq
   have hmx:tc≤9223372036854775807:=by unfold maxLen at hc2;omega
   have hmi:ic≤9223372036854775807:=by unfold maxLen at hi2;omega
   have hz20:st.word.size≤2048:=by
    have:=HV.out
    simp only [yH,Bool.and_eq_true,decide_eq_true_eq] at this;omega
   have HQ:=Kh hq;have HRA:=Kh hra
   have h1l:=(oC HGD.out).1
   clear hq hra hc2 hi2
   go_wp2_with fail
   go_loopg [9,10] st.word.size (fun gj v9 i wr=>∃ (j m x:Nat),gj+j=st.word.size∧i=.int .i64 (j:Int)∧v9=.int .i64 (x:Int)∧x < t.length∧Hid (x=walkV t im (oneN t) (st.word.data.toList.take j))∧wr=wb.drewN m)
   case atStart=>exact ⟨0,0,oneN t,rfl,rfl,rfl,h1l,Kh rfl,rfl⟩
   case round =>
    obtain ⟨j,m,x,hgj,rfl,rfl,hxl,hxe,rfl⟩:=hrel
    have HGJ:=Kh hgj;clear hgj
    by_cases hj:j < st.word.size
    ·have hj':(j:Int) < st.word.size:=by omega
     have hb:=byte_ok HV.out j hj
     obtain ⟨c,hc⟩:∃ c,c=st.word[j].toNat:=⟨_,rfl⟩
     have h1:=rE.1 HGD.out.inb (c - 97) (by omega)
     obtain ⟨y,hy⟩:∃ y:Nat,(y:Int)=im.getD (c - 97) 0:=⟨(im.getD (c - 97) 0).toNat,by omega⟩
     have ci:=HRA.out.int (c - 97) (by omega)
     rw [← hy] at ci h1
     have hyl:y < t.length:=by omega
     have d0:=HQ.out.hd x hxl
     have d1:=HQ.out.el x y hxl hyl
     have hrc:=HQ.out.cap x hxl
     have hrcm:RC x≤9223372036854775807:=by have:=hrc.2;unfold maxLen at this;omega
     obtain ⟨z,hz0⟩:∃ z,z=entN t x y:=⟨_,rfl⟩
     have hzl:z < t.length:=by rw [hz0];exact uD HSH.out hxl hyl
     rw [← hz0] at d1
     have HZ2:Hid (z=walkV t im (oneN t) (st.word.data.toList.take (j+1))):=Kh (by
      rw [byteV_at st.word j hj,walkV_snoc,← hxe.out,← hc,← hy];exact hz0)
     rw [← hc] at hb
     have hcw:IntKind.u8.wrap ((st.word[j].toNat:Int) - 97)=((c - 97:Nat):Int):=by
      rw [← hc];unfold IntKind.wrap;simp [IntKind.signed,IntKind.bits];omega
     obtain ⟨y0,hy0⟩:∃ y0,y0=c - 97:=⟨_,rfl⟩
     have hy6:y0 < im.length:=by omega
     have hy6':(y0:Int) < im.length:=by omega
     rw [← hy0] at hcw ci
     have hxl':(x:Int) < t.length:=by omega
     have hyl':(y:Int) < t.length:=by omega
     clear hz0 hy hb h1 hy0 hc
     go_wp2
     go_quiet (fail)
     go_wp2
     go_roundg (st.word.size - (j+1))
     case measure=>have:=HGJ.out;omega
     case rel=>exact ⟨j+1,_,z,by omega,by go_num,rfl,hzl,HZ2,rfl⟩
    ·have hj':¬ (j:Int) < st.word.size:=by omega
     have hjn:st.word.data.toList.take j=st.word.data.toList:=List.take_of_length_le (by simp;omega)
     have HXE:Hid (x=walkV t im (oneN t) st.word.data.toList):=Kh (by rw [← hjn];exact hxe.out)
     clear hxe hjn
     have hx12:(x:Int)≤12:=by omega
     have hsh:=rW (m:=x) (by omega)
     have hsh':=pX (m:=x) (by omega)
     obtain ⟨X,hX⟩:∃ X,X=2 ^ x:=⟨_,rfl⟩
     rw [← hX] at hsh hsh'
     have HX:Hid (X=2 ^ walkV t im (oneN t) st.word.data.toList):=Kh (by rw [hX,HXE.out])
     clear hX
     by_cases hsx:st.set=(X:Int)
     ·have qs:(st.set != (X:Int))=false:=by rw [hsx];simp
      have HBT:Hid (stepB t im ss k=true):=Kh (by rw [HB.out,HAB.out.1,HAB.out.2,HV.out,← HX.out,decide_eq_true hsx];rfl)
      clear hsx
      go_wp2
      go_roundg (ss.length - (k+1))
      case measure=>have:=HGH.out;omega
      case rel=>exact ⟨k+1,by have:=HGH.out;omega,by go_num,Kh (uZ hst.out HBT.out),zF HGB.out (zJ wb _ none) (by simp)⟩
     ·have qs:(st.set != (X:Int))=true:=by rw [bne_iff_ne];exact hsx
      have HD:Hid (derB t im ss=false):=Kh (xS hk (by rw [HB.out,← HX.out,decide_eq_false hsx];simp))
      clear hsx
      go_wp2
      go_ret
      exact ⟨zT HD.out.symm,zF HGB.out (zJ wb _ none) (by simp)⟩
  by_cases hp2:st.op=2
  ·have q1:(st.op == 1)=false:=by rw [hp2];rfl
   have q2:(st.op == 2)=true:=by rw [hp2];rfl
   have HB:=Kh (rL (t:=t) (im:=im) HST.out hp2)
   have HBEF:Hid (∀ x:Int,(0≤x∧x < (k:Int)) ↔ befB x k=true):=Kh (fun x=>xT.symm)
   clear hp1 hp2
   by_cases hA:st.a < 0
   ·have qA:decide (st.a < 0)=true:=decide_eq_true hA
    have HD:Hid (derB t im ss=false):=Kh (xS hk (by rw [HB.out];rw [show befB st.a k=false by simp [befB];omega];simp))
    go_wp2_with fail
    refine wp_region_still_tail 43 (by kernel_rfl) (by kernel_rfl) (StillG.h ?_)
    simp only [List.take_succ_cons,List.take_zero,List.drop_succ_cons,List.drop_zero]
    iterate 4 (refine g_un rfl ?_;intro K hK;go_simp;refine hK _ ?_;clear hK K)
    iterate 4 (refine g_no (by kernel_rfl) ?_;try simp only [Act.put,sPa,sPb,sPc])
    iterate 2 (refine g_un rfl ?_;intro K hK;go_simp;refine hK _ ?_;clear hK K)
    iterate 3 (refine g_no (by kernel_rfl) ?_;try simp only [Act.put,sPa,sPb,sPc])
    iterate 2 (refine g_un rfl ?_;intro K hK;go_simp;refine hK _ ?_;clear hK K)
    iterate 4 (refine g_no (by kernel_rfl) ?_;try simp only [Act.put,sPa,sPb,sPc])
    iterate 2 (refine g_un rfl ?_;intro K hK;go_simp;refine hK _ ?_;clear hK K)
    iterate 3 (refine g_no (by kernel_rfl) ?_;try simp only [Act.put,sPa,sPb,sPc])
    iterate 2 (refine g_un rfl ?_;intro K hK;go_simp;refine hK _ ?_;clear hK K)
    iterate 17 (refine g_no (by kernel_rfl) ?_;try simp only [Act.put,sPa,sPb,sPc])
    refine g_nil ?_
    go_wp2
    go_ret
    exact ⟨zT HD.out.symm,zF HGB.out (zU wb none) (by simp)⟩
   have qA:decide (st.a < 0)=false:=decide_eq_false hA
   by_cases hA2:(k:Int)≤st.a
   ·have qA2:decide ((k:Int)≤st.a)=true:=decide_eq_true hA2
    have HD:Hid (derB t im ss=false):=Kh (xS hk (by rw [HB.out];rw [show befB st.a k=false by simp [befB];omega];simp))
    go_wp2_with fail
    refine wp_region_still_tail 43 (by kernel_rfl) (by kernel_rfl) (StillG.h ?_)
    simp only [List.take_succ_cons,List.take_zero,List.drop_succ_cons,List.drop_zero]
    iterate 4 (refine g_un rfl ?_;intro K hK;go_simp;refine hK _ ?_;clear hK K)
    iterate 4 (refine g_yes (by kernel_rfl) ?_;intro K hK;go_simp;refine hK _ ?_;clear hK K)
    iterate 2 (refine g_un rfl ?_;intro K hK;go_simp;refine hK _ ?_;clear hK K)
    iterate 3 (refine g_no (by kernel_rfl) ?_;try simp only [Act.put,sPa,sPb,sPc])
    iterate 2 (refine g_un rfl ?_;intro K hK;go_simp;refine hK _ ?_;clear hK K)
    iterate 4 (refine g_no (by kernel_rfl) ?_;try simp only [Act.put,sPa,sPb,sPc])
    iterate 2 (refine g_un rfl ?_;intro K hK;go_simp;refine hK _ ?_;clear hK K)
    iterate 3 (refine g_no (by kernel_rfl) ?_;try simp only [Act.put,sPa,sPb,sPc])
    iterate 2 (refine g_un rfl ?_;intro K hK;go_simp;refine hK _ ?_;clear hK K)
    iterate 17 (refine g_no (by kernel_rfl) ?_;try simp only [Act.put,sPa,sPb,sPc])
    refine g_nil ?_
    go_wp2
    go_ret
    exact ⟨zT HD.out.symm,zF HGB.out (zU wb none) (by simp)⟩
   have qA2:decide ((k:Int)≤st.a)=false:=decide_eq_false hA2
   by_cases hC:st.b < 0
   ·have qC:decide (st.b < 0)=true:=decide_eq_true hC
    have HD:Hid (derB t im ss=false):=Kh (xS hk (by rw [HB.out];rw [show befB st.b k=false by simp [befB];omega];simp))
    go_wp2_with fail
    refine wp_region_still_tail 43 (by kernel_rfl) (by kernel_rfl) (StillG.h ?_)
    simp only [List.take_succ_cons,List.take_zero,List.drop_succ_cons,List.drop_zero]
    iterate 4 (refine g_un rfl ?_;intro K hK;go_simp;refine hK _ ?_;clear hK K)
    iterate 4 (refine g_yes (by kernel_rfl) ?_;intro K hK;go_simp;refine hK _ ?_;clear hK K)
    iterate 2 (refine g_un rfl ?_;intro K hK;go_simp;refine hK _ ?_;clear hK K)
    iterate 3 (refine g_yes (by kernel_rfl) ?_;intro K hK;go_simp;refine hK _ ?_;clear hK K)
    iterate 2 (refine g_un rfl ?_;intro K hK;go_simp;refine hK _ ?_;clear hK K)
    iterate 4 (refine g_no (by kernel_rfl) ?_;try simp only [Act.put,sPa,sPb,sPc])
    iterate 2 (refine g_un rfl ?_;intro K hK;go_simp;refine hK _ ?_;clear hK K)
    iterate 3 (refine g_no (by kernel_rfl) ?_;try simp only [Act.put,sPa,sPb,sPc])
    iterate 2 (refine g_un rfl ?_;intro K hK;go_simp;refine hK _ ?_;clear hK K)
    iterate 17 (refine g_no (by kernel_rfl) ?_;try simp only [Act.put,sPa,sPb,sPc])
    refine g_nil ?_
    go_wp2
    go_ret
    exact ⟨zT HD.out.symm,zF HGB.out (zU wb none) (by simp)⟩
   have qC:decide (st.b < 0)=false:=decide_eq_false hC
   by_cases hC2:(k:Int)≤st.b
   ·have qC2:decide ((k:Int)≤st.b)=true:=decide_eq_true hC2
    have HD:Hid (derB t im ss=false):=Kh (xS hk (by rw [HB.out];rw [show befB st.b k=false by simp [befB];omega];simp))
    go_wp2_with fail
    refine wp_region_still_tail 43 (by kernel_rfl) (by kernel_rfl) (StillG.h ?_)
    simp only [List.take_succ_cons,List.take_zero,List.drop_succ_cons,List.drop_zero]
    iterate 4 (refine g_un rfl ?_;intro K hK;go_simp;refine hK _ ?_;clear hK K)
    iterate 4 (refine g_yes (by kernel_rfl) ?_;intro K hK;go_simp;refine hK _ ?_;clear hK K)
    iterate 2 (refine g_un rfl ?_;intro K hK;go_simp;refine hK _ ?_;clear hK K)
    iterate 3 (refine g_yes (by kernel_rfl) ?_;intro K hK;go_simp;refine hK _ ?_;clear hK K)
    iterate 2 (refine g_un rfl ?_;intro K hK;go_simp;refine hK _ ?_;clear hK K)
    iterate 4 (refine g_yes (by kernel_rfl) ?_;intro K hK;go_simp;refine hK _ ?_;clear hK K)
    iterate 2 (refine g_un rfl ?_;intro K hK;go_simp;refine hK _ ?_;clear hK K)
    iterate 3 (refine g_no (by kernel_rfl) ?_;try simp only [Act.put,sPa,sPb,sPc])
    iterate 2 (refine g_un rfl ?_;intro K hK;go_simp;refine hK _ ?_;clear hK K)
    iterate 17 (refine g_no (by kernel_rfl) ?_;try simp only [Act.put,sPa,sPb,sPc])
    refine g_nil ?_
    go_wp2
    go_ret
    exact ⟨zT HD.out.symm,zF HGB.out (zU wb none) (by simp)⟩
   have qC2:decide ((k:Int)≤st.b)=false:=decide_eq_false hC2
   obtain ⟨ew,hew⟩:∃ ew,ew=st.word.toList.isEmpty:=⟨_,rfl⟩
   have qw:st.word.toList.isEmpty=ew:=hew.symm
   rw [qw] at HB
   clear hew
   cases ew with
   | false =>
    have HD:Hid (derB t im ss=false):=Kh (xS hk (by rw [HB.out];simp))
    go_wp2_with fail
    refine wp_region_still_tail 43 (by kernel_rfl) (by kernel_rfl) (StillG.h ?_)
    simp only [List.take_succ_cons,List.take_zero,List.drop_succ_cons,List.drop_zero]
    iterate 4 (refine g_un rfl ?_;intro K hK;go_simp;refine hK _ ?_;clear hK K)
    iterate 4 (refine g_yes (by kernel_rfl) ?_;intro K hK;go_simp;refine hK _ ?_;clear hK K)
    iterate 2 (refine g_un rfl ?_;intro K hK;go_simp;refine hK _ ?_;clear hK K)
    iterate 3 (refine g_yes (by kernel_rfl) ?_;intro K hK;go_simp;refine hK _ ?_;clear hK K)
    iterate 2 (refine g_un rfl ?_;intro K hK;go_simp;refine hK _ ?_;clear hK K)
    iterate 4 (refine g_yes (by kernel_rfl) ?_;intro K hK;go_simp;refine hK _ ?_;clear hK K)
    iterate 2 (refine g_un rfl ?_;intro K hK;go_simp;refine hK _ ?_;clear hK K)
    iterate 3 (refine g_yes (by kernel_rfl) ?_;intro K hK;go_simp;refine hK _ ?_;clear hK K)
    iterate 2 (refine g_un rfl ?_;intro K hK;go_simp;refine hK _ ?_;clear hK K)
    iterate 17 (refine g_no (by kernel_rfl) ?_;try simp only [Act.put,sPa,sPb,sPc])
    refine g_nil ?_
    go_wp2
    go_ret
    exact ⟨zT HD.out.symm,zF HGB.out (zU wb none) (by simp)⟩
   | true =>
    obtain ⟨xa,hxa⟩:∃ xa:Nat,(xa:Int)=st.a:=⟨st.a.toNat,by omega⟩
    obtain ⟨xb,hxb⟩:∃ xb:Nat,(xb:Int)=st.b:=⟨st.b.toNat,by omega⟩
    have hak:xa < ss.length:=by omega
    have hbk:xb < ss.length:=by omega
    have hak':(xa:Int) < ss.length:=by omega
    have hbk':(xb:Int) < ss.length:=by omega
    have hsa:=oX HGD.out hst.out xa (by omega)
    have hsb:=oX HGD.out hst.out xb (by omega)
    have HBF:Hid (befB st.a k=true∧befB st.b k=true):=Kh ⟨xT.2 ⟨by omega,by omega⟩,xT.2 ⟨by omega,by omega⟩⟩
    have hso:=HSO.out.kept HGB.out (by simp)
    have ca:=hso.set xa hak
    have cb:=hso.set xb hbk
    have hxA:xa≤k:=by omega
    have hxB:xb≤k:=by omega
    obtain ⟨za,hza⟩:∃ za:Nat,(za:Int)=(ss.getD xa default).set:=⟨(ss.getD xa default).set.toNat,by omega⟩
    obtain ⟨zb,hzb⟩:∃ zb:Nat,(zb:Int)=(ss.getD xb default).set:=⟨(ss.getD xb default).set.toNat,by omega⟩
    rw [← hza] at ca hsa
    rw [← hzb] at cb hsb
    obtain ⟨X,hX⟩:∃ X,X=zP t.length (entN t) za zb:=⟨_,rfl⟩
    have HPR:Hid (∀ W:World,wb.grownBy W none→Calls Tryd.prog 55 #[.slice ta t.length tc,.int .i64 (za:Int),.int .i64 (zb:Int)] W fun e w'=>e=.returned (.int .i64 (X:Int))∧w'=W):=Kh (fun W hW=>(nJ B W _ t za zb ((H.out.kept HGB.out (by simp)).kept hW (by simp)) HSH.out hle (by omega) (by omega)).mono fun e w' ⟨h1,h2⟩=>⟨by rw [h1,hX],h2.symm⟩)
    have HBE:Hid (stepB t im ss k=decide (st.set=(X:Int))):=Kh (by
     rw [HB.out,HBF.out.1,HBF.out.2,hX,← hxa,← hxb,Int.toNat_natCast,Int.toNat_natCast,← hza,← hzb,Int.toNat_natCast,Int.toNat_natCast];simp)
    rw [← hxa] at b1
    rw [← hxb] at b2
    have f1:decide ((xa:Int) < 0)=false:=decide_eq_false (by omega)
    have f2:decide (k≤xa)=false:=decide_eq_false (by omega)
    have f3:decide ((xb:Int) < 0)=false:=decide_eq_false (by omega)
    have f4:decide (k≤xb)=false:=decide_eq_false (by omega)
    clear hA hA2 hC hC2 qA qA2 qC qC2
    clear hX hsa hsb hza hzb hso hxa hxb
    by_cases hsx:st.set=(X:Int)
    ·have qs:(st.set != (X:Int))=false:=by rw [hsx];simp
     have HBT:Hid (stepB t im ss k=true):=Kh (by rw [HBE.out,decide_eq_true hsx])
     clear hsx
     go_wp2_with fail
     refine wp_region_still_tail 43 (by kernel_rfl) (by kernel_rfl) (StillG.h ?_)
     simp only [List.take_succ_cons,List.take_zero,List.drop_succ_cons,List.drop_zero]
     iterate 4 (refine g_un rfl ?_;intro K hK;go_simp;refine hK _ ?_;clear hK K)
     iterate 4 (refine g_yes (by kernel_rfl) ?_;intro K hK;go_simp;refine hK _ ?_;clear hK K)
     iterate 2 (refine g_un rfl ?_;intro K hK;go_simp;refine hK _ ?_;clear hK K)
     iterate 3 (refine g_yes (by kernel_rfl) ?_;intro K hK;go_simp;refine hK _ ?_;clear hK K)
     iterate 2 (refine g_un rfl ?_;intro K hK;go_simp;refine hK _ ?_;clear hK K)
     iterate 4 (refine g_yes (by kernel_rfl) ?_;intro K hK;go_simp;refine hK _ ?_;clear hK K)
     iterate 2 (refine g_un rfl ?_;intro K hK;go_simp;refine hK _ ?_;clear hK K)
     iterate 3 (refine g_yes (by kernel_rfl) ?_;intro K hK;go_simp;refine hK _ ?_;clear hK K)
     iterate 2 (refine g_un rfl ?_;intro K hK;go_simp;refine hK _ ?_;clear hK K)
     iterate 15 (refine g_yes (by kernel_rfl) ?_;intro K hK;go_simp;refine hK _ ?_;clear hK K)
     refine g_yes (by kernel_rfl) ?_;intro K hK;go_simp;refine ⟨_,HPR.out _ (zU _ _),hK _ ?_⟩;clear hK K
     refine g_yes (by kernel_rfl) ?_;intro K hK;go_simp;refine hK _ ?_;clear hK K
     refine g_nil ?_
     go_wp2
     go_roundg (ss.length - (k+1))
     case measure=>have:=HGH.out;omega
     case rel=>exact ⟨k+1,by have:=HGH.out;omega,by go_num,Kh (uZ hst.out HBT.out),zF HGB.out (zU wb none) (by simp)⟩
    ·have qs:(st.set != (X:Int))=true:=by rw [bne_iff_ne];exact hsx
     have HD:Hid (derB t im ss=false):=Kh (xS hk (by rw [HBE.out,decide_eq_false hsx]))
     clear hsx
     go_wp2_with fail
     refine wp_region_still_tail 43 (by kernel_rfl) (by kernel_rfl) (StillG.h ?_)
     simp only [List.take_succ_cons,List.take_zero,List.drop_succ_cons,List.drop_zero]
     iterate 4 (refine g_un rfl ?_;intro K hK;go_simp;refine hK _ ?_;clear hK K)
     iterate 4 (refine g_yes (by kernel_rfl) ?_;intro K hK;go_simp;refine hK _ ?_;clear hK K)
     iterate 2 (refine g_un rfl ?_;intro K hK;go_simp;refine hK _ ?_;clear hK K)
     iterate 3 (refine g_yes (by kernel_rfl) ?_;intro K hK;go_simp;refine hK _ ?_;clear hK K)
     iterate 2 (refine g_un rfl ?_;intro K hK;go_simp;refine hK _ ?_;clear hK K)
     iterate 4 (refine g_yes (by kernel_rfl) ?_;intro K hK;go_simp;refine hK _ ?_;clear hK K)
     iterate 2 (refine g_un rfl ?_;intro K hK;go_simp;refine hK _ ?_;clear hK K)
     iterate 3 (refine g_yes (by kernel_rfl) ?_;intro K hK;go_simp;refine hK _ ?_;clear hK K)
     iterate 2 (refine g_un rfl ?_;intro K hK;go_simp;refine hK _ ?_;clear hK K)
     iterate 15 (refine g_yes (by kernel_rfl) ?_;intro K hK;go_simp;refine hK _ ?_;clear hK K)
     refine g_yes (by kernel_rfl) ?_;intro K hK;go_simp;refine ⟨_,HPR.out _ (zU _ _),hK _ ?_⟩;clear hK K
     refine g_yes (by kernel_rfl) ?_;intro K hK;go_simp;refine hK _ ?_;clear hK K
     refine g_nil ?_
     go_wp2
     go_ret
     exact ⟨zT HD.out.symm,zF HGB.out (zU wb none) (by simp)⟩
  by_cases hp3:st.op=3
  ·have q1:(st.op == 1)=false:=by rw [hp3];rfl
   have q2:(st.op == 2)=false:=by rw [hp3];rfl
   have q3:(st.op == 3)=true:=by rw [hp3];rfl
   have HB:=Kh (oY (t:=t) (im:=im) HST.out hp3)
   clear hp1 hp2 hp3
   by_cases hA:st.a < 0
   ·have qA:decide (st.a < 0)=true:=decide_eq_true hA
    have HD:Hid (derB t im ss=false):=Kh (xS hk (by rw [HB.out];rw [show befB st.a k=false by simp [befB];omega];simp))
    go_wp2_with fail
    refine wp_region_still_tail 31 (by kernel_rfl) (by kernel_rfl) (StillG.h ?_)
    simp only [List.take_succ_cons,List.take_zero,List.drop_succ_cons,List.drop_zero]
    iterate 4 (refine g_un rfl ?_;intro K hK;go_simp;refine hK _ ?_;clear hK K)
    iterate 4 (refine g_no (by kernel_rfl) ?_;try simp only [Act.put,sPa,sPb,sPc])
    iterate 2 (refine g_un rfl ?_;intro K hK;go_simp;refine hK _ ?_;clear hK K)
    iterate 3 (refine g_no (by kernel_rfl) ?_;try simp only [Act.put,sPa,sPb,sPc])
    iterate 2 (refine g_un rfl ?_;intro K hK;go_simp;refine hK _ ?_;clear hK K)
    iterate 3 (refine g_no (by kernel_rfl) ?_;try simp only [Act.put,sPa,sPb,sPc])
    iterate 2 (refine g_un rfl ?_;intro K hK;go_simp;refine hK _ ?_;clear hK K)
    iterate 11 (refine g_no (by kernel_rfl) ?_;try simp only [Act.put,sPa,sPb,sPc])
    refine g_nil ?_
    go_wp2
    go_ret
    exact ⟨zT HD.out.symm,zF HGB.out (zU wb none) (by simp)⟩
   have qA:decide (st.a < 0)=false:=decide_eq_false hA
   by_cases hA2:(k:Int)≤st.a
   ·have qA2:decide ((k:Int)≤st.a)=true:=decide_eq_true hA2
    have HD:Hid (derB t im ss=false):=Kh (xS hk (by rw [HB.out];rw [show befB st.a k=false by simp [befB];omega];simp))
    go_wp2_with fail
    refine wp_region_still_tail 31 (by kernel_rfl) (by kernel_rfl) (StillG.h ?_)
    simp only [List.take_succ_cons,List.take_zero,List.drop_succ_cons,List.drop_zero]
    iterate 4 (refine g_un rfl ?_;intro K hK;go_simp;refine hK _ ?_;clear hK K)
    iterate 4 (refine g_yes (by kernel_rfl) ?_;intro K hK;go_simp;refine hK _ ?_;clear hK K)
    iterate 2 (refine g_un rfl ?_;intro K hK;go_simp;refine hK _ ?_;clear hK K)
    iterate 3 (refine g_no (by kernel_rfl) ?_;try simp only [Act.put,sPa,sPb,sPc])
    iterate 2 (refine g_un rfl ?_;intro K hK;go_simp;refine hK _ ?_;clear hK K)
    iterate 3 (refine g_no (by kernel_rfl) ?_;try simp only [Act.put,sPa,sPb,sPc])
    iterate 2 (refine g_un rfl ?_;intro K hK;go_simp;refine hK _ ?_;clear hK K)
    iterate 11 (refine g_no (by kernel_rfl) ?_;try simp only [Act.put,sPa,sPb,sPc])
    refine g_nil ?_
    go_wp2
    go_ret
    exact ⟨zT HD.out.symm,zF HGB.out (zU wb none) (by simp)⟩
   have qA2:decide ((k:Int)≤st.a)=false:=decide_eq_false hA2
   by_cases hb:st.b≠0
   ·have qb:(st.b != 0)=true:=by rw [bne_iff_ne];exact hb
    have HD:Hid (derB t im ss=false):=Kh (xS hk (by rw [HB.out];simp [hb]))
    clear hb
    go_wp2_with fail
    refine wp_region_still_tail 31 (by kernel_rfl) (by kernel_rfl) (StillG.h ?_)
    simp only [List.take_succ_cons,List.take_zero,List.drop_succ_cons,List.drop_zero]
    iterate 4 (refine g_un rfl ?_;intro K hK;go_simp;refine hK _ ?_;clear hK K)
    iterate 4 (refine g_yes (by kernel_rfl) ?_;intro K hK;go_simp;refine hK _ ?_;clear hK K)
    iterate 2 (refine g_un rfl ?_;intro K hK;go_simp;refine hK _ ?_;clear hK K)
    iterate 3 (refine g_yes (by kernel_rfl) ?_;intro K hK;go_simp;refine hK _ ?_;clear hK K)
    iterate 2 (refine g_un rfl ?_;intro K hK;go_simp;refine hK _ ?_;clear hK K)
    iterate 3 (refine g_no (by kernel_rfl) ?_;try simp only [Act.put,sPa,sPb,sPc])
    iterate 2 (refine g_un rfl ?_;intro K hK;go_simp;refine hK _ ?_;clear hK K)
    iterate 11 (refine g_no (by kernel_rfl) ?_;try simp only [Act.put,sPa,sPb,sPc])
    refine g_nil ?_
    go_wp2
    go_ret
    exact ⟨zT HD.out.symm,zF HGB.out (zU wb none) (by simp)⟩
   replace hb:st.b=0:=by omega
   have qb:(st.b != 0)=false:=by rw [hb];rfl
   have HB0:=Kh hb
   clear hb
   obtain ⟨ew,hew⟩:∃ ew,ew=st.word.toList.isEmpty:=⟨_,rfl⟩
   have qw:st.word.toList.isEmpty=ew:=hew.symm
   rw [qw] at HB
   clear hew
   cases ew with
   | false =>
    have HD:Hid (derB t im ss=false):=Kh (xS hk (by rw [HB.out];simp))
    go_wp2_with fail
    refine wp_region_still_tail 31 (by kernel_rfl) (by kernel_rfl) (StillG.h ?_)
    simp only [List.take_succ_cons,List.take_zero,List.drop_succ_cons,List.drop_zero]
    iterate 4 (refine g_un rfl ?_;intro K hK;go_simp;refine hK _ ?_;clear hK K)
    iterate 4 (refine g_yes (by kernel_rfl) ?_;intro K hK;go_simp;refine hK _ ?_;clear hK K)
    iterate 2 (refine g_un rfl ?_;intro K hK;go_simp;refine hK _ ?_;clear hK K)
    iterate 3 (refine g_yes (by kernel_rfl) ?_;intro K hK;go_simp;refine hK _ ?_;clear hK K)
    iterate 2 (refine g_un rfl ?_;intro K hK;go_simp;refine hK _ ?_;clear hK K)
    iterate 3 (refine g_yes (by kernel_rfl) ?_;intro K hK;go_simp;refine hK _ ?_;clear hK K)
    iterate 2 (refine g_un rfl ?_;intro K hK;go_simp;refine hK _ ?_;clear hK K)
    iterate 11 (refine g_no (by kernel_rfl) ?_;try simp only [Act.put,sPa,sPb,sPc])
    refine g_nil ?_
    go_wp2
    go_ret
    exact ⟨zT HD.out.symm,zF HGB.out (zU wb none) (by simp)⟩
   | true =>
    obtain ⟨xa,hxa⟩:∃ xa:Nat,(xa:Int)=st.a:=⟨st.a.toNat,by omega⟩
    have hak:xa < ss.length:=by omega
    have hak':(xa:Int) < ss.length:=by omega
    have hsa:=oX HGD.out hst.out xa (by omega)
    have HBF:Hid (befB st.a k=true):=Kh (xT.2 ⟨by omega,by omega⟩)
    have hso:=HSO.out.kept HGB.out (by simp)
    have ca:=hso.set xa hak
    obtain ⟨za,hza⟩:∃ za:Nat,(za:Int)=(ss.getD xa default).set:=⟨(ss.getD xa default).set.toNat,by omega⟩
    rw [← hza] at ca hsa
    obtain ⟨X,hX⟩:∃ X,X=yC t.length (entN t) za:=⟨_,rfl⟩
    have HPR:Hid (∀ W:World,wb.grownBy W none→Calls Tryd.prog 57 #[.slice ta t.length tc,.int .i64 (za:Int)] W fun e w'=>e=.returned (.int .i64 (X:Int))∧w'=W):=Kh (fun W hW=>(omega40_any B W _ t za ((H.out.kept HGB.out (by simp)).kept hW (by simp)) HVA.out hle (by omega)).mono fun e w' ⟨h1,h2⟩=>⟨by rw [h1,hX],h2.symm⟩)
    have HBE:Hid (stepB t im ss k=decide (st.set=(X:Int))):=Kh (by
     rw [HB.out,HBF.out,HB0.out,hX,← hxa,Int.toNat_natCast,← hza,Int.toNat_natCast];simp)
    rw [← hxa] at b1
    have f1:decide ((xa:Int) < 0)=false:=decide_eq_false (by omega)
    have f2:decide (k≤xa)=false:=decide_eq_false (by omega)
    clear hA hA2 qA qA2
    clear hX hsa hza hso hxa
    by_cases hsx:st.set=(X:Int)
    ·have qs:(st.set != (X:Int))=false:=by rw [hsx];simp
     have HBT:Hid (stepB t im ss k=true):=Kh (by rw [HBE.out,decide_eq_true hsx])
     clear hsx
     go_wp2_with fail
     refine wp_region_still_tail 31 (by kernel_rfl) (by kernel_rfl) (StillG.h ?_)
     simp only [List.take_succ_cons,List.take_zero,List.drop_succ_cons,List.drop_zero]
     iterate 4 (refine g_un rfl ?_;intro K hK;go_simp;refine hK _ ?_;clear hK K)
     iterate 4 (refine g_yes (by kernel_rfl) ?_;intro K hK;go_simp;refine hK _ ?_;clear hK K)
     iterate 2 (refine g_un rfl ?_;intro K hK;go_simp;refine hK _ ?_;clear hK K)
     iterate 3 (refine g_yes (by kernel_rfl) ?_;intro K hK;go_simp;refine hK _ ?_;clear hK K)
     iterate 2 (refine g_un rfl ?_;intro K hK;go_simp;refine hK _ ?_;clear hK K)
     iterate 3 (refine g_yes (by kernel_rfl) ?_;intro K hK;go_simp;refine hK _ ?_;clear hK K)
     iterate 2 (refine g_un rfl ?_;intro K hK;go_simp;refine hK _ ?_;clear hK K)
     iterate 9 (refine g_yes (by kernel_rfl) ?_;intro K hK;go_simp;refine hK _ ?_;clear hK K)
     refine g_yes (by kernel_rfl) ?_;intro K hK;go_simp;refine ⟨_,HPR.out _ (zU _ _),hK _ ?_⟩;clear hK K
     refine g_yes (by kernel_rfl) ?_;intro K hK;go_simp;refine hK _ ?_;clear hK K
     refine g_nil ?_
     go_wp2
     go_roundg (ss.length - (k+1))
     case measure=>have:=HGH.out;omega
     case rel=>exact ⟨k+1,by have:=HGH.out;omega,by go_num,Kh (uZ hst.out HBT.out),zF HGB.out (zU wb none) (by simp)⟩
    ·have qs:(st.set != (X:Int))=true:=by rw [bne_iff_ne];exact hsx
     have HD:Hid (derB t im ss=false):=Kh (xS hk (by rw [HBE.out,decide_eq_false hsx]))
     clear hsx
     go_wp2_with fail
     refine wp_region_still_tail 31 (by kernel_rfl) (by kernel_rfl) (StillG.h ?_)
     simp only [List.take_succ_cons,List.take_zero,List.drop_succ_cons,List.drop_zero]
     iterate 4 (refine g_un rfl ?_;intro K hK;go_simp;refine hK _ ?_;clear hK K)
     iterate 4 (refine g_yes (by kernel_rfl) ?_;intro K hK;go_simp;refine hK _ ?_;clear hK K)
     iterate 2 (refine g_un rfl ?_;intro K hK;go_simp;refine hK _ ?_;clear hK K)
     iterate 3 (refine g_yes (by kernel_rfl) ?_;intro K hK;go_simp;refine hK _ ?_;clear hK K)
     iterate 2 (refine g_un rfl ?_;intro K hK;go_simp;refine hK _ ?_;clear hK K)
     iterate 3 (refine g_yes (by kernel_rfl) ?_;intro K hK;go_simp;refine hK _ ?_;clear hK K)
     iterate 2 (refine g_un rfl ?_;intro K hK;go_simp;refine hK _ ?_;clear hK K)
     iterate 9 (refine g_yes (by kernel_rfl) ?_;intro K hK;go_simp;refine hK _ ?_;clear hK K)
     refine g_yes (by kernel_rfl) ?_;intro K hK;go_simp;refine ⟨_,HPR.out _ (zU _ _),hK _ ?_⟩;clear hK K
     refine g_yes (by kernel_rfl) ?_;intro K hK;go_simp;refine hK _ ?_;clear hK K
     refine g_nil ?_
     go_wp2
     go_ret
     exact ⟨zT HD.out.symm,zF HGB.out (zU wb none) (by simp)⟩
  ·have HD:=Kh (xS hk (lK (t:=t) (im:=im) HST.out hp1 hp2 hp3))
   have q1:(st.op == 1)=false:=by rw [beq_eq_false_iff_ne];exact hp1
   have q2:(st.op == 2)=false:=by rw [beq_eq_false_iff_ne];exact hp2
   have q3:(st.op == 3)=false:=by rw [beq_eq_false_iff_ne];exact hp3
   go_wp2
   go_ret
   exact ⟨zT HD.out.symm,HGB.out⟩
theorem close_pos {t:List (List Int)} {im:List Int} (hg:Good t im):Pos (uI t im):=by
 have h:=(roundsGo_keep (tb_of hg.valid) (2 ^ t.length+1) (tB t im) false (lL hg) (start_pos' hg)).2
 exact h
theorem clB_close {t:List (List Int)} {im:List Int} (hz:yO t im=0):clB t im (intL (uI t im))=true:=by
 have hg:=wV.1 hz
 have hlt:=(uS hg).2.2
 have hmem:∀ b∈uI t im,UC t im b:=fun b hb=>yI.2 ⟨b,hb,oV b⟩
 rw [iY hz (fun k hk=>by
  rw [intL_length] at hk
  rw [intL_getD]
  exact setB_of (hlt _ (wY hk))),natL_intL]
 exact iI (fun s hs=>iU hg hs) (fun a ha b hb=>jX hg (hmem a ha) (hmem b hb)) (fun a ha=>uc_omega hg (hmem a ha))
theorem der_in {t:List (List Int)} {im:List Int} (hz:yO t im=0) {b:Nat} (hb:b∈uI t im):derE t im (b:Int)=0:=by
 have hg:=wV.1 hz
 have hlt:=(uS hg).2.2 b hb
 have h0:b≠0:=fun e=>(close_pos hg).2 (e ▸ hb)
 rw [derE_in hz (fun h=>h.elim (fun h=>h0 (by omega)) (fun h=>by rw [setB_of hlt] at h;cases h)),if_pos (within_uc hg hlt (yI.2 ⟨b,hb,oV b⟩))]
set_option maxRecDepth 100000 in
set_option maxHeartbeats 2000000 in
theorem closed_walk (w:World) (sl:Value) (zs:List Int) (at_:Int) (h:Row w.heap.size w sl (zs.map (Value.int .i64))) (hT:TabOk w) :
  Calls Tryd.prog 9 #[sl,.int .i64 at_] w fun e w'=>e=.returned (.bool true)∧w.grownBy w' none:=by
 obtain ⟨sA,sC,rfl⟩:=h.shape
 obtain ⟨sl,hsl⟩:∃ sl,sl=(zs.map (Value.int .i64)).length:=⟨_,rfl⟩
 rw [← hsl] at h ⊢
 have HNW:=Kh (new_any w.heap.size w (.slice sA sl sC) zs h (Nat.le_refl _))
 have HT:=Kh hT
 clear h hT hsl
 go_enter Tryd.func9,Tryd.ntmps9
 go_wp2_with fail
 refine HNW.out.mono ?_
 rintro e w1 ⟨rfl,hT1,hg1⟩
 have HTA:=Kh (table40_any w.heap.size w.heap.size 8 w1 (by omega) hT1)
 have HG1:=Kh hg1
 clear hT1 hg1
 go_wp2_with fail
 refine HTA.out.mono ?_
 rintro e w2 ⟨T,im0,vT,vI,rfl,hTm,hIm,hTE,hTp,hg2⟩
 have hg02:=zF HG1.out hg2 (fun j e=>by have e:w.heap.size=j:=Oj e;omega)
 have HG2:=Kh hg02
 have HT2:=Kh (HT.out.kept hg02 (by simp))
 have hgood:=hTE.good (by omega) (by omega)
 have hmat:=(TMatT.tmat hTm).mat
 have him:=hIm.row
 rw [nats_ints] at him
 obtain ⟨tA,tC,rfl⟩:=(TMatT.tmat hTm).shape
 obtain ⟨iA,iC,rfl⟩:=hIm.shape
 obtain ⟨t,ht⟩:∃ t,t=tabI T:=⟨_,rfl⟩
 obtain ⟨im,him2⟩:∃ im,im=im0.map fun (x:Nat)=>(x:Int):=⟨_,rfl⟩
 obtain ⟨tl,htl⟩:∃ tl,tl=T.length:=⟨_,rfl⟩
 obtain ⟨il,hil⟩:∃ il,il=(nats im0).length:=⟨_,rfl⟩
 rw [← ht,← him2,← htl] at hgood
 obtain ⟨hgd,hl8,hlt,_⟩:=hgood
 rw [← ht,← htl] at hmat
 rw [← him2,← hil] at him
 rw [← htl,← hil]
 have HM2:=Kh hmat;have HI2:=Kh him;have HGA2:=Kh (zX w2 none)
 have HZ:Hid (yO t im=0):=Kh (wV.2 hgd)
 have HGD:=Kh hgd
 clear hTm hIm hTE hTp hg2 hg02 hmat ht htl him him2 hil hgd hl8 hlt
 have hle:=HGD.out.le
 go_wp2_with fail
 refine (mB w2.heap.size w2 _ _ t im (Nat.le_refl _) HM2.out HI2.out HT2.out).mono ?_
 rintro e w3 ⟨hg3,⟨hne,_⟩|⟨_,v3,rfl,hrow3⟩⟩
 ·exact absurd HZ.out hne
 have hpos:=(close_pos HGD.out).1
 obtain ⟨l,hl⟩:∃ l,l=uI t im:=⟨_,rfl⟩
 rw [← hl] at hrow3 hpos
 have HL:=Kh hl
 obtain ⟨rb,ro,rc,rfl,hrB,hr1,hr2,hra⟩:=hrow3.some_ (by rw [zN];exact hpos)
 rw [zN] at hrow3 hr1 ⊢
 have hrm:rc≤9223372036854775807:=by unfold maxLen at hr2;omega
 have hlm:l.length≤9223372036854775807:=by omega
 have hlz:((l.length:Int) == 0)=false:=by rw [beq_eq_false_iff_ne];omega
 have hpi:(0:Int) < l.length:=by omega
 have hri:Row w3.heap.size w3 (.slice (some ⟨rb,ro,none⟩) l.length rc) (ints (intL l)):=by rw [oJ];exact hrow3
 have HRI:=Kh hri;have HRA:=Kh hra
 have HG3:=Kh (zF HG2.out hg3 (by simp));have HM3:=Kh ((HM2.out.kept hg3 (by simp)).mono hg3.size);have HI3:=Kh ((HI2.out.kept hg3 (by simp)).mono hg3.size);have HT3:=Kh (HT2.out.kept hg3 (by simp))
 have HCB:Hid (clB t im (intL l)=true):=Kh (by rw [hl];exact clB_close HZ.out)
 clear hg3 hrow3 hri hra hl hr2
 go_wp2_with fail
 refine (pcclosed_any w3.heap.size w3 _ _ _ t im (intL l) (Nat.le_refl _) HM3.out HI3.out HRI.out HT3.out).mono ?_
 rintro e w4 ⟨rfl,hg4⟩
 rw [HCB.out]
 have HG4:=Kh (zF HG3.out hg4 (by simp));have HM4:=Kh ((HM3.out.kept hg4 (by simp)).mono hg4.size);have HI4:=Kh ((HI3.out.kept hg4 (by simp)).mono hg4.size);have HT4:=Kh (HT3.out.kept hg4 (by simp));have HRI4:=Kh ((HRI.out.kept hg4 (by simp)).mono hg4.size);have HRA4:=Kh (HRA.out.kept hg4 (by simp))
 clear hg4
 go_wp2_with fail
 refine (rcclosed_any w4.heap.size w4 _ _ _ t im (intL l) (Nat.le_refl _) HM4.out HI4.out HRI4.out).mono ?_
 rintro e w5 ⟨rfl,hg5⟩
 rw [HCB.out]
 have HG5:=Kh (zF HG4.out hg5 (by simp));have HM5:=Kh ((HM4.out.kept hg5 (by simp)).mono hg5.size);have HI5:=Kh ((HI4.out.kept hg5 (by simp)).mono hg5.size);have HT5:=Kh (HT4.out.kept hg5 (by simp));have HRA5:=Kh (HRA4.out.kept hg5 (by simp))
 clear hg5
 go_wp2_with fail
 refine (iE _ _ _ (by omega)).mono ?_
 rintro e wq ⟨rfl,rfl⟩
 have hm0:=modI_nonneg at_ l.length
 have hm1:=modI_lt at_ l.length (by omega)
 obtain ⟨r,hr⟩:∃ r:Nat,(r:Int)=modI at_ l.length:=⟨(modI at_ l.length).toNat,by omega⟩
 rw [← hr] at hm0 hm1 ⊢
 have hrl:r < l.length:=by omega
 have hcr:=HRA5.out.nat r hrl
 obtain ⟨b,hb⟩:∃ b,b=l.getD r 0:=⟨_,rfl⟩
 rw [← hb] at hcr
 have hbm:b∈uI t im:=by rw [← HL.out,hb];exact wY hrl
 have hbl:b < 2 ^ t.length:=(uS HGD.out).2.2 b hbm
 have HBL:=Kh hbl
 have HDE:=Kh (der_in HZ.out hbm)
 have HB12:Hid (2 ^ t.length≤2 ^ 12):=Kh (Nat.pow_le_pow_right (by omega) hle)
 clear hr hb hbm hbl
 go_wp2_with fail
 refine (derive_any w5.heap.size w5 _ _ t im (b:Int) (Nat.le_refl _) HM5.out HI5.out HT5.out).mono ?_
 rintro e w6 ⟨hg6,⟨hne,_⟩|⟨_,da,dc,ds,S,rfl,hown,hso,hd0,hd4,hwz,hlast,hSl,hsub⟩⟩
 ·exact absurd HDE.out hne
 have HG6:=Kh (zF HG5.out hg6 (by simp));have HM6:=Kh ((HM5.out.kept hg6 (by simp)).mono hg6.size);have HI6:=Kh ((HI5.out.kept hg6 (by simp)).mono hg6.size);have HT6:=Kh (HT5.out.kept hg6 (by simp))
 have hsr:SRow w6.heap.size w6 (.slice da ds.length dc) ds:=SRow.of_owns hown rfl
 have HSR:=Kh hsr;have HWZ:=Kh hwz
 have HDB:Hid (derB t im ds=true):=Kh (lW HZ.out hd0 hso)
 have HAND:Hid (bits .and .i64 (S:Int) (b:Int)=(b:Int)):=Kh (by
  have:=HB12.out;have:=HBL.out
  rw [Int.toNat_natCast] at hsub
  rw [uQ S b (by omega) (by omega),Nat.and_comm,hsub])
 have HLAST:=Kh hlast
 obtain ⟨L,hLe⟩:∃ L,L=ds.length:=⟨_,rfl⟩
 obtain ⟨db,doff,dcap,de,hdB,hd1,hd2,hdso⟩:=hsr.some_ hd0
 simp only [Value.slice.injEq] at de
 obtain ⟨rfl,_,rfl⟩:=de
 have HSO:=Kh hdso
 have HLE:=Kh hLe
 rw [← hLe] at hd0 hd4 hd1 ⊢
 have hdm:dc≤9223372036854775807:=by unfold maxLen at hd2;omega
 have hL2:(L:Int)≤20000:=by omega
 rw [← hLe] at HSR
 clear hg6 hown hso hwz hlast hSl hsub hsr hdso hLe hd2 hcr
 go_wp2_with fail
 refine (rcheckD_any w6.heap.size w6 _ _ _ t im ds (Nat.le_refl _) HM6.out HI6.out HSR.out HWZ.out).mono ?_
 rintro e w7 ⟨rfl,hg7⟩
 rw [HDB.out]
 have HG7:=Kh (zF HG6.out hg7 (by simp));have HM7:=Kh ((HM6.out.kept hg7 (by simp)).mono hg7.size);have HI7:=Kh ((HI6.out.kept hg7 (by simp)).mono hg7.size);have HT7:=Kh (HT6.out.kept hg7 (by simp));have HSR7:=Kh ((HSR.out.kept hg7 (by simp)).mono hg7.size);have HSO7:=Kh (HSO.out.kept hg7 (by simp))
 clear hg7
 go_wp2_with fail
 refine (checkD_any w7.heap.size w7 _ _ _ t im ds (Nat.le_refl _) HM7.out HI7.out HSR7.out HWZ.out HT7.out).mono ?_
 rintro e w8 ⟨rfl,hg8⟩
 rw [HDB.out]
 have HG8:=Kh (zF HG7.out hg8 (by simp));have HT8:=Kh (HT7.out.kept hg8 (by simp));have HSO8:=Kh (HSO7.out.kept hg8 (by simp))
 clear hg8
 have hcs:=HSO8.out.set (L - 1) (by rw [← HLE.out];omega)
 rw [HLE.out,HLAST.out,← HLE.out] at hcs
 have hand:=HAND.out
 have hL1:1≤L:=by omega
 go_wp2_with fail
 refine (known40_any _ HT8.out).mono ?_
 rintro e w20 ⟨rfl,hg20⟩
 have HG20:=Kh (zF HG8.out hg20 (by simp))
 clear hg20
 go_wp2
 go_ret
 exact ⟨rfl,HG20.out⟩
def laidTabs : List (String × DataW Unit) := [("math/bits.deBruijn32tab", Rows.laid_math_bits_deBruijn32tab), ("math/bits.deBruijn64tab", Rows.laid_math_bits_deBruijn64tab)]
theorem tabOk_of_laid {W:World} (h:laidMetH Tryd.prog laidTabs W):TabOk W:=by
 rw [MakeChecks.laidMetH_plain _ _ _ (by kernel_rfl)] at h
 obtain ⟨ps,⟨g0,t0,cs0,f0,p0,q0,hg0,ht0,hv0,hd0,⟨g1,t1,cs1,f1,p1,q1,hg1,ht1,hv1,hd1,_,_⟩,_⟩,_,_⟩:=h
 have e1 : Tryd.prog.globalNamed "math/bits.deBruijn64tab" = some 1 := by kernel_rfl
 obtain rfl:=Oj (e1.symm.trans hg1)
 have e2:(Tryd.prog.globals[1]?).map (·.type)=some 143:=by kernel_rfl
 obtain rfl:=Oj (e2.symm.trans ht1)
 have hc:=Lib.cells_of_tab (k:=.u8) (zs:=Lib.deBruijn64tab.map fun (x:Nat)=>(x:Int)) (n:=64) (e:=5) (by kernel_rfl) (by kernel_rfl) (by kernel_rfl) (by kernel_rfl) hd1
 have hti : Lib.TabIs Tryd.prog W "math/bits.deBruijn64tab" .u8 (Lib.deBruijn64tab.map fun (x : Nat) => (x : Int)) := by
  unfold Lib.TabIs
  rw [hv1,← hc]
 have hcell:∀ i,i < Lib.deBruijn64tab.length→W.cell? ⟨1,i,none⟩=some (.int .u8 (Lib.deBruijn64tab.getD i 0)):=fun i hi=>by
  have:=hti.cell e1 i (by rw [List.length_map];exact hi)
  rw [this]
  simp [List.getD,List.getElem?_eq_getElem hi]
 exact ⟨World.block_lt_of_cell? W _ (hcell 0 (by decide)),hcell⟩
end Go.Proofs.YtdjhoadoiknaoaaDoor
