/- Part 6 of the proof: MaxRef, Sets4, Round, Shelf. -/
import Derived.Test.YtdjhoadoiknaoaaDoorZD5
import Derived.Deep.CutBlock
import Derived.Shelf.Slices.Equal
import Derived.Ground.Names2Prog
import Derived.Shelf.Slices.Clone
import Derived.Shelf.Slices.Empties2
import Derived.Test.YtdjhoadoiknaoaaDoorProg
set_option linter.unusedVariables false
set_option linter.unusedSimpArgs false
namespace Go.Proofs.YtdjhoadoiknaoaaDoor
open Go.RowKit
attribute [local go_sem ↓] Go.wp_at_zero Go.wp_at_succ
structure MaxSo (l:List Nat) (k:Nat) (o:List Nat):Prop where
 sorted:o.Pairwise (· < ·)
 mem:∀ a,a∈o ↔ a∈l.take k∧mE l a
theorem MaxSo.le {l:List Nat} {k:Nat} {o:List Nat} (h:MaxSo l k o) {N:Nat} (hl:∀ b∈l,b < N):o.length≤N:=by
 have h2:∀ a∈o,a < N:=fun a ha=>hl a (List.mem_of_mem_take ((h.mem a).1 ha).1)
 have h1:=h.sorted
 clear h
 have key:∀ (o:List Nat) (lo:Nat),o.Pairwise (· < ·)→(∀ a∈o,lo≤a∧a < N)→o.length≤N - lo:=by
  intro o
  induction o with
  | nil=>intro lo _ _;exact Nat.zero_le _
  | cons a o ih =>
   intro lo hs hb
   have hs':=List.pairwise_cons.1 hs
   have h1:=hb a (by simp)
   have:=ih (a+1) hs'.2 (fun b hb'=>⟨hs'.1 b hb',(hb b (by simp [hb'])).2⟩)
   simp only [List.length_cons]
   omega
 have:=key o 0 h1 (fun a ha=>⟨Nat.zero_le _,h2 a ha⟩)
 omega
theorem MaxSo.skip {l:List Nat} {k:Nat} {o:List Nat} (h:MaxSo l k o) (hk:k < l.length) (hm:mE l (l.getD k 0)→l.getD k 0∈o):MaxSo l (k+1) o:=by
 refine ⟨h.sorted,fun a=>?_⟩
 rw [h.mem a,yG (d:=0) hk,List.mem_append,List.mem_singleton]
 constructor
 ·rintro ⟨h1,h2⟩;exact ⟨.inl h1,h2⟩
 ·rintro ⟨h1|rfl,h2⟩
  ·exact ⟨h1,h2⟩
  ·exact (h.mem _).1 (hm h2)
def FromQ (o:List Nat) (a q:Nat):Prop:=∀ i,q≤i→i < o.length→a≤o.getD i 0
theorem fM {o:List Nat} (h:o.Pairwise (· < ·)) {i j:Nat} (hij:i < j) (hj:j < o.length):o.getD i 0 < o.getD j 0:=by
 have:=List.pairwise_iff_getElem.1 h i j (by omega) hj hij
 simpa [List.getD,List.getElem?_eq_getElem (show i < o.length by omega),List.getElem?_eq_getElem hj] using this
theorem MaxSo.insert {l:List Nat} {k q:Nat} {o:List Nat} (h:MaxSo l k o) (hk:k < l.length) (hm:mE l (l.getD k 0)) (hq:q≤o.length) (hf:FromQ o (l.getD k 0) q) (hb:q=0∨o.getD (q - 1) 0 < l.getD k 0) (hne:q=o.length∨o.getD q 0≠l.getD k 0) :
  MaxSo l (k+1) (o.take q ++ [l.getD k 0] ++ o.drop q):=by
 obtain ⟨a,ha⟩:∃ a,a=l.getD k 0:=⟨_,rfl⟩
 rw [← ha] at hm hf hb hne ⊢
 have hlow:∀ x∈o.take q,x < a:=by
  intro x hx
  obtain ⟨i,hi,rfl⟩:=List.getElem_of_mem hx
  rw [List.length_take] at hi
  rw [List.getElem_take]
  rcases hb with h0|h0
  ·omega
  ·have e:o[i]=o.getD i 0:=by simp [List.getD,List.getElem?_eq_getElem (show i < o.length by omega)]
   rw [e]
   rcases Nat.lt_or_ge i (q - 1) with h1|h1
   ·have:=fM h.sorted h1 (by omega);omega
   ·have:i=q - 1:=by omega
    rw [this];exact h0
 have hhi:∀ x∈o.drop q,a < x:=by
  intro x hx
  obtain ⟨i,hi,rfl⟩:=List.getElem_of_mem hx
  rw [List.length_drop] at hi
  rw [List.getElem_drop]
  have e:∀ j (hj:j < o.length),o[j]=o.getD j 0:=fun j hj=>by simp [List.getD,List.getElem?_eq_getElem hj]
  rw [e _ (by omega)]
  have h1:=hf q (Nat.le_refl _) (by omega)
  have h2:a < o.getD q 0:=by
   rcases hne with h3|h3
   ·omega
   ·omega
  rcases Nat.eq_zero_or_pos i with h3|h3
  ·subst h3;exact h2
  ·have:=fM h.sorted (show q < q+i by omega) (by omega);omega
 have hs:=h.sorted
 rw [← List.take_append_drop q o,List.pairwise_append] at hs
 refine ⟨?_,fun x=>?_⟩
 ·rw [List.append_assoc,List.pairwise_append]
  refine ⟨hs.1,?_,?_⟩
  ·rw [List.singleton_append,List.pairwise_cons]
   exact ⟨hhi,hs.2.1⟩
  ·intro x hx y hy
   rw [List.singleton_append,List.mem_cons] at hy
   rcases hy with rfl|hy
   ·exact hlow x hx
   ·have:=hlow x hx;have:=hhi y hy;omega
 ·rw [yG (d:=0) hk,← ha,List.mem_append (s:=l.take k),List.mem_singleton]
  have hx:=h.mem x
  rw [← List.take_append_drop q o,List.mem_append] at hx
  simp only [List.mem_append,List.mem_singleton]
  constructor
  ·rintro ((h1|h1)|h1)
   ·have:=hx.1 (.inl h1);exact ⟨.inl this.1,this.2⟩
   ·subst h1;exact ⟨.inr rfl,hm⟩
   ·have:=hx.1 (.inr h1);exact ⟨.inl this.1,this.2⟩
  ·rintro ⟨h1|h1,h2⟩
   ·rcases hx.2 ⟨h1,h2⟩ with h3|h3
    ·exact .inl (.inl h3)
    ·exact .inr h3
   ·exact .inl (.inr h1)
def qAE (l:List Nat) (a j:Nat):Prop:=∀ b∈l.take j,a=b∨a &&& b≠a
open Classical in
noncomputable def gB (l:List Nat) (a j:Nat):Bool:=decide (qAE l a j)
theorem iH {l:List Nat} {a j:Nat}:gB l a j=true ↔ qAE l a j:=by simp [gB]
theorem mostTo_succ {l:List Nat} {a j:Nat} (hj:j < l.length):gB l a (j+1)=(gB l a j && decide (a=l.getD j 0∨a &&& l.getD j 0≠a)):=by
 rw [Bool.eq_iff_iff,iH,Bool.and_eq_true,iH,decide_eq_true_eq]
 unfold qAE
 rw [yG (d:=0) hj]
 constructor
 ·intro h
  exact ⟨fun b hb=>h b (List.mem_append_left _ hb),h _ (by simp)⟩
 ·rintro ⟨h1,h2⟩ b hb
  rcases List.mem_append.1 hb with hb|hb
  ·exact h1 b hb
  ·simp only [List.mem_singleton] at hb;subst hb;exact h2
theorem mostTo_full {l:List Nat} {a:Nat}:gB l a l.length=true ↔ mE l a:=by
 rw [iH];simp only [qAE,List.take_length,mE]
theorem pE {l:List Nat} {i:Nat} (hi:i < l.length):l.getD i 0∈l:=by
 simp only [List.getD,List.getElem?_eq_getElem hi];exact List.getElem_mem hi
theorem bW {w:World} {base ob n sc q:Nat} {o:List Nat} (h:w.ownsRow base 3 1 (.slice (some ⟨ob,0,none⟩) n sc) n (nats o)) (hn:n=o.length) (hq:q≤n) :
  (∀ W,w.grownBy W none→Row w.heap.size W (.slice (some ⟨ob,0,none⟩) q sc) (nats (o.take q)))∧(∀ W,w.grownBy W none→Row w.heap.size W (.slice (some ⟨ob,q,none⟩) (n - q) (sc - q)) (nats (o.drop q)))∧n≤sc∧sc≤maxLen:=by
 subst hn
 rcases h.2 with ⟨h',_⟩|⟨g,cap,cur,h1,hb,hg,hnc,hcm,_⟩
 ·simp at h'
 simp only [Value.slice.injEq,Option.some.injEq,Addr.mk.injEq,and_true,true_and] at h1
 obtain ⟨rfl,rfl⟩:=h1
 have ha:=(Arr.of_owns h).row
 refine ⟨fun W hW=>.inr ⟨ob,0,sc,by simp [nats];omega,ha.1,by simp [nats];omega,hcm,?_⟩,fun W hW=>.inr ⟨ob,q,sc - q,by simp [nats],ha.1,by simp [nats];omega,by omega,?_⟩,hnc,hcm⟩
 ·have:=(ha.kept hW (by simp)).take q
  simpa [nats,List.map_take] using this
 ·have:=(ha.kept hW (by simp)).drop q
  rw [Nat.zero_add] at this
  simpa [nats,List.map_drop] using this
theorem cO {B:Nat} {w:World} {a:Option Addr} {c n:Nat} {xs:List Value} (hn:n=0) (hx:xs=[]):Row B w (.slice a n c) xs:=by
 subst hn;subst hx;exact .inl ⟨_,_,rfl,rfl⟩
def MaxRef (w:World) (l:List Nat) (n:Nat) (e:Ending) (w':World):Prop :=
 ∃ (sa:Option Addr) (sc:Nat),e=.returned (.slice sa (wT n l).length sc)∧w'.ownsRow w.heap.size 3 1 (.slice sa (wT n l).length sc) (wT n l).length (nats (wT n l))∧w.grownBy w' none
set_option maxRecDepth 100000 in
set_option maxHeartbeats 2000000 in
theorem iI (B:Nat) (w:World) (lv:Value) (l:List Nat) (n:Nat) (hn:n≤12) (hB:B≤w.heap.size) (hl:Row B w lv (nats l)) (hlt:∀ b∈l,b < 2 ^ n) :
  Calls Tryd.prog 62 #[lv] w (MaxRef w l n):=by
 have hlm:=hl.len_le
 rw [zN] at hlm
 unfold maxLen at hlm
 obtain ⟨la,lc,rfl⟩:=hl.shape
 rw [zN]
 obtain ⟨N,hN⟩:∃ N,N=2 ^ n:=⟨_,rfl⟩
 have hN4:N≤4096:=by have:=uR hn;omega
 have HN:=Kh hN;have HL:=Kh hl;have HLT:=Kh hlt
 clear hN hl hlt
 go_enter Tryd.func62,Tryd.ntmps62
 go_wp2
 go_loopg [3,12] l.length (fun g ov i wr=>∃ (k:Nat) (sa:Option Addr) (sc:Nat) (o:List Nat),g+k=l.length∧i=.int .i64 k∧ov=.slice sa o.length sc∧wr.ownsRow w.heap.size 3 1 (.slice sa o.length sc) o.length (nats o)∧Hid (o.length=0→sa=none∧sc=0)∧Hid (MaxSo l k o)∧w.grownBy wr none)
 case atStart=>exact ⟨0,none,0,[],rfl,rfl,rfl,World.ownsRow_nil _ _ _ _,Kh (fun _=>⟨rfl,rfl⟩),Kh ⟨by simp,by simp⟩,zW _ _⟩
 case round =>
  obtain ⟨k,sa,sc,o,hg,rfl,rfl,hown,hnil,hso,hgr⟩:=hrel
  have HG:=Kh hg;have HOWN:=Kh hown
  have hol:=hso.out.le HLT.out
  rw [← HN.out] at hol
  clear hg hown
  by_cases hk:k < l.length
  ·have hk':(k:Int) < l.length:=by omega
   obtain ⟨lb,lo,lcc,e,_,_,_,hra⟩:=HL.out.some_ (by rw [zN];omega)
   simp only [Value.slice.injEq] at e
   obtain ⟨rfl,-,-⟩:=e
   obtain ⟨lb',lo',lcc',e,_,_,_,hra⟩:=(HL.out.kept hgr (by simp)).some_ (by rw [zN];omega)
   simp only [Value.slice.injEq,Option.some.injEq,Addr.mk.injEq,and_true] at e
   obtain ⟨⟨rfl,rfl⟩,-,-⟩:=e
   have ck:=hra.nat k hk
   have hLR:=Kh hra
   obtain ⟨a,ha⟩:∃ a,a=l.getD k 0:=⟨_,rfl⟩
   have haN:a < N:=by rw [ha,HN.out];exact nQ HLT.out hk
   rw [← ha] at ck
   have HA:=Kh ha
   clear hra ha
   go_wp2
   go_loopg [6,18] l.length (fun g mv i wr'=>∃ (j:Nat) (c:Bool),g+j=l.length∧i=.int .i64 j∧mv=.bool c∧Hid (c=gB l a j)∧wr=wr')
   case atStart=>exact ⟨0,true,rfl,rfl,rfl,Kh (by simp [gB,qAE]),rfl⟩
   case round =>
    obtain ⟨j,c,hg,rfl,rfl,hc,rfl⟩:=hrel
    have HGJ:=Kh hg
    clear hg
    by_cases hj:j < l.length
    ·have hj':(j:Int) < l.length:=by omega
     have cj:=hLR.out.nat j hj
     obtain ⟨b,hb⟩:∃ b,b=l.getD j 0:=⟨_,rfl⟩
     have hbN:b < N:=by rw [hb,HN.out];exact nQ HLT.out hj
     rw [← hb] at cj
     have hst:Hid (gB l a (j+1)=(c && decide (a=b∨a &&& b≠a))):=Kh (by rw [mostTo_succ hj,hc.out,← hb])
     clear hb
     cases c
     ·go_wp2
      go_roundg (l.length - (j+1))
      case measure=>have:=HGJ.out;omega
      case rel=>exact ⟨j+1,false,by omega,by go_num,rfl,Kh (by rw [hst.out];rfl),rfl⟩
     ·by_cases hab:a=b
      ·have e1:((a:Int) == (b:Int))=true:=by rw [hab];simp
       have HAB:=Kh hab
       clear hab
       go_wp2
       go_roundg (l.length - (j+1))
       case measure=>have:=HGJ.out;omega
       case rel=>exact ⟨j+1,true,by omega,by go_num,rfl,Kh (by rw [hst.out];simp [HAB.out]),rfl⟩
      ·have e1:((a:Int) == (b:Int))=false:=by rw [beq_eq_false_iff_ne];omega
       have e4:bits .and .i64 (a:Int) (b:Int)=((a &&& b:Nat):Int):=tS a b (by omega) (by omega)
       obtain ⟨X,hX⟩:∃ X,X=a &&& b:=⟨_,rfl⟩
       rw [← hX] at e4
       by_cases hxa:X=a
       ·have e2:((X:Int) != (a:Int))=false:=by rw [hxa];simp
        have hf:Hid (decide (a=b∨a &&& b≠a)=false):=Kh (by rw [decide_eq_false_iff_not,← hX];omega)
        clear hxa hX hab
        go_wp2
        go_roundg (l.length - (j+1))
        case measure=>have:=HGJ.out;omega
        case rel=>exact ⟨j+1,false,by omega,by go_num,rfl,Kh (by rw [hst.out,hf.out];rfl),rfl⟩
       ·have e2:((X:Int) != (a:Int))=true:=by rw [bne_iff_ne];omega
        have hf:Hid (decide (a=b∨a &&& b≠a)=true):=Kh (by rw [decide_eq_true_eq,← hX];exact .inr hxa)
        clear hxa hX hab
        go_wp2
        go_roundg (l.length - (j+1))
        case measure=>have:=HGJ.out;omega
        case rel=>exact ⟨j+1,true,by omega,by go_num,rfl,Kh (by rw [hst.out,hf.out];rfl),rfl⟩
    ·have hmi:Hid (c=true ↔ mE l a):=by
      have hjl:j=l.length:=by have:=HGJ.out;omega
      have:=hc.out
      rw [hjl] at this
      rw [this]
      exact Kh mostTo_full
     clear hc
     go_upto_block 4 with fail
     go_cut [9] (fun s9 wx=>∃ q:Nat,s9=.int .i64 q∧q≤o.length∧Hid (FromQ o a q)∧Hid (q=0∨o.getD (q - 1) 0 < a)∧wr=wx)
     case first =>
      go_wp2_with fail
      go_loopg [9] (o.length+1) (fun g qv wr'=>∃ q:Nat,g=q+1∧qv=.int .i64 q∧q≤o.length∧Hid (FromQ o a q)∧wr=wr')
      case atStart=>exact ⟨o.length,rfl,rfl,Nat.le_refl _,Kh (fun i h1 h2=>by omega),rfl⟩
      case round =>
       obtain ⟨q,hg,rfl,hq,hfq,rfl⟩:=hrel
       have HGQ:=Kh hg
       clear hg
       by_cases hq0:0 < q
       ·obtain ⟨ob,rfl,hoc1,hoc2,harr⟩:=yK HOWN.out (by omega)
        have cq:=harr.nat (q - 1) (by omega)
        obtain ⟨y,hy⟩:∃ y,y=o.getD (q - 1) 0:=⟨_,rfl⟩
        rw [← hy] at cq
        have HY:=Kh hy
        have e3:((q:Int) - 1).toNat=q - 1:=by omega
        have hqi:(q:Int) - 1 < o.length:=by omega
        have hqj:0≤(q:Int) - 1:=by omega
        clear harr hy
        by_cases hge:a≤y
        ·go_wp2
         go_roundg q
         case measure=>have:=HGQ.out;omega
         case rel =>
          refine ⟨q - 1,by omega,by simp;omega,by omega,Kh (fun i h1 h2=>?_),rfl⟩
          rcases Nat.lt_or_ge i q with h3|h3
          ·have:i=q - 1:=by omega
           rw [this,← HY.out];omega
          ·exact hfq.out i h3 h2
        ·go_wp2
         go_meet
         exact ⟨q,rfl,hq,hfq,Kh (.inr (by rw [← HY.out];omega)),rfl⟩
       ·have hq0':(q:Int)≤0:=by omega
        go_wp2
        go_meet
        exact ⟨q,rfl,hq,hfq,Kh (.inl (by omega)),rfl⟩
     case rest =>
      obtain ⟨q,rfl,hq,hfq,hbk,rfl⟩:=hcut
      cases c
      ·have HSK:Hid (mE l a→a∈o):=Kh (fun h=>by have:=hmi.out.2 h;cases this)
       go_wp2
       go_roundg (l.length - (k+1))
       case measure=>have:=HG.out;omega
       case rel=>exact ⟨k+1,sa,sc,o,by omega,by go_num,rfl,HOWN.out,hnil,Kh (hso.out.skip hk (by rw [← HA.out];exact HSK.out)),hgr⟩
      ·have hmm:Hid (mE l a):=Kh (hmi.out.1 rfl)
       by_cases hql:q=o.length
       ·have e1:((q:Int) == (o.length:Int))=true:=by rw [hql];simp
        have hne:Hid (q=o.length∨o.getD q 0≠a):=Kh (.inl hql)
        by_cases ho0:o.length=0
        ·obtain ⟨rfl,rfl⟩:=hnil.out ho0
         have ho:o=[]:=List.eq_nil_of_length_eq_zero ho0
         subst ho
         have hq00:q=0:=by simpa using hql
         subst hq00
         clear hql ho0
         have HRA:Hid (∀ W,wr.grownBy W none→Row wr.heap.size W (.slice none 0 0) (nats (List.take 0 ([]:List Nat)))):=Kh (fun W _=>cO rfl rfl)
         have HRB:Hid (∀ W,wr.grownBy W none→Row wr.heap.size W (.slice none 0 0) (nats (List.drop 0 ([]:List Nat)))):=Kh (fun W _=>cO rfl rfl)
         have HR1:Hid (∀ W,wr.grownBy W none→Row wr.heap.size W (.slice none 0 0) (nats (List.take 0 ([]:List Nat)))):=HRA
         have HR2:Hid (∀ W,wr.grownBy W none→Row wr.heap.size W (.slice none 0 0) (nats (List.drop 0 ([]:List Nat)))):=HRB
         clear HRA HRB
         go_upto_region 15 with fail
         go_region_held3 (fun _=>True) (first|trivial|go_keep) (first|(refine xU rfl (.tmp 66) (.tmp 69) 22 rfl yC wr.heap.size (.slice (some ⟨wr.heap.size,0,none⟩) 0 0) 0 [] rfl ?g4 _ (nats (List.take 0 ([]:List Nat))) rfl ?g6 (uE _) 0 ?g8 ?g9 ?g10 ?g11 ?_;(case g4=>first|exact yQ (heap_alloc_new wr _) (Nat.le_refl _)|exact yQ (xS wr _ _) (Nat.le_refl _)|exact yQ (xQ wr _ _) (Nat.le_succ _));(case g6=>first|exact ⟨_,HR1.out _ (zP (Ga wr _ none) rfl rfl rfl rfl)⟩|exact ⟨_,HR1.out _ (zP (yA (Ga wr _ none) _) rfl rfl rfl rfl)⟩);(case g8=>(simp [nats] <;> omega));(case g9=>(unfold maxLen;omega));(case g10=>omega);(case g11=>first|omega|(simp <;> omega));intro s1 c1 w7 hown7 hg7;rw [List.nil_append] at hown7;(have hG7:wr.grownBy w7 none:=by refine zG ?_ hg7 (by simp [Value.ownBlock]);first|exact zP (Ga wr _ none) rfl rfl rfl rfl|exact zP (yA (Ga wr _ none) _) rfl rfl rfl rfl);(try have hb7:=zE (wF (xS wr (.cells #[.int .i64 (a:Int)] 3) _)) hg7 (by simp [Value.ownBlock]));(try have hb7:=zE (wF (xQ wr _ (.cells #[.int .i64 (a:Int)] 3))) hg7 (by simp [Value.ownBlock])))|(refine xU rfl (.tmp 66) (.tmp 69) 22 rfl yC wr.heap.size (.slice (some ⟨wr.heap.size+1,0,none⟩) 0 0) 0 [] rfl ?g4 _ (nats (List.take 0 ([]:List Nat))) rfl ?g6 (uE _) 0 ?g8 ?g9 ?g10 ?g11 ?_;(case g4=>first|exact yQ (heap_alloc_new wr _) (Nat.le_refl _)|exact yQ (xS wr _ _) (Nat.le_refl _)|exact yQ (xQ wr _ _) (Nat.le_succ _));(case g6=>first|exact ⟨_,HR1.out _ (zP (Ga wr _ none) rfl rfl rfl rfl)⟩|exact ⟨_,HR1.out _ (zP (yA (Ga wr _ none) _) rfl rfl rfl rfl)⟩);(case g8=>(simp [nats] <;> omega));(case g9=>(unfold maxLen;omega));(case g10=>omega);(case g11=>first|omega|(simp <;> omega));intro s1 c1 w7 hown7 hg7;rw [List.nil_append] at hown7;(have hG7:wr.grownBy w7 none:=by refine zG ?_ hg7 (by simp [Value.ownBlock]);first|exact zP (Ga wr _ none) rfl rfl rfl rfl|exact zP (yA (Ga wr _ none) _) rfl rfl rfl rfl);(try have hb7:=zE (wF (xS wr (.cells #[.int .i64 (a:Int)] 3) _)) hg7 (by simp [Value.ownBlock]));(try have hb7:=zE (wF (xQ wr _ (.cells #[.int .i64 (a:Int)] 3))) hg7 (by simp [Value.ownBlock])))|(refine xU rfl (.tmp 70) (.tmp 72) 22 rfl yC wr.heap.size (.slice s1 0 c1) 0 (nats (List.take 0 ([]:List Nat))) rfl ?h4 _ [.int .i64 (a:Int)] rfl ?h6 ?h7 (0+1) ?h8 ?h9 ?h10 ?h11 ?_;(case h4=>first|exact hown7|exact hown7.alloc _);(case h6=>first|exact ⟨_,mM hb7⟩|exact ⟨_,mM (heap_alloc_new w7 _)⟩);(case h7=>(intro u hu;simp at hu;subst hu;rfl));(case h8=>first|rfl|simp);(case h9=>(unfold maxLen;omega));(case h10=>omega);(case h11=>(have:=hG7.size;first|omega|(simp <;> omega)));intro s2 c2 w8 hown8 hg8;(have hG8:wr.grownBy w8 none:=zG (by first|exact hG7|exact yA hG7 _) hg8 (fun x e=>(hown7.lt x e).1)))|(refine xU rfl (.tmp 73) (.tmp 76) 22 rfl yC wr.heap.size (.slice s2 (0+1) c2) (0+1) (nats (List.take 0 ([]:List Nat)) ++ [.int .i64 (a:Int)]) rfl ?i4 _ (nats (List.drop 0 ([]:List Nat))) rfl ?i6 (uE _) (0+1) ?i8 ?i9 ?i10 ?i11 ?_;(case i4=>exact hown8);(case i6=>exact ⟨_,HR2.out _ hG8⟩);(case i8=>(simp [nats] <;> omega));(case i9=>(unfold maxLen;omega));(case i10=>omega);(case i11=>exact hG8.size);intro s3 c3 w9 hown9 hg9;(have hG9:wr.grownBy w9 none:=zG hG8 hg9 (fun x e=>(hown8.lt x e).1)))|fail)
         all_goals
          have HO9:Hid (w9.ownsRow wr.heap.size 3 1 (.slice s3 (0+1) c3) (0+1) (nats (List.take 0 ([]:List Nat) ++ [a] ++ List.drop 0 ([]:List Nat)))):=by
           have h1:=hown9
           rw [rD,wE]
           exact Kh h1
          have HG9:=Kh hG9
          clear hown7 hg7 hG7 hown8 hg8 hG8 hown9 hg9 hG9 HR1 HR2
          (try clear hb7)
          go_wp2
          go_roundg (l.length - (k+1))
          case measure=>have:=HG.out;omega
          case rel =>
           have hlen:(List.take 0 ([]:List Nat) ++ [a] ++ List.drop 0 ([]:List Nat)).length=0+1:=by simp <;> omega
           refine ⟨k+1,s3,c3,List.take 0 ([]:List Nat) ++ [a] ++ List.drop 0 ([]:List Nat),by omega,by go_num,by rw [hlen],?_,Kh (fun h=>by omega),Kh ?_,zF hgr HG9.out⟩
           ·rw [hlen];exact yJ HO9.out hgr.size
           ·have:=hso.out.insert hk (by rw [← HA.out];exact hmm.out) hq (by rw [← HA.out];exact hfq.out) (.inl rfl) (by rw [← HA.out];exact hne.out)
            rw [← HA.out] at this
            exact this
        ·obtain ⟨ob,rfl,hoc1,hoc2,harr⟩:=yK HOWN.out (by omega)
         have hsl:=Kh (bW (q:=q) HOWN.out rfl hq)
         have hnc:=hsl.out.2.2.1
         have hscm:=hsl.out.2.2.2
         unfold maxLen at hscm
         have hqc:(q:Int)≤sc:=by omega
         have hq0n:0≤(q:Int):=by omega
         have hqn:(q:Int)≤o.length:=by omega
         clear harr hql
         by_cases hcq:sc=q
         ·subst sc
          have HRA:=Kh hsl.out.1
          have HRB:Hid (∀ W,wr.grownBy W none→Row wr.heap.size W (.slice (some ⟨ob,0,none⟩) 0 0) (nats (o.drop q))):=Kh (fun W _=>cO rfl (by rw [List.drop_eq_nil_of_le (by omega)];rfl))
          clear hsl
          have HR1:Hid (∀ W,wr.grownBy W none→Row wr.heap.size W (.slice (some ⟨ob,0,none⟩) q q) (nats (o.take q))):=HRA
          have HR2:Hid (∀ W,wr.grownBy W none→Row wr.heap.size W (.slice (some ⟨ob,0,none⟩) 0 0) (nats (o.drop q))):=HRB
          clear HRA HRB
          go_upto_region 15 with fail
          go_region_held3 (fun _=>True) (first|trivial|go_keep) (first|(refine xU rfl (.tmp 66) (.tmp 69) 22 rfl yC wr.heap.size (.slice (some ⟨wr.heap.size,0,none⟩) 0 0) 0 [] rfl ?g4 _ (nats (o.take q)) rfl ?g6 (uE _) q ?g8 ?g9 ?g10 ?g11 ?_;(case g4=>first|exact yQ (heap_alloc_new wr _) (Nat.le_refl _)|exact yQ (xS wr _ _) (Nat.le_refl _)|exact yQ (xQ wr _ _) (Nat.le_succ _));(case g6=>first|exact ⟨_,HR1.out _ (zP (Ga wr _ none) rfl rfl rfl rfl)⟩|exact ⟨_,HR1.out _ (zP (yA (Ga wr _ none) _) rfl rfl rfl rfl)⟩);(case g8=>(simp [nats] <;> omega));(case g9=>(unfold maxLen;omega));(case g10=>omega);(case g11=>first|omega|(simp <;> omega));intro s1 c1 w7 hown7 hg7;rw [List.nil_append] at hown7;(have hG7:wr.grownBy w7 none:=by refine zG ?_ hg7 (by simp [Value.ownBlock]);first|exact zP (Ga wr _ none) rfl rfl rfl rfl|exact zP (yA (Ga wr _ none) _) rfl rfl rfl rfl);(try have hb7:=zE (wF (xS wr (.cells #[.int .i64 (a:Int)] 3) _)) hg7 (by simp [Value.ownBlock]));(try have hb7:=zE (wF (xQ wr _ (.cells #[.int .i64 (a:Int)] 3))) hg7 (by simp [Value.ownBlock])))|(refine xU rfl (.tmp 66) (.tmp 69) 22 rfl yC wr.heap.size (.slice (some ⟨wr.heap.size+1,0,none⟩) 0 0) 0 [] rfl ?g4 _ (nats (o.take q)) rfl ?g6 (uE _) q ?g8 ?g9 ?g10 ?g11 ?_;(case g4=>first|exact yQ (heap_alloc_new wr _) (Nat.le_refl _)|exact yQ (xS wr _ _) (Nat.le_refl _)|exact yQ (xQ wr _ _) (Nat.le_succ _));(case g6=>first|exact ⟨_,HR1.out _ (zP (Ga wr _ none) rfl rfl rfl rfl)⟩|exact ⟨_,HR1.out _ (zP (yA (Ga wr _ none) _) rfl rfl rfl rfl)⟩);(case g8=>(simp [nats] <;> omega));(case g9=>(unfold maxLen;omega));(case g10=>omega);(case g11=>first|omega|(simp <;> omega));intro s1 c1 w7 hown7 hg7;rw [List.nil_append] at hown7;(have hG7:wr.grownBy w7 none:=by refine zG ?_ hg7 (by simp [Value.ownBlock]);first|exact zP (Ga wr _ none) rfl rfl rfl rfl|exact zP (yA (Ga wr _ none) _) rfl rfl rfl rfl);(try have hb7:=zE (wF (xS wr (.cells #[.int .i64 (a:Int)] 3) _)) hg7 (by simp [Value.ownBlock]));(try have hb7:=zE (wF (xQ wr _ (.cells #[.int .i64 (a:Int)] 3))) hg7 (by simp [Value.ownBlock])))|(refine xU rfl (.tmp 70) (.tmp 72) 22 rfl yC wr.heap.size (.slice s1 q c1) q (nats (o.take q)) rfl ?h4 _ [.int .i64 (a:Int)] rfl ?h6 ?h7 (q+1) ?h8 ?h9 ?h10 ?h11 ?_;(case h4=>first|exact hown7|exact hown7.alloc _);(case h6=>first|exact ⟨_,mM hb7⟩|exact ⟨_,mM (heap_alloc_new w7 _)⟩);(case h7=>(intro u hu;simp at hu;subst hu;rfl));(case h8=>first|rfl|simp);(case h9=>(unfold maxLen;omega));(case h10=>omega);(case h11=>(have:=hG7.size;first|omega|(simp <;> omega)));intro s2 c2 w8 hown8 hg8;(have hG8:wr.grownBy w8 none:=zG (by first|exact hG7|exact yA hG7 _) hg8 (fun x e=>(hown7.lt x e).1)))|(refine xU rfl (.tmp 73) (.tmp 76) 22 rfl yC wr.heap.size (.slice s2 (q+1) c2) (q+1) (nats (o.take q) ++ [.int .i64 (a:Int)]) rfl ?i4 _ (nats (o.drop q)) rfl ?i6 (uE _) (o.length+1) ?i8 ?i9 ?i10 ?i11 ?_;(case i4=>exact hown8);(case i6=>exact ⟨_,HR2.out _ hG8⟩);(case i8=>(simp [nats] <;> omega));(case i9=>(unfold maxLen;omega));(case i10=>omega);(case i11=>exact hG8.size);intro s3 c3 w9 hown9 hg9;(have hG9:wr.grownBy w9 none:=zG hG8 hg9 (fun x e=>(hown8.lt x e).1)))|fail)
          all_goals
           have HO9:Hid (w9.ownsRow wr.heap.size 3 1 (.slice s3 (o.length+1) c3) (o.length+1) (nats (o.take q ++ [a] ++ o.drop q))):=by
            have h1:=hown9
            rw [rD,wE]
            exact Kh h1
           have HG9:=Kh hG9
           clear hown7 hg7 hG7 hown8 hg8 hG8 hown9 hg9 hG9 HR1 HR2
           (try clear hb7)
           go_wp2
           go_roundg (l.length - (k+1))
           case measure=>have:=HG.out;omega
           case rel =>
            have hlen:(o.take q ++ [a] ++ o.drop q).length=o.length+1:=by simp <;> omega
            refine ⟨k+1,s3,c3,o.take q ++ [a] ++ o.drop q,by omega,by go_num,by rw [hlen],?_,Kh (fun h=>by omega),Kh ?_,zF hgr HG9.out⟩
            ·rw [hlen];exact yJ HO9.out hgr.size
            ·have:=hso.out.insert hk (by rw [← HA.out];exact hmm.out) hq (by rw [← HA.out];exact hfq.out) (by rw [← HA.out];exact hbk.out) (by rw [← HA.out];exact hne.out)
             rw [← HA.out] at this
             exact this
         ·have HRA:=Kh hsl.out.1
          have HRB:=Kh hsl.out.2.1
          clear hsl
          have HR1:Hid (∀ W,wr.grownBy W none→Row wr.heap.size W (.slice (some ⟨ob,0,none⟩) q sc) (nats (o.take q))):=HRA
          have HR2:Hid (∀ W,wr.grownBy W none→Row wr.heap.size W (.slice (some ⟨ob,q,none⟩) (o.length - q) (sc - q)) (nats (o.drop q))):=HRB
          clear HRA HRB
          go_upto_region 15 with fail
          go_region_held3 (fun _=>True) (first|trivial|go_keep) (first|(refine xU rfl (.tmp 66) (.tmp 69) 22 rfl yC wr.heap.size (.slice (some ⟨wr.heap.size,0,none⟩) 0 0) 0 [] rfl ?g4 _ (nats (o.take q)) rfl ?g6 (uE _) q ?g8 ?g9 ?g10 ?g11 ?_;(case g4=>first|exact yQ (heap_alloc_new wr _) (Nat.le_refl _)|exact yQ (xS wr _ _) (Nat.le_refl _)|exact yQ (xQ wr _ _) (Nat.le_succ _));(case g6=>first|exact ⟨_,HR1.out _ (zP (Ga wr _ none) rfl rfl rfl rfl)⟩|exact ⟨_,HR1.out _ (zP (yA (Ga wr _ none) _) rfl rfl rfl rfl)⟩);(case g8=>(simp [nats] <;> omega));(case g9=>(unfold maxLen;omega));(case g10=>omega);(case g11=>first|omega|(simp <;> omega));intro s1 c1 w7 hown7 hg7;rw [List.nil_append] at hown7;(have hG7:wr.grownBy w7 none:=by refine zG ?_ hg7 (by simp [Value.ownBlock]);first|exact zP (Ga wr _ none) rfl rfl rfl rfl|exact zP (yA (Ga wr _ none) _) rfl rfl rfl rfl);(try have hb7:=zE (wF (xS wr (.cells #[.int .i64 (a:Int)] 3) _)) hg7 (by simp [Value.ownBlock]));(try have hb7:=zE (wF (xQ wr _ (.cells #[.int .i64 (a:Int)] 3))) hg7 (by simp [Value.ownBlock])))|(refine xU rfl (.tmp 66) (.tmp 69) 22 rfl yC wr.heap.size (.slice (some ⟨wr.heap.size+1,0,none⟩) 0 0) 0 [] rfl ?g4 _ (nats (o.take q)) rfl ?g6 (uE _) q ?g8 ?g9 ?g10 ?g11 ?_;(case g4=>first|exact yQ (heap_alloc_new wr _) (Nat.le_refl _)|exact yQ (xS wr _ _) (Nat.le_refl _)|exact yQ (xQ wr _ _) (Nat.le_succ _));(case g6=>first|exact ⟨_,HR1.out _ (zP (Ga wr _ none) rfl rfl rfl rfl)⟩|exact ⟨_,HR1.out _ (zP (yA (Ga wr _ none) _) rfl rfl rfl rfl)⟩);(case g8=>(simp [nats] <;> omega));(case g9=>(unfold maxLen;omega));(case g10=>omega);(case g11=>first|omega|(simp <;> omega));intro s1 c1 w7 hown7 hg7;rw [List.nil_append] at hown7;(have hG7:wr.grownBy w7 none:=by refine zG ?_ hg7 (by simp [Value.ownBlock]);first|exact zP (Ga wr _ none) rfl rfl rfl rfl|exact zP (yA (Ga wr _ none) _) rfl rfl rfl rfl);(try have hb7:=zE (wF (xS wr (.cells #[.int .i64 (a:Int)] 3) _)) hg7 (by simp [Value.ownBlock]));(try have hb7:=zE (wF (xQ wr _ (.cells #[.int .i64 (a:Int)] 3))) hg7 (by simp [Value.ownBlock])))|(refine xU rfl (.tmp 70) (.tmp 72) 22 rfl yC wr.heap.size (.slice s1 q c1) q (nats (o.take q)) rfl ?h4 _ [.int .i64 (a:Int)] rfl ?h6 ?h7 (q+1) ?h8 ?h9 ?h10 ?h11 ?_;(case h4=>first|exact hown7|exact hown7.alloc _);(case h6=>first|exact ⟨_,mM hb7⟩|exact ⟨_,mM (heap_alloc_new w7 _)⟩);(case h7=>(intro u hu;simp at hu;subst hu;rfl));(case h8=>first|rfl|simp);(case h9=>(unfold maxLen;omega));(case h10=>omega);(case h11=>(have:=hG7.size;first|omega|(simp <;> omega)));intro s2 c2 w8 hown8 hg8;(have hG8:wr.grownBy w8 none:=zG (by first|exact hG7|exact yA hG7 _) hg8 (fun x e=>(hown7.lt x e).1)))|(refine xU rfl (.tmp 73) (.tmp 76) 22 rfl yC wr.heap.size (.slice s2 (q+1) c2) (q+1) (nats (o.take q) ++ [.int .i64 (a:Int)]) rfl ?i4 _ (nats (o.drop q)) rfl ?i6 (uE _) (o.length+1) ?i8 ?i9 ?i10 ?i11 ?_;(case i4=>exact hown8);(case i6=>exact ⟨_,HR2.out _ hG8⟩);(case i8=>(simp [nats] <;> omega));(case i9=>(unfold maxLen;omega));(case i10=>omega);(case i11=>exact hG8.size);intro s3 c3 w9 hown9 hg9;(have hG9:wr.grownBy w9 none:=zG hG8 hg9 (fun x e=>(hown8.lt x e).1)))|fail)
          all_goals
           have HO9:Hid (w9.ownsRow wr.heap.size 3 1 (.slice s3 (o.length+1) c3) (o.length+1) (nats (o.take q ++ [a] ++ o.drop q))):=by
            have h1:=hown9
            rw [rD,wE]
            exact Kh h1
           have HG9:=Kh hG9
           clear hown7 hg7 hG7 hown8 hg8 hG8 hown9 hg9 hG9 HR1 HR2
           (try clear hb7)
           go_wp2
           go_roundg (l.length - (k+1))
           case measure=>have:=HG.out;omega
           case rel =>
            have hlen:(o.take q ++ [a] ++ o.drop q).length=o.length+1:=by simp <;> omega
            refine ⟨k+1,s3,c3,o.take q ++ [a] ++ o.drop q,by omega,by go_num,by rw [hlen],?_,Kh (fun h=>by omega),Kh ?_,zF hgr HG9.out⟩
            ·rw [hlen];exact yJ HO9.out hgr.size
            ·have:=hso.out.insert hk (by rw [← HA.out];exact hmm.out) hq (by rw [← HA.out];exact hfq.out) (by rw [← HA.out];exact hbk.out) (by rw [← HA.out];exact hne.out)
             rw [← HA.out] at this
             exact this
       ·have e1:((q:Int) == (o.length:Int))=false:=by rw [beq_eq_false_iff_ne];omega
        obtain ⟨ob,rfl,hoc1,hoc2,harr⟩:=yK HOWN.out (by omega)
        have cq2:=harr.nat q (by omega)
        obtain ⟨y2,hy2⟩:∃ y,y=o.getD q 0:=⟨_,rfl⟩
        rw [← hy2] at cq2
        have hq':(q:Int) < o.length:=by omega
        by_cases hya:y2=a
        ·have e2:((y2:Int) != (a:Int))=false:=by rw [hya];simp
         have HSK:Hid (mE l a→a∈o):=Kh (fun _=>by rw [← hya,hy2];exact pE (by omega))
         clear harr hy2 hya
         go_wp2
         go_roundg (l.length - (k+1))
         case measure=>have:=HG.out;omega
         case rel=>exact ⟨k+1,some ⟨ob,0,none⟩,sc,o,by omega,by go_num,rfl,HOWN.out,hnil,Kh (hso.out.skip hk (by rw [← HA.out];exact HSK.out)),hgr⟩
        ·have e2:((y2:Int) != (a:Int))=true:=by rw [bne_iff_ne];omega
         have hne:Hid (q=o.length∨o.getD q 0≠a):=Kh (.inr (by rw [← hy2];exact hya))
         clear harr hy2 hya
         have hsl:=Kh (bW (q:=q) HOWN.out rfl hq)
         have hnc:=hsl.out.2.2.1
         have hscm:=hsl.out.2.2.2
         unfold maxLen at hscm
         have hqc:(q:Int)≤sc:=by omega
         have hq0n:0≤(q:Int):=by omega
         have hqn:(q:Int)≤o.length:=by omega
         have hcq:¬ sc=q:=by omega
         have HRA:=Kh hsl.out.1
         have HRB:=Kh hsl.out.2.1
         clear hsl hql
         have HR1:Hid (∀ W,wr.grownBy W none→Row wr.heap.size W (.slice (some ⟨ob,0,none⟩) q sc) (nats (o.take q))):=HRA
         have HR2:Hid (∀ W,wr.grownBy W none→Row wr.heap.size W (.slice (some ⟨ob,q,none⟩) (o.length - q) (sc - q)) (nats (o.drop q))):=HRB
         clear HRA HRB
         go_upto_region 15 with fail
         go_region_held3 (fun _=>True) (first|trivial|go_keep) (first|(refine xU rfl (.tmp 66) (.tmp 69) 22 rfl yC wr.heap.size (.slice (some ⟨wr.heap.size,0,none⟩) 0 0) 0 [] rfl ?g4 _ (nats (o.take q)) rfl ?g6 (uE _) q ?g8 ?g9 ?g10 ?g11 ?_;(case g4=>first|exact yQ (heap_alloc_new wr _) (Nat.le_refl _)|exact yQ (xS wr _ _) (Nat.le_refl _)|exact yQ (xQ wr _ _) (Nat.le_succ _));(case g6=>first|exact ⟨_,HR1.out _ (zP (Ga wr _ none) rfl rfl rfl rfl)⟩|exact ⟨_,HR1.out _ (zP (yA (Ga wr _ none) _) rfl rfl rfl rfl)⟩);(case g8=>(simp [nats] <;> omega));(case g9=>(unfold maxLen;omega));(case g10=>omega);(case g11=>first|omega|(simp <;> omega));intro s1 c1 w7 hown7 hg7;rw [List.nil_append] at hown7;(have hG7:wr.grownBy w7 none:=by refine zG ?_ hg7 (by simp [Value.ownBlock]);first|exact zP (Ga wr _ none) rfl rfl rfl rfl|exact zP (yA (Ga wr _ none) _) rfl rfl rfl rfl);(try have hb7:=zE (wF (xS wr (.cells #[.int .i64 (a:Int)] 3) _)) hg7 (by simp [Value.ownBlock]));(try have hb7:=zE (wF (xQ wr _ (.cells #[.int .i64 (a:Int)] 3))) hg7 (by simp [Value.ownBlock])))|(refine xU rfl (.tmp 66) (.tmp 69) 22 rfl yC wr.heap.size (.slice (some ⟨wr.heap.size+1,0,none⟩) 0 0) 0 [] rfl ?g4 _ (nats (o.take q)) rfl ?g6 (uE _) q ?g8 ?g9 ?g10 ?g11 ?_;(case g4=>first|exact yQ (heap_alloc_new wr _) (Nat.le_refl _)|exact yQ (xS wr _ _) (Nat.le_refl _)|exact yQ (xQ wr _ _) (Nat.le_succ _));(case g6=>first|exact ⟨_,HR1.out _ (zP (Ga wr _ none) rfl rfl rfl rfl)⟩|exact ⟨_,HR1.out _ (zP (yA (Ga wr _ none) _) rfl rfl rfl rfl)⟩);(case g8=>(simp [nats] <;> omega));(case g9=>(unfold maxLen;omega));(case g10=>omega);(case g11=>first|omega|(simp <;> omega));intro s1 c1 w7 hown7 hg7;rw [List.nil_append] at hown7;(have hG7:wr.grownBy w7 none:=by refine zG ?_ hg7 (by simp [Value.ownBlock]);first|exact zP (Ga wr _ none) rfl rfl rfl rfl|exact zP (yA (Ga wr _ none) _) rfl rfl rfl rfl);(try have hb7:=zE (wF (xS wr (.cells #[.int .i64 (a:Int)] 3) _)) hg7 (by simp [Value.ownBlock]));(try have hb7:=zE (wF (xQ wr _ (.cells #[.int .i64 (a:Int)] 3))) hg7 (by simp [Value.ownBlock])))|(refine xU rfl (.tmp 70) (.tmp 72) 22 rfl yC wr.heap.size (.slice s1 q c1) q (nats (o.take q)) rfl ?h4 _ [.int .i64 (a:Int)] rfl ?h6 ?h7 (q+1) ?h8 ?h9 ?h10 ?h11 ?_;(case h4=>first|exact hown7|exact hown7.alloc _);(case h6=>first|exact ⟨_,mM hb7⟩|exact ⟨_,mM (heap_alloc_new w7 _)⟩);(case h7=>(intro u hu;simp at hu;subst hu;rfl));(case h8=>first|rfl|simp);(case h9=>(unfold maxLen;omega));(case h10=>omega);(case h11=>(have:=hG7.size;first|omega|(simp <;> omega)));intro s2 c2 w8 hown8 hg8;(have hG8:wr.grownBy w8 none:=zG (by first|exact hG7|exact yA hG7 _) hg8 (fun x e=>(hown7.lt x e).1)))|(refine xU rfl (.tmp 73) (.tmp 76) 22 rfl yC wr.heap.size (.slice s2 (q+1) c2) (q+1) (nats (o.take q) ++ [.int .i64 (a:Int)]) rfl ?i4 _ (nats (o.drop q)) rfl ?i6 (uE _) (o.length+1) ?i8 ?i9 ?i10 ?i11 ?_;(case i4=>exact hown8);(case i6=>exact ⟨_,HR2.out _ hG8⟩);(case i8=>(simp [nats] <;> omega));(case i9=>(unfold maxLen;omega));(case i10=>omega);(case i11=>exact hG8.size);intro s3 c3 w9 hown9 hg9;(have hG9:wr.grownBy w9 none:=zG hG8 hg9 (fun x e=>(hown8.lt x e).1)))|fail)
         all_goals
          have HO9:Hid (w9.ownsRow wr.heap.size 3 1 (.slice s3 (o.length+1) c3) (o.length+1) (nats (o.take q ++ [a] ++ o.drop q))):=by
           have h1:=hown9
           rw [rD,wE]
           exact Kh h1
          have HG9:=Kh hG9
          clear hown7 hg7 hG7 hown8 hg8 hG8 hown9 hg9 hG9 HR1 HR2
          (try clear hb7)
          go_wp2
          go_roundg (l.length - (k+1))
          case measure=>have:=HG.out;omega
          case rel =>
           have hlen:(o.take q ++ [a] ++ o.drop q).length=o.length+1:=by simp <;> omega
           refine ⟨k+1,s3,c3,o.take q ++ [a] ++ o.drop q,by omega,by go_num,by rw [hlen],?_,Kh (fun h=>by omega),Kh ?_,zF hgr HG9.out⟩
           ·rw [hlen];exact yJ HO9.out hgr.size
           ·have:=hso.out.insert hk (by rw [← HA.out];exact hmm.out) hq (by rw [← HA.out];exact hfq.out) (by rw [← HA.out];exact hbk.out) (by rw [← HA.out];exact hne.out)
            rw [← HA.out] at this
            exact this
  ·have hfin:Hid (o=wT n l):=by
    have hkl:k=l.length:=by have:=HG.out;omega
    have h1:=hso.out
    rw [hkl] at h1
    exact Kh (eq_maxOf HLT.out h1.sorted (fun a=>by rw [h1.mem a,List.take_length]))
   go_wp2
   go_ret
   refine ⟨sa,sc,by rw [← hfin.out];rfl,?_,hgr⟩
   rw [← hfin.out]
   exact HOWN.out
def nM (n:Nat) (l:List Nat) (k:Nat):List Nat:=(List.range k).filter fun s=>xV l s && topB n l s
theorem maxTo_full (n:Nat) (l:List Nat):nM n l (2 ^ n)=wT n l:=rfl
theorem iJ (n:Nat) (l:List Nat) (k:Nat):nM n l (k+1)=nM n l k ++ (if xV l k && topB n l k then [k] else []):=by
 rw [nM,List.range_succ,List.filter_append]
 congr 1
 simp only [List.filter_cons,List.filter_nil]
theorem qBN (n:Nat) (l:List Nat) (k:Nat):(nM n l k).length≤k:=by
 have:=List.length_filter_le (fun s=>xV l s && topB n l s) (List.range k)
 rw [List.length_range] at this
 exact this
def qCE (l:List Nat) (s x:Nat):Bool:=(List.range x).all fun x=>s.testBit x || !xV l (s ||| 1 <<< x)
theorem dJ (l:List Nat) (s x:Nat):qCE l s (x+1)=(qCE l s x && (s.testBit x || !xV l (s ||| 1 <<< x))):=by
 simp only [qCE,List.range_succ,List.all_append,List.all_cons,List.all_nil,Bool.and_true]
def Maxed (w:World) (n:Nat) (l:List Nat) (e:Ending) (w':World):Prop:=∃ (sa:Option Addr) (sc:Nat),e=.returned (.slice sa (wT n l).length sc)∧w'.ownsRow w.heap.size 3 1 (.slice sa (wT n l).length sc) (wT n l).length (nats (wT n l))∧w.grownBy w' none
set_option maxRecDepth 100000 in
set_option maxHeartbeats 1000000 in
theorem kL (F C:Nat) (w:World) (p go n:Nat) (tb:Nat→Nat→Nat) (lv:Value) (B:Nat) (l:List Nat) (h:vD F C w p go n tb) (hn:n≤12) (hl:Row B w lv (nats l)) (hlt:∀ b∈l,b < 2 ^ n) (hB:B≤w.heap.size) :
  Calls Tryd.prog 59 #[.pointer (some ⟨p,0,none⟩),lv] w (Maxed w n l):=by
 obtain ⟨N,hN⟩:∃ N,N=2 ^ n:=⟨_,rfl⟩
 have hN4:N≤4096:=by have:=uR hn;omega
 have HN:=Kh hN;have H:=Kh h
 have HI:=Kh (inside_any F C w p go n tb lv B l h hn hl hlt hB)
 have HLT:=Kh hlt
 clear h hl hlt hN
 go_enter Tryd.func59,Tryd.ntmps59
 go_wp2_with fail
 refine HI.out.mono ?_
 rintro e w1 ⟨rfl,ha1,hg1⟩
 rw [← HN.out] at ha1 ⊢
 have HA1:=Kh ha1
 clear ha1 HI
 have hz1:=HA1.out.lt
 go_wp2
 go_loopg [6,15] N (fun g kv i wr=>∃ (k:Nat) (sa:Option Addr) (sc:Nat),g+k=N∧i=.int .i64 k∧kv=.slice sa (nM n l k).length sc∧wr.ownsRow w1.heap.size 3 1 (.slice sa (nM n l k).length sc) (nM n l k).length (nats (nM n l k))∧Arr wr w.heap.size 4 (bls (rK N l))∧w.grownBy wr none∧w1.heap.size≤wr.heap.size)
 case atStart=>exact ⟨0,none,0,rfl,rfl,rfl,World.ownsRow_nil _ _ _ _,HA1.out,hg1,Nat.le_refl _⟩
 case round =>
  clear HA1 hg1
  obtain ⟨s,sa,sc,hg,rfl,rfl,hown,harr,hgr,hsz⟩:=hrel
  have HG:=Kh hg;have HARR:=Kh harr;have HOWN:=Kh hown
  have hml:=qBN n l s
  obtain ⟨L,hL⟩:∃ L,L=(nM n l s).length:=⟨_,rfl⟩
  rw [← hL] at HOWN hml ⊢
  have HL:=Kh hL
  clear hg harr hown hL
  by_cases hs:s < N
  ·have hsN:(s:Int) < N:=by omega
   have hs63:s < 9223372036854775808:=by omega
   have cs:=HARR.out.bool s (by rw [mJ];exact hs)
   rw [iX hs] at cs
   have c0:=(H.out.kept hgr (by simp)).c0
   cases hu:xV l s
   ·rw [hu] at cs
    have HU:=Kh hu
    clear hu
    go_wp2
    go_roundg (N - (s+1))
    case measure=>have:=HG.out;omega
    case rel =>
     have hmt:nM n l (s+1)=nM n l s:=by rw [iJ,HU.out];simp
     refine ⟨s+1,sa,sc,by omega,by go_num,by rw [hmt,HL.out],?_,HARR.out,hgr,hsz⟩
     rw [hmt,← HL.out];exact HOWN.out
   ·rw [hu] at cs
    have HU:=Kh hu
    clear hu
    go_wp2
    go_loopg [8,27] n (fun g gv i wr'=>∃ (x:Nat) (c:Bool),g+x=n∧i=.int .i64 x∧gv=.bool c∧Hid (c=qCE l s x)∧wr=wr')
    case atStart=>exact ⟨0,true,rfl,rfl,rfl,Kh rfl,rfl⟩
    case round =>
     obtain ⟨x,c,hgx,rfl,rfl,hc,rfl⟩:=hrel
     have HGX:=Kh hgx
     clear hgx
     by_cases hx:x < n
     ·cases hbit:s.testBit x
      ·have hb:=fE hs63 hbit
       have hsx:=qE (m:=x) (by omega)
       have hlt:=fR (show s < 2 ^ n by rw [← HN.out];omega) hx
       rw [Nat.one_shiftLeft,← HN.out] at hlt
       obtain ⟨M,hM⟩:∃ M,M=2 ^ x:=⟨_,rfl⟩
       rw [← hM] at hsx hlt
       have hM4:M≤4096:=by rw [hM];have:=uR (show x≤12 by omega);omega
       have e4:bits .or .i64 (s:Int) (M:Int)=((s ||| M:Nat):Int):=rG s M (by omega) (by omega)
       obtain ⟨S2,hS⟩:∃ S2,S2=s ||| M:=⟨_,rfl⟩
       rw [← hS] at e4 hlt
       have hlt':(S2:Int) < N:=by omega
       have c2:=HARR.out.bool S2 (by rw [mJ];exact hlt)
       rw [iX hlt] at c2
       obtain ⟨v,hv⟩:∃ v,v=xV l S2:=⟨_,rfl⟩
       rw [← hv] at c2
       have hcv:Hid ((c && !v)=qCE l s (x+1)):=by
        have e:xV l (s ||| 1 <<< x)=v:=by rw [Nat.one_shiftLeft,← hM,← hS,hv]
        exact Kh (by rw [dJ,hbit,e,hc.out];simp)
       have HBIT:=Kh hbit
       clear hbit hS hM hv
       cases v
       ·go_wp2
        go_roundg (n - (x+1))
        case measure=>have:=HGX.out;omega
        case rel=>exact ⟨x+1,c,by omega,by go_num,rfl,Kh (by rw [← hcv.out];simp),rfl⟩
       ·go_wp2
        go_roundg (n - (x+1))
        case measure=>have:=HGX.out;omega
        case rel=>exact ⟨x+1,false,by omega,by go_num,rfl,Kh (by rw [← hcv.out];simp),rfl⟩
      ·have hb:=bL hs63 hbit
       have hcv:Hid (c=qCE l s (x+1)):=Kh (by rw [dJ,hbit,hc.out];simp)
       have HBIT:=Kh hbit
       clear hbit
       go_wp2
       go_roundg (n - (x+1))
       case measure=>have:=HGX.out;omega
       case rel=>exact ⟨x+1,c,by omega,by go_num,rfl,hcv,rfl⟩
     ·have hct:Hid (c=topB n l s):=by
       have hxn:x=n:=by have:=HGX.out;omega
       have:=hc.out
       rw [hxn] at this
       exact Kh this
      cases c
      ·go_wp2
       go_roundg (N - (s+1))
       case measure=>have:=HG.out;omega
       case rel =>
        have hmt:nM n l (s+1)=nM n l s:=by rw [iJ,← hct.out];simp
        refine ⟨s+1,sa,sc,by omega,by go_num,by rw [hmt,HL.out],?_,HARR.out,hgr,hsz⟩
        rw [hmt,← HL.out];exact HOWN.out
      ·go_wp2_with (at_builtin;refine app1 rfl _ _ _ rfl yC w1.heap.size _ L (nats (nM n l s)) rfl HOWN.out _ rfl rfl ?c1 ?c2 ?c3 ?_)
       case c1=>unfold maxLen;omega
       case c2=>omega
       case c3=>exact hsz
       intro sa' sc' w3 hown3 hg3 hlt3
       have HO3:=Kh hown3;have HG3:=Kh hg3
       clear hown3 hg3
       go_wp2
       go_roundg (N - (s+1))
       case measure=>have:=HG.out;omega
       case rel =>
        have hmt:nM n l (s+1)=nM n l s ++ [s]:=by rw [iJ,← hct.out,HU.out];simp
        have hlen:(nM n l (s+1)).length=L+1:=by rw [hmt,List.length_append,HL.out];rfl
        refine ⟨s+1,sa',sc',by omega,by go_num,by rw [hlen],?_,HARR.out.kept HG3.out (fun e=>?_),zG hgr HG3.out (fun q e=>?_),by omega⟩
        ·rw [hlen,hmt,wE];exact HO3.out
        ·have:=(HOWN.out.lt _ e).1;omega
        ·have:=(HOWN.out.lt q e).1;have:=hgr.size;omega
  ·have hsN:s=N:=by have:=HG.out;omega
   have hmt:Hid (nM n l s=wT n l):=by rw [hsN,HN.out];exact Kh rfl
   clear hsN
   go_wp2
   go_ret
   refine ⟨sa,sc,by rw [← hmt.out,← HL.out];rfl,?_,hgr⟩
   rw [← hmt.out,← HL.out]
   exact yJ HOWN.out (by omega)
structure Rs (w0 w:World) (bi bm g n M N:Nat) (mv:Value) (bs:List Bool) (lst:List Nat) (row:Option Nat):Prop where
 box1:w.heap[bi]?=some (.cells #[.slice (some ⟨g,0,none⟩) N N] 25 (0,0))
 box2:w.heap[bm]?=some (.cells #[mv] 22 (0,0))
 own:w.ownsRow w0.heap.size 3 1 mv lst.length (nats lst)
 shape:∃ sa sc,mv=.slice sa lst.length sc
 arr:Arr w g 4 (bls bs)
 len:bs.length=N
 cnt:lst.length≤M+bs.count true
 mem:∀ x,x < N→bs.getD x false=true→x∈lst
 lt:∀ x∈lst,x < N
 lo:w0.heap.size≤bi∧w0.heap.size≤bm∧w0.heap.size≤g
 fr:w0.grownBy w row
theorem Rs.len_le {w0 w:World} {bi bm g n M N:Nat} {mv:Value} {bs:List Bool} {lst:List Nat} {row:Option Nat} (h:Rs w0 w bi bm g n M N mv bs lst row):lst.length≤M+N:=by
 have h1:=h.cnt
 have h2:bs.count true≤bs.length:=List.count_le_length
 have:=h.len
 omega
def RAdded (w0 w:World) (bi bm g n M N:Nat) (lst:List Nat) (row:Option Nat) (x:Nat) (e:Ending) (w':World):Prop :=
 e=.returned (.tuple #[])∧∃ bs' mv' lst',Rs w0 w' bi bm g n M N mv' bs' lst' row∧(∀ y,y∈lst' ↔ y∈lst∨y=x)∧Below w0.heap.size w w'
theorem count_set_true' {bs:List Bool} {x:Nat} (hx:x < bs.length) (h:bs.getD x false=false):(bs.set x true).count true=bs.count true+1:=by
 rw [List.count_set hx]
 have:bs[x]=false:=by simpa [List.getD,List.getElem?_eq_getElem hx] using h
 simp [this]
set_option maxHeartbeats 400000 in
theorem qBF (w0 w:World) (bi bm g n M N x:Nat) (mv:Value) (bs:List Bool) (lst:List Nat) (row:Option Nat) (hx:x < N) (hn:N≤4096) (hM:M≤1000000) (h:Rs w0 w bi bm g n M N mv bs lst row) :
  Calls Tryd.prog 89 #[.int .i64 (x:Int),.pointer (some ⟨bi,0,none⟩),.pointer (some ⟨bm,0,none⟩)] w (RAdded w0 w bi bm g n M N lst row x):=by
 have H:=Kh h
 have hml:=h.len_le
 obtain ⟨sa,sc,rfl⟩:=h.shape
 have ci:=zI h.box1 0 (by simp)
 have cx:=h.arr.bool x (by rw [h.len];exact hx)
 have fx:=h.arr.frozen x
 simp only [List.getElem_toArray,List.getElem_cons_zero] at ci
 have hx':(x:Int) < N:=by omega
 clear h
 cases hb:bs.getD x false
 ·rw [hb] at cx
  have HB:=Kh hb;clear hb
  have hset:=H.out.arr.bool_set x (by rw [H.out.len];exact hx) true
  have hgs1:=zH w ⟨g,x,none⟩ (.bool true)
  go_enter Tryd.func89,Tryd.ntmps89
  go_upto_region 2 with fail
  generalize hW:w.setCell ⟨g,x,none⟩ (.bool true)=w1 at hset hgs1
  have HW:=Kh hW
  have hlo:=H.out.lo
  have hg1:=zG H.out.fr hgs1 (by simp;omega)
  have hb2:=H.out.box2
  have hown:=H.out.own
  have hb2':=zE hb2 hgs1 (fun e=>by
   have:=Oj e
   exact (H.out.arr.type_ne hb2 (by decide)) this)
  have hb1':=zE H.out.box1 hgs1 (fun e=>(H.out.arr.type_ne H.out.box1 (by decide)) (Oj e))
  have hown':=hown.kept hgs1 (.inr (fun e=>by
   obtain ⟨cur,rest,hh,_⟩:=H.out.arr
   exact zS hown hh (by decide) e))
  have cm:=zI hb2' 0 (by simp)
  simp only [List.getElem_toArray,List.getElem_cons_zero] at cm
  have HB1:=Kh hb1';have HB2:=Kh hb2';have HSET:=Kh hset;have HGS:=Kh hgs1
  clear hW ci cx fx hset hgs1 hb2 hown hb1' hb2'
  go_wp2_with (at_builtin;refine app1 rfl _ _ _ rfl yC w0.heap.size _ lst.length (nats lst) rfl hown' _ rfl rfl ?c1 ?c2 ?c3 ?_)
  case c1=>unfold maxLen;omega
  case c2=>omega
  case c3=>exact hg1.size
  intro sa' sc' w3 hown3 hg3 hlt3
  have hne2:=zS hown' HB2.out (by decide)
  have hb23:=zE HB2.out hg3 hne2
  have hf3:=zD hb23 0
  have hc3:=zI hb23 0 (by simp)
  simp only [List.getElem_toArray,List.getElem_cons_zero] at hc3
  have hb13:=zE HB1.out hg3 (zS hown' HB1.out (by decide))
  have hset3:=HSET.out.kept hg3 (by
   obtain ⟨cur,rest,hh,_⟩:=HSET.out
   exact zS hown' hh (by decide))
  have hg03:=zG hg1 hg3 (fun k e=>(hown'.lt k e).1)
  have hlow:=fun k e=>(hown'.lt k e).1
  have H13:=Kh hb13;have H23:=Kh hb23;have HS3:=Kh hset3;have HO3:=Kh hown3;have HG3:=Kh hg3;have HLOW:=Kh hlow
  clear hb13 hb23 hset3 hown3 hg3 hown' cm hlow
  go_wp2
  go_end0
  have hgs:=zH w3 ⟨bm,0,none⟩ (.slice sa' (lst.length+1) sc')
  have hz1:=HGS.out.size
  refine ⟨rfl,bs.set x true,.slice sa' (lst.length+1) sc',lst ++ [x],⟨?_,heap_setCell_same w3 bm 0 _ _ _ H23.out,?_,⟨sa',sc',by simp⟩,?_,by rw [List.length_set];exact H.out.len,?_,fun y hy hyb=>?_,fun y hy=>?_,hlo,zG hg03 hgs (by simp;omega)⟩,fun y=>by simp,⟨?_,?_,?_,Nat.le_trans hz1 (Nat.le_trans HG3.out.size hgs.size),fun k hk=>?_⟩⟩
  ·refine zE H13.out hgs (fun e=>?_)
   have e':=Oj e
   have h1:=H13.out
   rw [← e',H23.out] at h1
   simp at h1
  ·rw [List.length_append,wE]
   exact HO3.out.kept hgs (.inr (zS HO3.out H23.out (by decide)))
  ·exact HS3.out.kept hgs (fun e=>(HS3.out.type_ne H23.out (by decide)) (Oj e).symm)
  ·rw [List.length_append,count_set_true' (by rw [H.out.len];exact hx) HB.out]
   have:=H.out.cnt
   simp;omega
  ·rw [List.mem_append]
   by_cases e:x=y
   ·subst e;exact .inr (by simp)
   ·rw [getD_set_ne _ _ _ _ _ e] at hyb
    exact .inl (H.out.mem y hy hyb)
  ·rcases List.mem_append.1 hy with hy|hy
   ·exact H.out.lt y hy
   ·simp at hy;omega
  ·exact hgs.os.trans (HG3.out.os.trans HGS.out.os)
  ·exact hgs.tape.trans (HG3.out.tape.trans HGS.out.tape)
  ·exact hgs.output.trans (HG3.out.output.trans HGS.out.output)
  ·have hs0:=H.out.fr.size
   exact (hgs.block k (by have:=HG3.out.size;omega) (fun e=>by have:k=bm:=Oj e;omega)).trans ((HG3.out.block k (by omega) (fun e=>by have:=HLOW.out k e.symm;omega)).trans (HGS.out.block k (by omega) (fun e=>by have:k=g:=Oj e;omega)))
 ·rw [hb] at cx
  have HB:=Kh hb;clear hb
  go_enter Tryd.func89,Tryd.ntmps89
  go_wp2
  go_end0
  refine ⟨rfl,bs,_,lst,H.out,fun y=>⟨.inl,fun h=>h.elim id (fun e=>by rw [e];exact H.out.mem x hx HB.out)⟩,Below.refl _ _⟩
end Go.Proofs.YtdjhoadoiknaoaaDoor
namespace Go.Proofs
open Go.Shelf
def Tryd.lays111_ren:Go.Shelf.Ren:=⟨fun|111=>90|n=>n,fun|28=>22|3=>3|4=>4|0=>0|n=>n,fun|n=>n⟩
theorem Tryd.lays111:Go.Proofs.Lays.n111 Tryd.prog Tryd.lays111_ren:={
 mixed:=by kernel_rfl
 f111:=Tryd.func90.trans (congrArg some (by kernel_rfl))
 t0:=Tryd.underlying0
 a0:=Tryd.isAgg0
 z0:=Tryd.sizeOf0
 v0:=Tryd.zeroValue0
 t3:=Tryd.underlying3
 a3:=Tryd.isAgg3
 z3:=Tryd.sizeOf3
 v3:=Tryd.zeroValue3
 t4:=Tryd.underlying4
 a4:=Tryd.isAgg4
 z4:=Tryd.sizeOf4
 v4:=Tryd.zeroValue4
 t28:=Tryd.underlying22
 a28:=Tryd.isAgg22
 z28:=Tryd.sizeOf22
 v28:=Tryd.zeroValue22 }
open Go.RowKit Go.Lib in
theorem Tryd.slices_Equal_int (b1 o1 n c b2 o2 m d:Nat) (xs ys:List Int) (w:World) (hx:n≤xs.length) (hy:m≤ys.length) (hbig:n≤9223372036854775807) (hbig2:m≤9223372036854775807) (hc1:∀ j,j < xs.length→w.cell? ⟨b1,o1+j,none⟩=some (.int .i64 (xs.getD j 0))) (hc2:∀ j,j < ys.length→w.cell? ⟨b2,o2+j,none⟩=some (.int .i64 (ys.getD j 0))) :
  Calls Tryd.prog 90 #[.slice (some ⟨b1,o1,none⟩) n c,.slice (some ⟨b2,o2,none⟩) m d] w fun e w'=>e=.returned (.bool (xs.take n == ys.take m))∧∃ q,w'=w.drewN q:=Any.slices_Equal_int Tryd.lays111 b1 o1 n c b2 o2 m d xs ys w hx hy hbig hbig2 hc1 hc2
def Tryd.laysNm215_ren:Go.Shelf.Ren:=⟨fun|15=>65|n=>n,fun|22=>22|3=>3|4=>4|n=>n,fun|n=>n⟩
theorem Tryd.laysNm215:Go.Proofs.Lays2.n15 Tryd.prog Tryd.laysNm215_ren:={
 mixed:=by kernel_rfl
 f15:=Tryd.func65.trans (congrArg some (by kernel_rfl))
 t3:=Tryd.underlying3
 a3:=Tryd.isAgg3
 z3:=Tryd.sizeOf3
 v3:=Tryd.zeroValue3
 t4:=Tryd.underlying4
 a4:=Tryd.isAgg4
 z4:=Tryd.sizeOf4
 v4:=Tryd.zeroValue4
 t22:=Tryd.underlying22
 a22:=Tryd.isAgg22
 z22:=Tryd.sizeOf22
 v22:=Tryd.zeroValue22
 i3:=by kernel_rfl }
open Go.RowKit Go.Lib in
theorem Tryd.slices_Clone_int (b off n c:Nat) (zs:List Int) (w:World) (hz:n≤zs.length) (hbig:n * 8≤140737488355328) (hc:∀ j,j < zs.length→w.cell? ⟨b,off+j,none⟩=some (.int .i64 (zs.getD j 0))) :
  Calls Tryd.prog 65 #[.slice (some ⟨b,off,none⟩) n c] w fun e w'=>∃ v',e=.returned v'∧w'.ownsRow w.heap.size 3 1 v' n ((zs.take n).map (Value.int .i64))∧v'≠.slice none 0 0∧Below w.heap.size w w':=Any.slices_Clone_int Tryd.laysNm215 b off n c zs w hz hbig hc
end Go.Proofs
