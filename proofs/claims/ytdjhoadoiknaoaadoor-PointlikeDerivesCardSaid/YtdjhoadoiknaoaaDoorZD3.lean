/- Part 3 of the proof: Sets0, Sets1, Sets2, Sets3, Shape. -/
import Derived.Test.YtdjhoadoiknaoaaDoorZD2
import Derived.Deep.DeepCutAuto
import Derived.Deep.OwnRows
import Derived.StillTailTactics
import Derived.BigRegion
set_option linter.unusedVariables false
set_option linter.unusedSimpArgs false
namespace Go.Proofs.YtdjhoadoiknaoaaDoor
open Go.RowKit
theorem cX (m:Nat):(2:Int) ^ m=((2 ^ m:Nat):Int):=by simp
theorem uR {m n:Nat} (h:m≤n):2 ^ m≤2 ^ n:=Nat.pow_le_pow_right (by omega) h
theorem qE {m:Nat} (h:m≤60):wrap64 ((2:Int) ^ m)=((2 ^ m:Nat):Int):=by
 have h2:2 ^ m≤2 ^ 60:=uR h
 rw [cX]
 generalize 2 ^ m=K at h2
 exact IntWalk.wrap64_in _ ⟨by omega,by omega⟩
theorem nG {m:Nat} (h:m≤60):IntKind.i64.wrap ((2:Int) ^ m)=((2 ^ m:Nat):Int):=by
 have h2:2 ^ m≤2 ^ 60:=uR h
 rw [cX]
 generalize 2 ^ m=K at h2
 exact IntWalk.i64_in _ (by omega)
theorem validSet_any (w:World) (a:Option Addr) (n cap:Nat) (s:Int) (hn:n≤12) :
  Calls Tryd.prog 52 #[.slice a n cap,.int .i64 s] w fun e w'=>e=.returned (.bool (decide (0≤s∧s < (2 ^ n:Nat))))∧w=w':=by
 have hsh:=qE (m:=n) (by omega)
 obtain ⟨N,hN⟩:∃ N,N=2 ^ n:=⟨_,rfl⟩
 rw [← hN] at hsh ⊢
 have HN:=Kh hN
 clear hN
 by_cases h0:0≤s
 ·go_enter Tryd.func52,Tryd.ntmps52
  go_wp2
  go_ret
  exact ⟨zZ (by simp [h0]),rfl⟩
 ·go_enter Tryd.func52,Tryd.ntmps52
  go_wp2
  go_ret
  exact ⟨zZ (by simp;omega),rfl⟩
theorem mk_int (n:Nat) (h:n≤4096):∀ w:World,(Instr.makeSlice 22 (.int .i64 (n:Int)) (.int .i64 (n:Int))).run Tryd.prog w=.ok (.slice (some ⟨w.heap.size,0,none⟩) n n) (w.alloc (.cells (madeCells #[.int .i64 0] n) 3)) :=
 fun w=>run_make_row' 22 3 (.int .i64 0) 8 Tryd.underlying22 (by kernel_rfl) rfl .i64 .i64 n (by omega) (by omega) w
theorem mk_row (n:Nat) (h:n≤4096):∀ w:World,(Instr.makeSlice 26 (.int .i64 (n:Int)) (.int .i64 (n:Int))).run Tryd.prog w=.ok (.slice (some ⟨w.heap.size,0,none⟩) n n) (w.alloc (.cells (madeCells #[.slice none 0 0] n) 22)) :=
 fun w=>run_make_row' 26 22 (.slice none 0 0) 24 Tryd.underlying26 (by kernel_rfl) rfl .i64 .i64 n (by omega) (by omega) w
theorem gX (n:Nat):(madeCells #[.int .i64 0] n).toList=nats (List.replicate n 0):=by
 have:=jO (z:=.int .i64 0) rfl n
 rw [Nat.mul_one] at this
 rw [wG];exact this
theorem qBP (n:Nat):(madeCells #[.slice none 0 0] n).toList=List.replicate n (.slice none 0 0):=by
 have:=jO (z:=.slice none 0 0) rfl n
 rw [Nat.mul_one] at this
 exact this
def NewS (w wx:World) (n N:Nat) (s3:Value):Prop:=∃ p g0 go:Nat,s3=.pointer (some ⟨p,0,none⟩)∧wx.heap[p]?=some (.cells #[.int .i64 n,.slice (some ⟨g0,0,none⟩) n n,.slice (some ⟨go,0,none⟩) N N] 113 (0,0)) ∧
 Arr wx g0 22 (List.replicate n (.slice none 0 0))∧Arr wx go 3 (nats (List.replicate N 0))∧w.grownBy wx none∧w.heap.size≤p∧w.heap.size≤g0∧w.heap.size≤go
theorem newS1 (w:World) (n N:Nat):NewS w (((w.alloc (.cells (madeCells #[.slice none 0 0] n) 22)).alloc (.cells (madeCells #[.int .i64 0] N) 3)).alloc
  (.cells #[.int .i64 n,.slice (some ⟨w.heap.size,0,none⟩) n n,.slice (some ⟨w.heap.size+1,0,none⟩) N N] 113)).drew n N (.pointer (some ⟨w.heap.size+1+1,0,none⟩)):=by
 have a1:=Arr.new w 22 (madeCells #[.slice none 0 0] n)
 have a2:=Arr.new (w.alloc (.cells (madeCells #[.slice none 0 0] n) 22)) 3 (madeCells #[.int .i64 0] N)
 rw [zO] at a2
 rw [qBP] at a1
 rw [gX] at a2
 have b1:=(a1.kept (Ga _ (.cells (madeCells #[.int .i64 0] N) 3) none) (by simp)).kept (Ga _ (.cells #[.int .i64 n,.slice (some ⟨w.heap.size,0,none⟩) n n,.slice (some ⟨w.heap.size+1,0,none⟩) N N] 113) none) (by simp)
 have b2:=a2.kept (Ga _ (.cells #[.int .i64 n,.slice (some ⟨w.heap.size,0,none⟩) n n,.slice (some ⟨w.heap.size+1,0,none⟩) N N] 113) none) (by simp)
 refine ⟨w.heap.size+1+1,w.heap.size,w.heap.size+1,rfl,?_,b1.of_heap rfl,b2.of_heap rfl,zP (yA (yA (Ga w _ none) _) _) rfl rfl rfl rfl,by omega,Nat.le_refl _,by omega⟩
 have:=heap_alloc_new ((w.alloc (.cells (madeCells #[.slice none 0 0] n) 22)).alloc (.cells (madeCells #[.int .i64 0] N) 3)) (.cells #[.int .i64 n,.slice (some ⟨w.heap.size,0,none⟩) n n,.slice (some ⟨w.heap.size+1,0,none⟩) N N] 113)
 rw [zO,zO] at this
 exact this
theorem newS2 (w:World) (n N:Nat):NewS w (((w.alloc (.cells (madeCells #[.int .i64 0] N) 3)).alloc (.cells (madeCells #[.slice none 0 0] n) 22)).alloc
  (.cells #[.int .i64 n,.slice (some ⟨w.heap.size+1,0,none⟩) n n,.slice (some ⟨w.heap.size,0,none⟩) N N] 113)).drew n N (.pointer (some ⟨w.heap.size+1+1,0,none⟩)):=by
 have a1:=Arr.new w 3 (madeCells #[.int .i64 0] N)
 have a2:=Arr.new (w.alloc (.cells (madeCells #[.int .i64 0] N) 3)) 22 (madeCells #[.slice none 0 0] n)
 rw [zO] at a2
 rw [gX] at a1
 rw [qBP] at a2
 have b1:=(a1.kept (Ga _ (.cells (madeCells #[.slice none 0 0] n) 22) none) (by simp)).kept (Ga _ (.cells #[.int .i64 n,.slice (some ⟨w.heap.size+1,0,none⟩) n n,.slice (some ⟨w.heap.size,0,none⟩) N N] 113) none) (by simp)
 have b2:=a2.kept (Ga _ (.cells #[.int .i64 n,.slice (some ⟨w.heap.size+1,0,none⟩) n n,.slice (some ⟨w.heap.size,0,none⟩) N N] 113) none) (by simp)
 refine ⟨w.heap.size+1+1,w.heap.size+1,w.heap.size,rfl,?_,b2.of_heap rfl,b1.of_heap rfl,zP (yA (yA (Ga w _ none) _) _) rfl rfl rfl rfl,by omega,by omega,Nat.le_refl _⟩
 have:=heap_alloc_new ((w.alloc (.cells (madeCells #[.int .i64 0] N) 3)).alloc (.cells (madeCells #[.slice none 0 0] n) 22)) (.cells #[.int .i64 n,.slice (some ⟨w.heap.size+1,0,none⟩) n n,.slice (some ⟨w.heap.size,0,none⟩) N N] 113)
 rw [zO,zO] at this
 exact this
def qAL (n:Nat) (tb:Nat→Nat→Nat) (x:Nat):List Nat:=(List.range (2 ^ n)).map fun b=>zU n tb (1 <<< x) b
def tQ (n:Nat) (tb:Nat→Nat→Nat) (x j:Nat):List Nat:=(List.range (2 ^ n)).map fun b=>if b < j then zU n tb (1 <<< x) b else 0
theorem oC (n:Nat) (tb:Nat→Nat→Nat) (x j:Nat):(tQ n tb x j).length=2 ^ n:=by simp [tQ]
theorem rowOf_length (n:Nat) (tb:Nat→Nat→Nat) (x:Nat):(qAL n tb x).length=2 ^ n:=by simp [qAL]
theorem rowPart_get {n:Nat} {tb:Nat→Nat→Nat} {x j b:Nat} (hb:b < 2 ^ n):(tQ n tb x j).getD b 0=if b < j then zU n tb (1 <<< x) b else 0:=by
 simp [tQ,List.getD,hb]
theorem rowOf_get {n:Nat} {tb:Nat→Nat→Nat} {x b:Nat} (hb:b < 2 ^ n):(qAL n tb x).getD b 0=zU n tb (1 <<< x) b:=by
 simp [qAL,List.getD,hb]
theorem rowPart_set {n:Nat} {tb:Nat→Nat→Nat} {x j:Nat}:(tQ n tb x j).set j (zU n tb (1 <<< x) j)=tQ n tb x (j+1):=by
 apply List.ext_getElem
 ·simp [tQ]
 ·intro i h1 h2
  rw [List.getElem_set]
  simp only [tQ,List.getElem_map,List.getElem_range]
  by_cases e:j=i
  ·subst e;simp
  ·rw [if_neg e]
   by_cases h:i < j
   ·rw [if_pos h,if_pos (by omega)]
   ·rw [if_neg h,if_neg (by omega)]
theorem rowPart_full (n:Nat) (tb:Nat→Nat→Nat) (x j:Nat) (h:2 ^ n≤j):tQ n tb x j=qAL n tb x:=by
 unfold tQ qAL
 refine List.map_congr_left fun b hb=>?_
 rw [List.mem_range] at hb
 rw [if_pos (by omega)]
theorem rowPart_zero (n:Nat) (tb:Nat→Nat→Nat) (x:Nat):tQ n tb x 1=List.replicate (2 ^ n) 0:=by
 apply List.ext_getElem
 ·simp [tQ]
 ·intro i h1 h2
  simp only [tQ,List.getElem_map,List.getElem_range,List.getElem_replicate]
  split
  ·have:i=0:=by omega
   subst this
   apply Nat.eq_of_testBit_eq
   intro z
   rw [Nat.zero_testBit,← Bool.not_eq_true,xJ]
   rintro ⟨_,y,_,_,_,h,_⟩
   simp at h
  ·rfl
theorem lt64 {j n:Nat} (hj:j < 2 ^ n) (hn:n≤12):j < 18446744073709551616:=by
 have:=uR hn
 omega
theorem row_step {n:Nat} {tb:Nat→Nat→Nat} {x j:Nat} (hx:x < n) (h0:j≠0) (hj:j < 2 ^ n) (hn:n≤12):zU n tb (1 <<< x) (rest j) ||| 1 <<< tb x (low j)=zU n tb (1 <<< x) j:=by
 have h64:=lt64 hj hn
 refine iP fun z=>?_
 rw [Nat.testBit_or,Bool.or_eq_true,xJ,wH,decide_eq_true_eq]
 constructor
 ·rintro (⟨a,y,ha,hy,h1,h2,e⟩|e)
  ·rw [gQ h0 h64,Bool.and_eq_true] at h2
   exact ⟨a,y,ha,hy,h1,h2.1,e⟩
  ·exact ⟨x,low j,hx,qDB h0 hj (by omega),by rw [wH];simp,qAP h0 h64,e⟩
 ·rintro ⟨a,y,ha,hy,h1,h2,e⟩
  rw [wH,decide_eq_true_eq] at h1
  subst h1
  by_cases hl:y=low j
  ·subst hl;exact .inr e
  ·exact .inl ⟨x,y,ha,hy,by rw [wH];simp,by rw [gQ h0 h64,h2];simp [hl],e⟩
theorem prod_step {n:Nat} {tb:Nat→Nat→Nat} {a b:Nat} (h0:a≠0) (ha:a < 2 ^ n) (hn:n≤12):zU n tb (1 <<< low a) b ||| zU n tb (rest a) b=zU n tb a b:=by
 have h64:=lt64 ha hn
 refine iP fun z=>?_
 rw [Nat.testBit_or,Bool.or_eq_true,xJ,xJ]
 constructor
 ·rintro (⟨x,y,hx,hy,h1,h2,e⟩|⟨x,y,hx,hy,h1,h2,e⟩)
  ·rw [wH,decide_eq_true_eq] at h1
   subst h1
   exact ⟨_,y,hx,hy,qAP h0 h64,h2,e⟩
  ·rw [gQ h0 h64,Bool.and_eq_true] at h1
   exact ⟨x,y,hx,hy,h1.1,h2,e⟩
 ·rintro ⟨x,y,hx,hy,h1,h2,e⟩
  by_cases hl:x=low a
  ·subst hl;exact .inl ⟨_,y,hx,hy,by rw [wH];simp,h2,e⟩
  ·exact .inr ⟨x,y,hx,hy,by rw [gQ h0 h64,h1];simp [hl],h2,e⟩
theorem prod_zero {n:Nat} {tb:Nat→Nat→Nat} {b:Nat}:zU n tb 0 b=0:=by
 apply Nat.eq_of_testBit_eq
 intro z
 rw [Nat.zero_testBit,← Bool.not_eq_true,xJ]
 rintro ⟨x,y,_,_,h,_⟩
 simp at h
def hdrs (gr:Nat→Nat) (N n k:Nat):List Value:=(List.range n).map fun x=>if x < k then .slice (some ⟨gr x,0,none⟩) N N else .slice none 0 0
theorem rH (gr:Nat→Nat) (N n k:Nat):(hdrs gr N n k).length=n:=by simp [hdrs]
theorem hdrs_zero (gr:Nat→Nat) (N n:Nat):hdrs gr N n 0=List.replicate n (.slice none 0 0):=by
 apply List.ext_getElem
 ·simp [hdrs]
 ·intro i h1 h2;simp [hdrs]
theorem qBR {gr:Nat→Nat} {N n k x:Nat} (hx:x < k) (hn:x < n):(hdrs gr N n k)[x]'(by rw [rH];exact hn)=.slice (some ⟨gr x,0,none⟩) N N:=by simp [hdrs,hx]
theorem hdrs_set {gr:Nat→Nat} {N n k q:Nat}:(hdrs gr N n k).set k (.slice (some ⟨q,0,none⟩) N N)=hdrs (fun x=>if x=k then q else gr x) N n (k+1):=by
 apply List.ext_getElem
 ·simp [hdrs]
 ·intro i h1 h2
  rw [List.getElem_set]
  simp only [hdrs,List.getElem_map,List.getElem_range]
  by_cases e:k=i
  ·subst e;simp
  ·rw [if_neg e]
   by_cases h:i < k
   ·rw [if_pos h,if_pos (by omega),if_neg (by omega)]
   ·rw [if_neg h,if_neg (by omega)]
structure SetsAt (F C:Nat) (w:World) (p go g0 n k kh:Nat) (tb:Nat→Nat→Nat) (gr:Nat→Nat) (om:List Nat):Prop where
 box:w.heap[p]?=some (.cells #[.int .i64 n,.slice (some ⟨g0,0,none⟩) n n,.slice (some ⟨go,0,none⟩) (2 ^ n) (2 ^ n)] 113 (0,0))
 rows:Arr w g0 22 (hdrs gr (2 ^ n) n kh)
 rowc:∀ x,x < k→Arr w (gr x) 3 (nats (qAL n tb x))
 oms:Arr w go 3 (nats om)
 oml:om.length=2 ^ n
 omok:∀ a,a < 2 ^ n→om.getD a 0=0∨om.getD a 0=1+yM n tb a
 ne:∀ x,x < k→gr x≠go
 lop:F≤p∧p < C
 log:F≤g0∧g0 < C
 loo:F≤go∧go < C
 lor:∀ x,x < k→F≤gr x∧gr x < C
def vD (F C:Nat) (w:World) (p go n:Nat) (tb:Nat→Nat→Nat):Prop:=∃ g0 gr om,SetsAt F C w p go g0 n n n tb gr om
theorem SetsAt.kept {F C p go g0 n k kh:Nat} {w w':World} {tb:Nat→Nat→Nat} {gr:Nat→Nat} {om:List Nat} {row:Option Nat} (h:SetsAt F C w p go g0 n k kh tb gr om) (hg:w.grownBy w' row) (hr:∀ q,row=some q→q < F∨C≤q):SetsAt F C w' p go g0 n k kh tb gr om:=by
 have key:∀ q,F≤q→q < C→row≠some q:=fun q h1 h2 e=>by have:=hr q e;omega
 exact ⟨zE h.box hg (key p h.lop.1 h.lop.2),h.rows.kept hg (key g0 h.log.1 h.log.2),fun x hx=>(h.rowc x hx).kept hg (key _ (h.lor x hx).1 (h.lor x hx).2),h.oms.kept hg (key go h.loo.1 h.loo.2),h.oml,h.omok,h.ne,h.lop,h.log,h.loo,h.lor⟩
theorem vD.kept {F C p go n:Nat} {w w':World} {tb:Nat→Nat→Nat} {row:Option Nat} (h:vD F C w p go n tb) (hg:w.grownBy w' row) (hr:∀ q,row=some q→q < F∨C≤q):vD F C w' p go n tb:=by
 obtain ⟨g0,gr,om,h⟩:=h
 exact ⟨g0,gr,om,h.kept hg hr⟩
theorem newS_start {w wx:World} {n:Nat} {tb:Nat→Nat→Nat} {s3:Value} (h:NewS w wx n (2 ^ n) s3):∃ p go g0,s3=.pointer (some ⟨p,0,none⟩)∧SetsAt w.heap.size wx.heap.size wx p go g0 n 0 0 tb (fun _=>0) (List.replicate (2 ^ n) 0)∧w.grownBy wx none:=by
 obtain ⟨p,g0,go,rfl,h1,h2,h3,h4,h5,h6,h7⟩:=h
 refine ⟨p,go,g0,rfl,⟨h1,by rw [hdrs_zero];exact h2,fun x hx=>absurd hx (by omega),h3,by simp,fun a ha=>.inl ?_,fun x hx=>absurd hx (by omega),⟨h5,zQ h1⟩,⟨h6,h2.lt⟩,⟨h7,h3.lt⟩,fun x hx=>absurd hx (by omega)⟩,h4⟩
 simp [List.getD,ha]
def NewOk (w:World) (n:Nat) (tb:Nat→Nat→Nat) (e:Ending) (w':World):Prop:=∃ p go,e=.returned (.pointer (some ⟨p,0,none⟩))∧vD w.heap.size w'.heap.size w' p go n tb∧w.grownBy w' none
structure Filling (F:Nat) (w:World) (p go g0 n k:Nat) (tb:Nat→Nat→Nat) (gr:Nat→Nat) (om:List Nat) (q j:Nat):Prop where
 at_:SetsAt F w.heap.size w p go g0 n k (k+1) tb gr om
 row:Arr w q 3 (nats (tQ n tb k j))
 gq:gr k=q
 nq:q≠go
 lo:F≤q∧q < w.heap.size
theorem Filling.set {F p go g0 n k q j:Nat} {w:World} {tb:Nat→Nat→Nat} {gr:Nat→Nat} {om:List Nat} (h:Filling F w p go g0 n k tb gr om q j) (hq:∀ x,x < k→gr x≠q) (hj:j < 2 ^ n):Filling F (w.setCell ⟨q,j,none⟩ (.int .i64 (zU n tb (1 <<< k) j:Nat))) p go g0 n k tb gr om q (j+1):=by
 have hg:=zH w ⟨q,j,none⟩ (.int .i64 (zU n tb (1 <<< k) j:Nat))
 have A:=h.at_
 have hsz:(w.setCell ⟨q,j,none⟩ (.int .i64 (zU n tb (1 <<< k) j:Nat))).heap.size=w.heap.size:=by simp [World.setCell]
 have hp:q≠p:=by
  rintro rfl
  exact (h.row.type_ne A.box (by decide)) rfl
 have h0:q≠g0:=by
  rintro rfl
  obtain ⟨cur,rest,hh,_⟩:=A.rows
  exact (h.row.type_ne hh (by decide)) rfl
 refine ⟨⟨zE A.box hg (fun e=>hp (Oj e)),A.rows.kept hg (fun e=>h0 (Oj e)),fun x hx=>(A.rowc x hx).kept hg (fun e=>hq x hx (Oj e).symm),A.oms.kept hg (fun e=>h.nq (Oj e)),A.oml,A.omok,A.ne,?_,?_,?_,?_⟩,?_,h.gq,h.nq,?_⟩
 ·rw [hsz];exact A.lop
 ·rw [hsz];exact A.log
 ·rw [hsz];exact A.loo
 ·rw [hsz];exact A.lor
 ·have:=h.row.nat_set j (by rw [oC];exact hj) (zU n tb (1 <<< k) j)
  rw [rowPart_set] at this
  exact this
 ·rw [hsz];exact h.lo
theorem Filling.drew {F p go g0 n k q j:Nat} {w:World} {tb:Nat→Nat→Nat} {gr:Nat→Nat} {om:List Nat} (h:Filling F w p go g0 n k tb gr om q j):Filling F w.drew p go g0 n k tb gr om q j :=
 ⟨h.at_.kept (zT _ none) (by simp),h.row.of_heap rfl,h.gq,h.nq,h.lo⟩
theorem Filling.done {F p go g0 n k q j:Nat} {w:World} {tb:Nat→Nat→Nat} {gr:Nat→Nat} {om:List Nat} (h:Filling F w p go g0 n k tb gr om q j) (hj:2 ^ n≤j):SetsAt F w.heap.size w p go g0 n (k+1) (k+1) tb gr om:=by
 have A:=h.at_
 refine ⟨A.box,A.rows,fun x hx=>?_,A.oms,A.oml,A.omok,fun x hx=>?_,A.lop,A.log,A.loo,fun x hx=>?_⟩
 ·rcases Nat.lt_succ_iff_lt_or_eq.1 hx with hx|rfl
  ·exact A.rowc x hx
  ·rw [h.gq]
   have:=h.row
   rwa [rowPart_full n tb _ j hj] at this
 ·rcases Nat.lt_succ_iff_lt_or_eq.1 hx with hx|rfl
  ·exact A.ne x hx
  ·rw [h.gq];exact h.nq
 ·rcases Nat.lt_succ_iff_lt_or_eq.1 hx with hx|rfl
  ·exact A.lor x hx
  ·rw [h.gq];exact h.lo
theorem filling_new {F p go g0 n k:Nat} {w:World} {tb:Nat→Nat→Nat} {gr:Nat→Nat} {om:List Nat} (A:SetsAt F w.heap.size w p go g0 n k k tb gr om) (hF:F≤w.heap.size) (hk:k < n) :
  Filling F ((w.setCell ⟨g0,k,none⟩ (.slice (some ⟨w.heap.size,0,none⟩) (2 ^ n) (2 ^ n))).alloc (.cells (madeCells #[.int .i64 0] (2 ^ n)) 3)).drew p go g0 n k tb (fun x=>if x=k then w.heap.size else gr x) om w.heap.size 1:=by
 have hS:=zH w ⟨g0,k,none⟩ (.slice (some ⟨w.heap.size,0,none⟩) (2 ^ n) (2 ^ n))
 have hA:(w.setCell ⟨g0,k,none⟩ (.slice (some ⟨w.heap.size,0,none⟩) (2 ^ n) (2 ^ n))).grownBy ((w.setCell ⟨g0,k,none⟩ (.slice (some ⟨w.heap.size,0,none⟩) (2 ^ n) (2 ^ n))).alloc (.cells (madeCells #[.int .i64 0] (2 ^ n)) 3)).drew none:=zP (Ga _ _ none) rfl rfl rfl rfl
 have hs0:(w.setCell ⟨g0,k,none⟩ (.slice (some ⟨w.heap.size,0,none⟩) (2 ^ n) (2 ^ n))).heap.size=w.heap.size:=by simp [World.setCell]
 have hsz:((w.setCell ⟨g0,k,none⟩ (.slice (some ⟨w.heap.size,0,none⟩) (2 ^ n) (2 ^ n))).alloc (.cells (madeCells #[.int .i64 0] (2 ^ n)) 3)).drew.heap.size=w.heap.size+1:=by
  show ((w.setCell ⟨g0,k,none⟩ (.slice (some ⟨w.heap.size,0,none⟩) (2 ^ n) (2 ^ n))).alloc (.cells (madeCells #[.int .i64 0] (2 ^ n)) 3)).heap.size=_
  rw [zO,hs0]
 have g0p:g0≠p:=by
  rintro rfl
  exact (A.rows.type_ne A.box (by decide)) rfl
 have g0o:g0≠go:=by
  rintro rfl
  obtain ⟨cur,rest,hh,_⟩:=A.oms
  exact (A.rows.type_ne hh (by decide)) rfl
 have g0r:∀ x,x < k→g0≠gr x:=by
  intro x hx e
  obtain ⟨cur,rest,hh,_⟩:=A.rowc x hx
  exact (A.rows.type_ne hh (by decide)) e
 have hnew:=Arr.new (w.setCell ⟨g0,k,none⟩ (.slice (some ⟨w.heap.size,0,none⟩) (2 ^ n) (2 ^ n))) 3 (madeCells #[.int .i64 0] (2 ^ n))
 rw [gX,hs0] at hnew
 have e0:∀ x,x < k→(if x=k then w.heap.size else gr x)=gr x:=fun x hx=>if_neg (by omega)
 refine ⟨⟨zE (zE A.box hS (fun e=>g0p (Oj e))) hA (by simp),?_,fun x hx=>?_,(A.oms.kept hS (fun e=>g0o (Oj e))).kept hA (by simp),A.oml,A.omok,fun x hx=>?_,?_,?_,?_,fun x hx=>?_⟩,?_,if_pos rfl,?_,?_⟩
 ·have:=A.rows.set k (by rw [rH];exact hk) (.slice (some ⟨w.heap.size,0,none⟩) (2 ^ n) (2 ^ n))
  rw [hdrs_set] at this
  exact this.kept hA (by simp)
 ·rw [e0 x hx]
  exact ((A.rowc x hx).kept hS (fun e=>g0r x hx (Oj e))).kept hA (by simp)
 ·rw [e0 x hx];exact A.ne x hx
 ·rw [hsz];exact ⟨A.lop.1,by have:=A.lop.2;omega⟩
 ·rw [hsz];exact ⟨A.log.1,by have:=A.log.2;omega⟩
 ·rw [hsz];exact ⟨A.loo.1,by have:=A.loo.2;omega⟩
 ·rw [hsz,e0 x hx];exact ⟨(A.lor x hx).1,by have:=(A.lor x hx).2;omega⟩
 ·rw [rowPart_zero]
  exact hnew.of_heap rfl
 ·have:=A.loo.2;omega
 ·rw [hsz];exact ⟨hF,by omega⟩
theorem filling_grown {w0 w:World} {g0 k N:Nat} (h:w0.grownBy w none) (hg:w0.heap.size≤g0):w0.grownBy ((w.setCell ⟨g0,k,none⟩ (.slice (some ⟨w.heap.size,0,none⟩) N N)).alloc (.cells (madeCells #[.int .i64 0] N) 3)).drew none :=
 zP (yA (zG h (zH _ _ _) (by simp;omega)) _) rfl rfl rfl rfl
theorem far_cell {w:World} {p i g0 k:Nat} {u v:Value} {o:Obj} (h:w.cell? ⟨p,i,none⟩=some v) (hne:g0≠p):(((w.setCell ⟨g0,k,none⟩ u).alloc o).drew).cell? ⟨p,i,none⟩=some v:=by
 have h1:=(World.cell?_setCell_other w ⟨g0,k,none⟩ ⟨p,i,none⟩ u (fun e=>hne (by injection e))).trans h
 have hb:=World.block_lt_of_cell? _ _ h1
 show ((w.setCell ⟨g0,k,none⟩ u).alloc o).cell? _=_
 exact (World.cell?_of_block (Below.heap_alloc _ o _ hb)).trans h1
theorem fO {w : World} {g i c o : Nat} {u v : Value} (h : w.cell? ⟨c, o, none⟩ = some v) (hne : g ≠ c ∨ i ≠ o) : (w.setCell ⟨g, i, none⟩ u).drew.cell? ⟨c, o, none⟩ = some v :=
 (World.cell?_setCell_other w ⟨g, i, none⟩ ⟨c, o, none⟩ u (fun e => by
  injection e with e1 e2
  rcases hne with h | h
  ·exact h e1
  ·exact h e2)).trans h
set_option maxRecDepth 100000 in
set_option maxHeartbeats 2000000 in
theorem qZ (B:Nat) (w:World) (v:Value) (t:List (List Int)) (hB:B≤w.heap.size) (h:Mat B w v t) (hv:xM t=0) (hn:t.length≤12) (hT:TabOk w) :
  Calls Tryd.prog 48 #[v] w (NewOk w t.length (entN t)):=by
 have hs:=(uY hv).1
 obtain ⟨b,off,cap,RB,RO,RC,rfl,hc1,hc2,hq⟩:=h.sq hs
 have hmx:cap≤9223372036854775807:=by unfold maxLen at hc2;omega
 have hpos:=hs.pos
 have hsh:=qE (m:=t.length) (by omega)
 have hsh':=nG (m:=t.length) (by omega)
 obtain ⟨N,hN⟩:∃ N,N=2 ^ t.length:=⟨_,rfl⟩
 have hN12:N≤4096:=by have:=uR hn;omega
 have hN1:1≤N:=by rw [hN];exact Nat.two_pow_pos _
 rw [← hN] at hsh hsh'
 have HQ:=Kh hq;have HS:=Kh hs;have HN:=Kh hN;have HV:=Kh hv;have HT:=Kh hT
 clear hq hs h hN hv hT hc2
 have hmk1:=mk_int N (by omega)
 have hmk2:=mk_row t.length (by omega)
 go_enter Tryd.func48,Tryd.ntmps48
 go_upto_region 1 with fail
 go_cut [3] (fun s3 wx=>NewS w wx t.length N s3)
 case first =>
  go_region_held3 (fun w'=>True) (first|trivial|go_keep) (fail)
  all_goals (go_wp2_with fail;go_meet;first|(with_reducible exact newS1 w _ _)|(with_reducible exact newS2 w _ _))
 case rest =>
  clear hmk2
  rw [HN.out] at hcut
  obtain ⟨p,go,g0,rfl,hat,hgw⟩:=newS_start (tb:=entN t) hcut
  obtain ⟨om0,hom⟩:∃ o,o=List.replicate (2 ^ t.length) 0:=⟨_,rfl⟩
  rw [← hom] at hat
  have HAT:=Kh hat
  clear hom
  clear hcut hat
  go_wp2
  go_loopg [20] t.length (fun g i wr=>∃ (k:Nat) (gr:Nat→Nat),g+k=t.length∧i=.int .i64 k∧SetsAt w.heap.size wr.heap.size wr p go g0 t.length k k (entN t) gr om0∧w.grownBy wr none)
  case atStart=>exact ⟨0,_,rfl,rfl,HAT.out,hgw⟩
  case round =>
   clear HAT hgw
   obtain ⟨k,gr,hg,rfl,hat,hgr⟩:=hrel
   have HG:=Kh hg;have HAT:=Kh hat
   clear hg hat
   have hszr:=hgr.size
   by_cases hk:k < t.length
   ·have hk':(k:Int) < t.length:=by omega
    have cb:=zI HAT.out.box 1 (by simp)
    simp only [List.getElem_toArray,List.getElem_cons_succ,List.getElem_cons_zero] at cb
    have fk:=HAT.out.rows.frozen k
    have ck:=HAT.out.rows.cell k (by rw [rH];exact hk)
    obtain ⟨u0,hu0⟩:∃ u0,u0=(hdrs gr (2 ^ t.length) t.length k)[k]'(by rw [rH];exact hk):=⟨_,rfl⟩
    rw [← hu0] at ck
    have hF:=filling_new HAT.out hszr hk
    rw [← HN.out] at hF
    have HF:=Kh hF
    have gw2:=filling_grown (k:=k) (N:=N) hgr HAT.out.log.1
    have GW2:=Kh gw2
    have g0p:g0≠p:=by
     rintro rfl
     exact (HAT.out.rows.type_ne HAT.out.box (by decide)) rfl
    have HFAR:=Kh (far_cell (k:=k) (u:=.slice (some ⟨wr.heap.size,0,none⟩) N N) (o:=.cells (madeCells #[.int .i64 0] N) 3) cb g0p)
    have hlp:=HAT.out.lop.2
    have hlg:=HAT.out.log.2
    clear hu0 hF gw2
    obtain ⟨wo,rfl⟩:∃ wo:World,wo=wr:=⟨_,rfl⟩
    go_upto_region 5 with fail
    go_region_held3 (fun w'=>w'.cell? ⟨p,1,none⟩=some (.slice (some ⟨g0,0,none⟩) t.length t.length)) (first|go_keep|exact HFAR.out|fail) (fail)
    rename_i hh
    clear hh HFAR
    have hne2:Hid (∀ x,x < k→(fun x=>if x=k then wo.heap.size else gr x) x≠wo.heap.size):=by
     intro x hx
     have h1:=(HAT.out.lor x hx).2
     show (if x=k then wo.heap.size else gr x)≠wo.heap.size
     rw [if_neg (by omega)]
     omega
    generalize (fun x=>if x=k then wo.heap.size else gr x)=gr2 at HF hne2
    have hw2:∃ w2,w2=((wo.setCell ⟨g0,k,none⟩ (.slice (some ⟨wo.heap.size,0,none⟩) N N)).alloc (.cells (madeCells #[.int .i64 0] N) 3)).drew:=⟨_,rfl⟩
    obtain ⟨w2,hw2⟩:=hw2
    rw [← hw2] at HF GW2 ⊢
    generalize wo.heap.size=q at HF hne2 ⊢
    clear hw2 cb fk ck hlp hlg hmk1
    go_wp2
    go_loopg [5] (N - 1) (fun g jv wr=>∃ j:Nat,1≤j∧g+j=N∧jv=.int .i64 j∧Filling w.heap.size wr p go g0 t.length k (entN t) gr2 om0 q j∧w.grownBy wr none)
    case atStart=>exact ⟨1,Nat.le_refl _,by omega,rfl,HF.out,GW2.out⟩
    case round =>
     clear HF GW2 hgr hszr HAT
     obtain ⟨j,hj1,hg,rfl,hf,hgr⟩:=hrel
     have HGJ:=Kh hg;have HF:=Kh hf;clear hg hf
     by_cases hj:j < N
     ·have hj':(j:Int) < N:=by omega
      have hj2:j < 2 ^ t.length:=by rw [← HN.out];exact hj
      have hj0:j≠0:=by omega
      have h64:=lt64 hj2 hn
      obtain ⟨l,hl⟩:∃ l,l=low j:=⟨_,rfl⟩
      have hll:l < t.length:=by rw [hl];exact qDB hj0 hj2 (by omega)
      have hll':(l:Int) < t.length:=by omega
      obtain ⟨r,hr⟩:∃ r,r=rest j:=⟨_,rfl⟩
      have hrj:r < j:=by rw [hr];exact qCR hj0
      have hrN:(r:Int) < N:=by omega
      have e1:bits .and .i64 (j:Int) ((j:Int) - 1)=(r:Int):=by
       rw [hr,rest,show (j:Int) - 1=((j - 1:Nat):Int) by omega]
       exact tS j (j - 1) (by omega) (by omega)
      have e5:IntKind.i64.wrap ((j:Int) - 1)=(j:Int) - 1:=IntWalk.i64_in _ (by omega)
      have e2:IntKind.u64.wrap (j:Int)=(j:Int):=by rw [IntKind.wrap_u64];omega
      have HQ1:=HQ.out.kept hgr (by simp)
      have ck:=HQ1.hd k hk
      have cl:=HQ1.el k l hk hll
      obtain ⟨m,hm⟩:∃ m,m=entN t k l:=⟨_,rfl⟩
      have hml:m < t.length:=by rw [hm];exact uX HS.out hk hll
      rw [← hm] at cl
      have e3:=nG (m:=m) (by omega)
      have hmN:2 ^ m≤4096:=by have:=uR (show m≤12 by omega);omega
      obtain ⟨M,hM⟩:∃ M,M=2 ^ m:=⟨_,rfl⟩
      rw [← hM] at e3 hmN
      have A:=HF.out.at_
      have cb:=zI A.box 1 (by simp)
      simp only [List.getElem_toArray,List.getElem_cons_succ,List.getElem_cons_zero] at cb
      have cg:=A.rows.cell k (by rw [rH];exact hk)
      rw [qBR (Nat.lt_succ_self k) hk,HF.out.gq,← HN.out] at cg
      have cr:=HF.out.row.nat r (by rw [oC];omega)
      rw [rowPart_get (by omega),if_pos hrj] at cr
      have cj:=HF.out.row.nat j (by rw [oC];omega)
      have fj:=HF.out.row.frozen j
      obtain ⟨V,hV⟩:∃ V,V=zU t.length (entN t) (1 <<< k) r:=⟨_,rfl⟩
      have hV4:V < 2 ^ t.length:=by rw [hV];exact wP (oK HV.out).lt _ _
      have hV5:V≤4096:=by rw [← HN.out] at hV4;omega
      rw [← hV] at cr
      obtain ⟨U,hU⟩:∃ U,U=(tQ t.length (entN t) k j).getD j 0:=⟨_,rfl⟩
      rw [← hU] at cj
      have e4:bits .or .i64 (V:Int) (M:Int)=((V ||| M:Nat):Int):=rG V M (by omega) (by omega)
      have hstep:Hid (V ||| M=zU t.length (entN t) (1 <<< k) j):=by
       have:=row_step (tb:=entN t) hk hj0 hj2 hn
       rw [hV,hM,hr,hm,hl,← Nat.one_shiftLeft]
       exact this
      have hT:=HT.out.kept hgr (by simp)
      have HL:=Kh hl
      have hqg:q≠g0:=by
       rintro rfl
       obtain ⟨cur,rest,hh,_⟩:=A.rows
       exact (HF.out.row.type_ne hh (by decide)) rfl
      have hqp:q≠p:=by
       rintro rfl
       exact (HF.out.row.type_ne A.box (by decide)) rfl
      have hqb:q≠b:=by have:=HQ1.lt;have:=HF.out.lo.1;omega
      have hqr:q≠RB k:=by have:=(HQ1.ltr k hk).1;have:=HF.out.lo.1;omega
      have hjr:j≠r:=by omega
      obtain ⟨wo2,rfl⟩:∃ wo2:World,wo2=wr:=⟨_,rfl⟩
      have HK:Hid (((wo2.setCell ⟨q,j,none⟩ (.int .i64 ((V ||| M:Nat):Int))).drew).cell? ⟨p,1,none⟩=some (.slice (some ⟨g0,0,none⟩) t.length t.length)∧((wo2.setCell ⟨q,j,none⟩ (.int .i64 ((V ||| M:Nat):Int))).drew).cell? ⟨g0,k,none⟩=some (.slice (some ⟨q,0,none⟩) N N) ∧
        ((wo2.setCell ⟨q,j,none⟩ (.int .i64 ((V ||| M:Nat):Int))).drew).cell? ⟨q,r,none⟩=some (.int .i64 (V:Int))∧((wo2.setCell ⟨q,j,none⟩ (.int .i64 ((V ||| M:Nat):Int))).drew).cell? ⟨b,off+k,none⟩=some (.slice (some ⟨RB k,RO k,none⟩) t.length (RC k)) ∧
        ((wo2.setCell ⟨q,j,none⟩ (.int .i64 ((V ||| M:Nat):Int))).drew).cell? ⟨RB k,RO k+l,none⟩=some (.int .i64 (m:Int))) :=
       Kh ⟨fO cb (.inl hqp),fO cg (.inl hqg),fO cr (.inr hjr),fO ck (.inl hqb),fO cl (.inl hqr)⟩
      clear A hl hr hm hM hV hU HQ1 hV4
      go_wp2_with fail
      refine (tz_any j hj0 h64 wo2 hT).mono ?_
      rintro e w' ⟨rfl,rfl⟩
      have el:((Lib.ctz 64 j:Nat):Int)=(l:Int):=by rw [HL.out];rfl
      rw [el]
      clear el
      go_upto_region 10 with fail
      go_region_held3 (fun w'=>w'.cell? ⟨p,1,none⟩=some (.slice (some ⟨g0,0,none⟩) t.length t.length)∧w'.cell? ⟨g0,k,none⟩=some (.slice (some ⟨q,0,none⟩) N N)∧w'.cell? ⟨q,r,none⟩=some (.int .i64 (V:Int))∧w'.cell? ⟨b,off+k,none⟩=some (.slice (some ⟨RB k,RO k,none⟩) t.length (RC k))∧w'.cell? ⟨RB k,RO k+l,none⟩=some (.int .i64 (m:Int)))
       (first|exact HK.out|go_keep|fail) (fail)
      rename_i hh
      clear hh HK
      go_wp2
      go_roundg (N - (j+1))
      case measure=>have:=HGJ.out;omega
      case rel =>
       refine ⟨j+1,by omega,by omega,by go_num,?_,zP (zG hgr (zH wo2 ⟨q,j,none⟩ (.int .i64 ((V ||| M:Nat):Int))) (by simp;exact HF.out.lo.1)) rfl rfl rfl rfl⟩
       have:=(HF.out.set hne2.out hj2).drew
       rw [← hstep.out] at this
       exact this
     ·have hd:=HF.out.done (by rw [← HN.out];omega)
      have HD:=Kh hd
      clear hd
      go_wp2
      go_roundg (t.length - (k+1))
      case measure=>have:=HG.out;omega
      case rel=>exact ⟨k+1,gr2,by omega,by go_num,HD.out,hgr⟩
   ·have hk2:k=t.length:=by have:=HG.out;omega
    have HK2:=Kh hk2
    clear hk2
    have hok:Hid (vD w.heap.size wr.heap.size wr p go t.length (entN t)):=by
     have:=HAT.out
     rw [HK2.out] at this
     exact ⟨g0,gr,om0,this⟩
    go_wp2
    go_ret
    exact ⟨p,go,rfl,hok.out,hgr⟩
theorem vD.cells {F C p go n:Nat} {w:World} {tb:Nat→Nat→Nat} (h:vD F C w p go n tb):∃ (g0:Nat) (gr:Nat→Nat) (om:List Nat),w.cell? ⟨p,0,none⟩=some (.int .i64 n)∧w.cell? ⟨p,1,none⟩=some (.slice (some ⟨g0,0,none⟩) n n)∧w.cell? ⟨p,2,none⟩=some (.slice (some ⟨go,0,none⟩) (2 ^ n) (2 ^ n)) ∧
  (∀ x,x < n→w.cell? ⟨g0,x,none⟩=some (.slice (some ⟨gr x,0,none⟩) (2 ^ n) (2 ^ n)))∧(∀ x b,x < n→b < 2 ^ n→w.cell? ⟨gr x,b,none⟩=some (.int .i64 (zU n tb (1 <<< x) b:Nat))) ∧
  om.length=2 ^ n∧(∀ a,a < 2 ^ n→w.cell? ⟨go,a,none⟩=some (.int .i64 (om.getD a 0:Nat)))∧(∀ a,a < 2 ^ n→om.getD a 0=0∨om.getD a 0=1+yM n tb a)∧SetsAt F C w p go g0 n n n tb gr om:=by
 obtain ⟨g0,gr,om,A⟩:=h
 have c0:=zI A.box 0 (by simp)
 have c1:=zI A.box 1 (by simp)
 have c2:=zI A.box 2 (by simp)
 refine ⟨g0,gr,om,by simpa using c0,by simpa using c1,by simpa using c2,fun x hx=>?_,fun x b hx hb=>?_,A.oml,fun a ha=>A.oms.nat a (by rw [A.oml];exact ha),A.omok,A⟩
 ·rw [A.rows.cell x (by rw [rH];exact hx),qBR hx hx]
 ·rw [(A.rowc x hx).nat b (by rw [rowOf_length];exact hb),rowOf_get hb]
theorem vD.go_lt' {F C p go n:Nat} {w:World} {tb:Nat→Nat→Nat} (h:vD F C w p go n tb):F≤go∧go < C:=by
 obtain ⟨g0,gr,om,h⟩:=h
 exact h.loo
set_option maxRecDepth 100000 in
set_option maxHeartbeats 1000000 in
theorem qX (F C:Nat) (w:World) (p go n:Nat) (tb:Nat→Nat→Nat) (a b:Nat) (h:vD F C w p go n tb) (ht:∀ x y,x < n→y < n→tb x y < n) (hn:n≤12) (ha:a < 2 ^ n) (hb:b < 2 ^ n) (hT:TabOk w) :
  Calls Tryd.prog 53 #[.pointer (some ⟨p,0,none⟩),.int .i64 (a:Int),.int .i64 (b:Int)] w fun e w'=>e=.returned (.int .i64 (zU n tb a b:Nat))∧∃ m,w'=w.drewN m:=by
 obtain ⟨g0,gr,om,c0,c1,c2,hg,hr,_,_,_,_⟩:=h.cells
 obtain ⟨N,hN⟩:∃ N,N=2 ^ n:=⟨_,rfl⟩
 have HN:=Kh hN;have HG:=Kh hg;have HR:=Kh hr;have HT:=Kh hT;have HTB:=Kh ht
 have hN4:N≤4096:=by have:=uR hn;omega
 have hbN:(b:Int) < N:=by omega
 have ha0:a < N:=by omega
 clear h hg hr hT c0 c2 hN ht
 go_enter Tryd.func53,Tryd.ntmps53
 go_wp2
 go_loopg [1,7] a (fun g av sv wr=>∃ a' s m:Nat,g=a'∧av=.int .i64 a'∧sv=.int .i64 s∧a' < N∧s < N∧Hid (s ||| zU n tb a' b=zU n tb a b)∧wr=w.drewN m)
 case atStart=>exact ⟨a,0,0,rfl,rfl,rfl,ha0,by omega,Kh (by simp),rfl⟩
 case round =>
  clear ha ha0
  obtain ⟨a',s,m,hga,rfl,rfl,ha',hs',hstep,rfl⟩:=hrel
  have HGA:=Kh hga;clear hga
  by_cases h0:a'=0
  ·subst h0
   go_wp2
   go_ret
   exact ⟨yH (by have:=hstep.out;rw [prod_zero] at this;simp at this;rw [this]),m,rfl⟩
  ·have hne:((a':Int) != 0)=true:=by rw [bne_iff_ne];omega
   have ha2:a' < 2 ^ n:=by rw [← HN.out];exact ha'
   have h64:=lt64 ha2 hn
   obtain ⟨l,hl⟩:∃ l,l=low a':=⟨_,rfl⟩
   have hll:l < n:=by rw [hl];exact qDB h0 ha2 (by omega)
   have hll':(l:Int) < n:=by omega
   obtain ⟨r,hr⟩:∃ r,r=rest a':=⟨_,rfl⟩
   have hra:r < a':=by rw [hr];exact qCR h0
   have e1:bits .and .i64 (a':Int) ((a':Int) - 1)=(r:Int):=by
    rw [hr,rest,show (a':Int) - 1=((a' - 1:Nat):Int) by omega]
    exact tS a' (a' - 1) (by omega) (by omega)
   have e5:IntKind.i64.wrap ((a':Int) - 1)=(a':Int) - 1:=IntWalk.i64_in _ (by omega)
   have e2:IntKind.u64.wrap (a':Int)=(a':Int):=by rw [IntKind.wrap_u64];omega
   have cg:=HG.out l hll
   have cr:=HR.out l b hll (by rw [← HN.out];omega)
   rw [← HN.out] at cg
   obtain ⟨V,hV⟩:∃ V,V=zU n tb (1 <<< l) b:=⟨_,rfl⟩
   rw [← hV] at cr
   have hV2:V < N:=by rw [hV,HN.out];exact wP HTB.out _ _
   have e4:bits .or .i64 (s:Int) (V:Int)=((s ||| V:Nat):Int):=rG s V (by omega) (by omega)
   have hs2:s ||| V < N:=by rw [HN.out];exact or_lt (by rw [← HN.out];exact hs') (by rw [← HN.out];exact hV2)
   have hstep2:Hid ((s ||| V) ||| zU n tb r b=zU n tb a b):=by
    have:=prod_step (tb:=tb) (b:=b) h0 ha2 hn
    rw [← hl,← hV,← hr] at this
    have h2:=hstep.out
    rw [← this,← Nat.or_assoc] at h2
    exact h2
   have hc:=fun W (hW:TabOk W)=>tz_any a' h0 h64 W hW
   rw [show ((Lib.ctz 64 a':Nat):Int)=(l:Int) by rw [hl];rfl] at hc
   have HC:=Kh hc
   have HTm:∀ q,Hid (TabOk (w.drewN q)):=fun q=>HT.out.of_heap rfl
   clear hl hr hV hc
   have h0':¬ (a':Int)=0:=by omega
   clear h0
   go_wp2
   go_quiet ((go_at_call 88;first|exact wO (HC.out _ (HTm _))|exact kF (HC.out _ (HTm _))))
   go_wp2
   go_roundg r
   case measure=>have:=HGA.out;omega
   case rel=>exact ⟨r,s ||| V,_,rfl,rfl,rfl,by omega,hs2,hstep2,rfl⟩
theorem SetsAt.om_set {F C p go g0 n k kh a v:Nat} {w:World} {tb:Nat→Nat→Nat} {gr:Nat→Nat} {om:List Nat} (h:SetsAt F C w p go g0 n k kh tb gr om) (ha:a < 2 ^ n) (hv:v=1+yM n tb a):SetsAt F C (w.setCell ⟨go,a,none⟩ (.int .i64 (v:Int))) p go g0 n k kh tb gr (om.set a v):=by
 have hg:=zH w ⟨go,a,none⟩ (.int .i64 (v:Int))
 have h1:go≠p:=by
  rintro rfl
  exact (h.oms.type_ne h.box (by decide)) rfl
 have h2:go≠g0:=by
  rintro rfl
  obtain ⟨cur,rest,hh,_⟩:=h.rows
  exact (h.oms.type_ne hh (by decide)) rfl
 refine ⟨zE h.box hg (fun e=>h1 (Oj e)),h.rows.kept hg (fun e=>h2 (Oj e)),fun x hx=>(h.rowc x hx).kept hg (fun e=>h.ne x hx (Oj e).symm),h.oms.nat_set a (by rw [h.oml];exact ha) v,by rw [List.length_set];exact h.oml,fun y hy=>?_,h.ne,h.lop,h.log,h.loo,h.lor⟩
 by_cases e:a=y
 ·subst e
  rw [xK _ _ _ _ (by rw [h.oml];exact ha)]
  exact .inr hv
 ·rw [getD_set_ne _ _ _ _ _ e];exact h.omok y hy
def Omegad (F C:Nat) (w:World) (p go n:Nat) (tb:Nat→Nat→Nat) (a:Nat) (e:Ending) (w':World):Prop :=
 e=.returned (.int .i64 (yM n tb a:Nat))∧vD F C w' p go n tb∧w.grownBy w' (some go)
set_option maxRecDepth 100000 in
set_option maxHeartbeats 1000000 in
theorem jI (F C:Nat) (w:World) (p go n:Nat) (tb:Nat→Nat→Nat) (a:Nat) (h:vD F C w p go n tb) (ht:Tb n tb) (hn:n≤12) (ha:a < 2 ^ n) (hT:TabOk w) :
  Calls Tryd.prog 56 #[.pointer (some ⟨p,0,none⟩),.int .i64 (a:Int)] w (Omegad F C w p go n tb a):=by
 have H:=Kh h
 obtain ⟨g0,gr,om,c0,c1,c2,hg,hr,hol,hoc,hok,hat⟩:=h.cells
 obtain ⟨N,hN⟩:∃ N,N=2 ^ n:=⟨_,rfl⟩
 have HN:=Kh hN;have HAT:=Kh hat;have HT:=Kh hT;have HTB:=Kh ht
 have hN4:N≤4096:=by have:=uR hn;omega
 have haN:(a:Int) < N:=by omega
 have co:=hoc a ha
 have fo:=hat.oms.frozen a
 have ho:=hok a ha
 have hom:=tR ht ha
 obtain ⟨O,hO⟩:∃ O,O=yM n tb a:=⟨_,rfl⟩
 have hON:O < N:=by omega
 rw [← hN] at c2
 rw [← hO] at ho
 obtain ⟨v,hv⟩:∃ v,v=om.getD a 0:=⟨_,rfl⟩
 rw [← hv] at co ho
 have HO:=Kh hO
 clear h hat hT ht hN hg hr hoc hok hol c0 c1 hom hO hv
 by_cases h0:v=0
 ·subst h0
  clear ho
  go_enter Tryd.func56,Tryd.ntmps56
  go_wp2
  go_loopg [5] (2 ^ n * 2 ^ n+2 ^ n) (fun g xv wr=>∃ x m:Nat,xv=.int .i64 x∧x < N∧Hid (Ends n tb a g x)∧Hid (rZ n tb a g x=O)∧wr=w.drewN m)
  case atStart=>exact ⟨a,0,rfl,by omega,Kh (iQ HTB.out ha),Kh HO.out.symm,rfl⟩
  case round =>
   obtain ⟨x,m,rfl,hx,hends,hgo,rfl⟩:=hrel
   have hx2:x < 2 ^ n:=by rw [← HN.out];exact hx
   have HP1:∀ q,Hid (Calls Tryd.prog 53 #[.pointer (some ⟨p,0,none⟩),.int .i64 (x:Int),.int .i64 (x:Int)] (w.drewN q) fun e w'=>e=.returned (.int .i64 (zU n tb x x:Nat))∧∃ m,w'=(w.drewN q).drewN m) :=
    fun q=>Kh (qX F C _ p go n tb x x (H.out.kept (zJ _ _ none) (by simp)) HTB.out.lt hn hx2 hx2 (HT.out.of_heap rfl))
   have HP2:∀ q,Hid (Calls Tryd.prog 53 #[.pointer (some ⟨p,0,none⟩),.int .i64 (x:Int),.int .i64 (a:Int)] (w.drewN q) fun e w'=>e=.returned (.int .i64 (zU n tb x a:Nat))∧∃ m,w'=(w.drewN q).drewN m) :=
    fun q=>Kh (qX F C _ p go n tb x a (H.out.kept (zJ _ _ none) (by simp)) HTB.out.lt hn hx2 ha (HT.out.of_heap rfl))
   obtain ⟨Y,hY⟩:∃ Y,Y=zU n tb x a:=⟨_,rfl⟩
   obtain ⟨X,hX⟩:∃ X,X=zU n tb x x:=⟨_,rfl⟩
   have hYN:Y < N:=by rw [hY,HN.out];exact wP HTB.out.lt _ _
   rw [← hX] at HP1
   rw [← hY] at HP2
   have HX:=Kh hX;have HY:=Kh hY
   clear hX hY
   by_cases hid:X=x
   ·have ht:((X:Int) != (x:Int))=false:=by rw [hid];simp
    have HI:=Kh hid
    have e4:bits .or .i64 (x:Int) (Y:Int)=((x ||| Y:Nat):Int):=rG x Y (by omega) (by omega)
    have hstop:x ||| Y=O:=by
     have h1:=hgo.out
     rw [mQ (by rw [← HX.out];exact hid)] at h1
     rw [HY.out];exact h1
    rw [hstop] at e4
    have e6:IntKind.i64.wrap (1+(O:Int))=((1+O:Nat):Int):=by rw [IntWalk.i64_in _ (by omega)];omega
    have HSET:∀ q,Hid (SetsAt F C ((w.drewN q).setCell ⟨go,a,none⟩ (.int .i64 (1+(O:Int)))) p go g0 n n n tb gr (om.set a (1+O))):=fun q=>by
     have h1:=HAT.out.kept (zJ w q none) (by simp)
     have h2:=h1.om_set (v:=1+O) ha (by rw [HO.out])
     rw [show ((1+O:Nat):Int)=1+(O:Int) by omega] at h2
     exact h2
    have HKQ:∀ q,Hid (((w.drewN q).setCell ⟨go,a,none⟩ (.int .i64 (1+(O:Int)))).cell? ⟨p,2,none⟩=some (.slice (some ⟨go,0,none⟩) N N)):=fun q=>by
     have h1:=zI (HSET q).out.box 2 (by simp)
     rw [HN.out]
     exact Kh (by simpa using h1)
    clear hid hstop
    go_wp2_with fail
    refine (HP1 m).out.mono ?_
    rintro e w' ⟨rfl,m2,rfl⟩
    go_upto_region 5 with fail
    go_region_held3 (fun w'=>w'.cell? ⟨p,2,none⟩=some (.slice (some ⟨go,0,none⟩) N N)) (first|exact (HKQ _).out|go_keep|fail)
     (first|(go_at_call 53;refine (HP2 _).out.mono ?_;rintro e w' ⟨rfl,m3,rfl⟩)|fail)
    go_wp2
    go_ret
    exact ⟨yH (by rw [HO.out];omega),⟨g0,gr,_,(HSET _).out⟩,zF (zJ w _ _) (zH _ _ _)⟩
   ·have ht:((X:Int) != (x:Int))=true:=by rw [bne_iff_ne];omega
    have HI:=Kh hid
    clear hid
    go_wp2_with fail
    refine (HP1 m).out.mono ?_
    rintro e w' ⟨rfl,m2,rfl⟩
    go_wp2_with fail
    refine (HP2 _).out.mono ?_
    rintro e w' ⟨rfl,m3,rfl⟩
    obtain ⟨j,hj,he⟩:=eL hends.out (by rw [← HX.out];exact HI.out)
    have hgo2:=hgo.out
    rw [hj,mR (by rw [← HX.out];exact HI.out),← HY.out] at hgo2
    rw [← HY.out] at he
    have HJ:=Kh hj;have HE:=Kh he;have HG:=Kh hgo2
    clear hj he hgo2
    go_wp2
    go_roundg j
    case measure=>have:=HJ.out;omega
    case rel=>exact ⟨Y,_,rfl,hYN,HE,HG,rfl⟩
 ·have hv:v=1+O:=by omega
  subst hv
  have hne:(((1+O:Nat):Int) == 0)=false:=by rw [beq_eq_false_iff_ne];omega
  clear h0 ho
  go_enter Tryd.func56,Tryd.ntmps56
  go_wp2
  go_ret
  refine ⟨yH ?_,H.out,zW _ _⟩
  rw [← HO.out];omega
theorem qBC (s x:Nat):(s:Int) / 2 ^ x=((s / 2 ^ x:Nat):Int):=by
 rw [cX];rfl
theorem fE {s x:Nat} (hs:s < 9223372036854775808) (hb:s.testBit x=false):bits .and .i64 ((s:Int) / 2 ^ x) 1=0:=by
 have h1:s / 2 ^ x < 9223372036854775808:=Nat.lt_of_le_of_lt (Nat.div_le_self _ _) hs
 have:=tS (s / 2 ^ x) 1 h1 (by omega)
 rw [Nat.testBit_eq_decide_div_mod_eq,decide_eq_false_iff_not] at hb
 rw [qBC]
 rw [Nat.and_one_is_mod] at this
 exact this.trans (by omega)
theorem bL {s x:Nat} (hs:s < 9223372036854775808) (hb:s.testBit x=true):bits .and .i64 ((s:Int) / 2 ^ x) 1=1:=by
 have h1:s / 2 ^ x < 9223372036854775808:=Nat.lt_of_le_of_lt (Nat.div_le_self _ _) hs
 have:=tS (s / 2 ^ x) 1 h1 (by omega)
 rw [Nat.testBit_eq_decide_div_mod_eq,decide_eq_true_eq] at hb
 rw [qBC]
 rw [Nat.and_one_is_mod] at this
 exact this.trans (by omega)
theorem vD.c0 {F C p go n:Nat} {w:World} {tb:Nat→Nat→Nat} (h:vD F C w p go n tb):w.cell? ⟨p,0,none⟩=some (.int .i64 n):=by
 obtain ⟨_,_,_,h,_⟩:=h.cells
 exact h
def rK (N:Nat) (l:List Nat):List Bool:=(List.range N).map (xV l)
theorem underAll_eq {N:Nat} {l:List Nat} {bs:List Bool} (hl:bs.length=N) (h:∀ s,s < N→bs.getD s false=xV l s):bs=rK N l:=by
 apply List.ext_getElem
 ·simp [rK,hl]
 ·intro i h1 h2
  have:=h i (by omega)
  simp only [List.getD,List.getElem?_eq_getElem h1,Option.getD_some] at this
  simp [rK,this]
theorem iX {N:Nat} {l:List Nat} {s:Nat} (hs:s < N):(rK N l).getD s false=xV l s:=by simp [rK,List.getD,hs]
theorem mJ (N:Nat) (l:List Nat):(rK N l).length=N:=by simp [rK]
set_option maxRecDepth 100000 in
set_option maxHeartbeats 1000000 in
theorem inside_any (F C:Nat) (w:World) (p go n:Nat) (tb:Nat→Nat→Nat) (lv:Value) (B:Nat) (l:List Nat) (h:vD F C w p go n tb) (hn:n≤12) (hl:Row B w lv (nats l)) (hlt:∀ b∈l,b < 2 ^ n) (hB:B≤w.heap.size) :
  Calls Tryd.prog 79 #[.pointer (some ⟨p,0,none⟩),lv] w fun e w'=>e=.returned (.slice (some ⟨w.heap.size,0,none⟩) (2 ^ n) (2 ^ n))∧Arr w' w.heap.size 4 (bls (rK (2 ^ n) l))∧w.grownBy w' none:=by
 have hlm:=hl.len_le
 rw [zN] at hlm
 unfold maxLen at hlm
 obtain ⟨la,lc,rfl⟩:=hl.shape
 rw [zN]
 have hsh:=qE (m:=n) (by omega)
 obtain ⟨N,hN⟩:∃ N,N=2 ^ n:=⟨_,rfl⟩
 have hN4:N≤4096:=by have:=uR hn;omega
 rw [← hN] at hsh ⊢
 have HN:=Kh hN;have H:=Kh h;have HL:=Kh hl;have HLT:=Kh hlt
 have c0:=h.c0
 clear h hl hlt hN
 go_enter Tryd.func79,Tryd.ntmps79
 go_wp2_with (at_make;refine kB rfl _ _ _ rfl wJ rfl _ _ _ _ N rfl rfl hsh hsh ?b1 ?b2 ?_;(case b1=>omega);(case b2=>(unfold maxLen;omega));intro w1 ha1 hg1 hz1)
 rw [← vS] at ha1
 have HA1:=Kh ha1;clear ha1
 go_loopg [18] l.length (fun g i wr=>∃ (k:Nat) (bs:List Bool),g+k=l.length∧i=.int .i64 k∧bs.length=N∧Arr wr w.heap.size 4 (bls bs)∧w.grownBy wr none∧Hid (∀ s,bs.getD s false=true ↔ s∈l.take k))
 case atStart =>
  refine ⟨0,_,rfl,rfl,by simp,HA1.out,hg1,Kh fun s=>?_⟩
  simp [List.getD,List.getElem?_replicate]
  split <;> simp
 case round =>
  clear HA1 hg1 hz1
  obtain ⟨k,bs,hgk,rfl,hbl,harr,hgr,hmem⟩:=hrel
  have HGK:=Kh hgk;have HBL:=Kh hbl;have HARR:=Kh harr
  have hszr:=harr.lt
  clear hgk hbl harr
  by_cases hk:k < l.length
  ·have hk':(k:Int) < l.length:=by omega
   obtain ⟨gb,gf,gcap,e,_,_,_,_⟩:=HL.out.some_ (by rw [zN];omega)
   simp only [Value.slice.injEq] at e
   obtain ⟨rfl,-,-⟩:=e
   obtain ⟨gb',go',gcap',e,_,_,_,hra⟩:=(HL.out.kept hgr (by simp)).some_ (by rw [zN];omega)
   simp only [Value.slice.injEq,Option.some.injEq,Addr.mk.injEq,and_true] at e
   obtain ⟨⟨rfl,rfl⟩,-,-⟩:=e
   have ck:=hra.nat k hk
   obtain ⟨x,hx⟩:∃ x,x=l.getD k 0:=⟨_,rfl⟩
   have hxl:x < N:=by rw [hx,HN.out];exact nQ HLT.out hk
   have hxl':(x:Int) < N:=by omega
   rw [← hx] at ck
   have cx:=HARR.out.bool x (by rw [HBL.out];exact hxl)
   have fx:=HARR.out.frozen x
   obtain ⟨u,hu⟩:∃ u,u=bs.getD x false:=⟨_,rfl⟩
   rw [← hu] at cx
   have hset:=HARR.out.bool_set x (by rw [HBL.out];exact hxl) true
   have HSET:=Kh hset;have HX:=Kh hx
   clear hra hset hx hu
   go_wp2
   go_roundg (l.length - (k+1))
   case measure=>have:=HGK.out;omega
   case rel =>
    refine ⟨k+1,bs.set x true,by omega,by go_num,by rw [List.length_set];exact HBL.out,HSET.out,zG hgr (zH _ _ _) (by simp),Kh fun s=>?_⟩
    rw [yG (d:=0) hk,List.mem_append,List.mem_singleton,← HX.out]
    by_cases e:x=s
    ·subst e
     rw [xK _ _ _ _ (by rw [HBL.out];exact hxl)];simp
    ·rw [getD_set_ne _ _ _ _ _ e,hmem.out s]
     exact ⟨.inl,fun h=>h.elim id (fun h'=>absurd h'.symm e)⟩
  ·have hk2:k=l.length:=by have:=HGK.out;omega
   have hmem2:Hid (∀ s,bs.getD s false=true ↔ s∈l):=by
    have:=hmem.out
    rw [hk2,List.take_length] at this
    exact Kh this
   clear hmem hk2
   go_wp2
   go_loopg [8] N (fun g i wr=>∃ (k:Nat) (bs:List Bool),g=k∧i=.int .i64 ((k:Int) - 1)∧k≤N∧bs.length=N∧Arr wr w.heap.size 4 (bls bs)∧w.grownBy wr none∧Hid (∀ s,s < k→(bs.getD s false=true ↔ s∈l))∧Hid (∀ s,k≤s→s < N→bs.getD s false=xV l s))
   case atStart=>exact ⟨N,bs,rfl,rfl,Nat.le_refl _,HBL.out,HARR.out,hgr,Kh fun s _=>hmem2.out s,Kh fun s h1 h2=>by omega⟩
   case round =>
    clear hmem2 HBL HARR hgr HGK
    obtain ⟨k2,bs2,hgk2,rfl,hk2,hbl2,harr2,hgr2,hm1,hm2⟩:=hrel
    have HGK2:=Kh hgk2;have HBL2:=Kh hbl2;have HARR2:=Kh harr2
    clear hgk2 hbl2 harr2
    by_cases hp:0 < k2
    ·obtain ⟨s,rfl⟩:∃ s,k2=s+1:=⟨k2 - 1,by omega⟩
     have e1:((s+1:Nat):Int) - 1=s:=by omega
     rw [e1]
     clear e1
     have hsN:(s:Int) < N:=by omega
     go_wp2
     go_loopg [9] n (fun g i wr=>∃ (x:Nat) (c:Bool),g+x=n∧i=.int .i64 x∧Arr wr w.heap.size 4 (bls (bs2.set s c))∧w.grownBy wr none∧Hid (c=true ↔ s∈l∨∃ y,y < x∧s.testBit y=false∧xV l (s ||| 1 <<< y)=true))
     case atStart =>
      refine ⟨0,bs2.getD s false,rfl,rfl,?_,hgr2,Kh ?_⟩
      ·have:bs2.set s (bs2.getD s false)=bs2:=by
        apply List.ext_getElem
        ·simp
        ·intro i h1 h2
         rw [List.getElem_set]
         split
         ·rename_i e;subst e;simp [List.getD,List.getElem?_eq_getElem h2]
         ·rfl
       rw [this];exact HARR2.out
      ·rw [hm1.out s (by omega)]
       exact ⟨.inl,fun h=>h.elim id (fun ⟨y,hy,_⟩=>absurd hy (by omega))⟩
     case round =>
      clear HARR2 hgr2
      obtain ⟨x,c,hgx,rfl,harr3,hgr3,hc⟩:=hrel
      have HGX:=Kh hgx;have HARR3:=Kh harr3
      have hlen3:(bs2.set s c).length=N:=by rw [List.length_set];exact HBL2.out
      have cs:=HARR3.out.bool s (by rw [hlen3];omega)
      have fs:=HARR3.out.frozen s
      rw [xK _ _ _ _ (by rw [HBL2.out];omega)] at cs
      have c0w:=(H.out.kept hgr3 (by simp)).c0
      have HLEN3:=Kh hlen3
      have hs63:s < 9223372036854775808:=by omega
      clear hgx harr3 hlen3
      by_cases hx:x < n
      ·cases c
       ·have hset:=fun v=>HARR3.out.bool_set s (by rw [HLEN3.out];omega) v
        have HSET:=Kh hset
        clear hset
        cases hbit:s.testBit x
        ·have hb:=fE hs63 hbit
         have hsx:=qE (m:=x) (by omega)
         have hlt:=fR (show s < 2 ^ n by rw [← HN.out];omega) hx
         have hgt:=aF hbit
         rw [Nat.one_shiftLeft,← HN.out] at hlt
         rw [Nat.one_shiftLeft] at hgt
         obtain ⟨M,hM⟩:∃ M,M=2 ^ x:=⟨_,rfl⟩
         rw [← hM] at hsx hlt hgt
         have hM4:M≤4096:=by rw [hM];have:=uR (show x≤12 by omega);omega
         have e4:bits .or .i64 (s:Int) (M:Int)=((s ||| M:Nat):Int):=rG s M (by omega) (by omega)
         obtain ⟨S2,hS⟩:∃ S2,S2=s ||| M:=⟨_,rfl⟩
         rw [← hS] at e4 hlt hgt
         have hlt':(S2:Int) < N:=by omega
         have c2:=HARR3.out.bool S2 (by rw [HLEN3.out];exact hlt)
         rw [getD_set_ne _ _ _ _ _ (by omega),hm2.out S2 (by omega) hlt] at c2
         obtain ⟨v,hv⟩:∃ v,v=xV l S2:=⟨_,rfl⟩
         rw [← hv] at c2
         have hcv:Hid (v=true ↔ s∈l∨∃ y,y < x+1∧s.testBit y=false∧xV l (s ||| 1 <<< y)=true):=by
          have h1:=hc.out
          have e:xV l (s ||| 1 <<< x)=v:=by rw [Nat.one_shiftLeft,← hM,← hS,hv]
          constructor
          ·intro h
           exact .inr ⟨x,by omega,hbit,by rw [e];exact h⟩
          ·rintro (h|⟨y,hy,h2,h3⟩)
           ·have:=h1.2 (.inl h);cases this
           ·rcases Nat.lt_succ_iff_lt_or_eq.1 hy with hy|rfl
            ·have:=h1.2 (.inr ⟨y,hy,h2,h3⟩);cases this
            ·rw [e] at h3;exact h3
         have HBIT:=Kh hbit
         clear hbit hS hM hv
         go_wp2
         go_roundg (n - (x+1))
         case measure=>have:=HGX.out;omega
         case rel =>
          refine ⟨x+1,v,by omega,by go_num,?_,zG hgr3 (zH _ _ _) (by simp),hcv⟩
          have:=HSET.out v
          rw [List.set_set] at this
          exact this
        ·have hb:=bL hs63 hbit
         have hcv:Hid (false=true ↔ s∈l∨∃ y,y < x+1∧s.testBit y=false∧xV l (s ||| 1 <<< y)=true):=by
          have h1:=hc.out
          constructor
          ·intro h;cases h
          ·rintro (h|⟨y,hy,h2,h3⟩)
           ·exact h1.2 (.inl h)
           ·rcases Nat.lt_succ_iff_lt_or_eq.1 hy with hy|rfl
            ·exact h1.2 (.inr ⟨y,hy,h2,h3⟩)
            ·rw [hbit] at h2;cases h2
         have HBIT:=Kh hbit
         clear hbit
         go_wp2
         go_roundg (n - (x+1))
         case measure=>have:=HGX.out;omega
         case rel =>
          refine ⟨x+1,false,by omega,by go_num,?_,zG hgr3 (zH _ _ _) (by simp),hcv⟩
          have:=HSET.out false
          rw [List.set_set] at this
          exact this
       ·have hu:Hid (xV l s=true):=by
         have h1:=hc.out.1 rfl
         refine Kh ((dI HLT.out s).2 (h1.imp id fun ⟨y,hy,h2,h3⟩=>⟨y,by omega,h2,h3⟩))
        go_wp2
        go_roundg s
        case measure=>have:=HGK2.out;omega
        case rel =>
         refine ⟨s,bs2.set s true,rfl,by go_num,by omega,HLEN3.out,HARR3.out,hgr3,Kh fun z hz=>?_,Kh fun z h1 h2=>?_⟩
         ·rw [getD_set_ne _ _ _ _ _ (by omega)];exact hm1.out z (by omega)
         ·by_cases e:s=z
          ·subst e;rw [xK _ _ _ _ (by rw [HBL2.out];omega),hu.out]
          ·rw [getD_set_ne _ _ _ _ _ e];exact hm2.out z (by omega) h2
      ·have hu:Hid (xV l s=c):=by
        have hxn:x=n:=by have:=HGX.out;omega
        have h1:=hc.out
        rw [hxn] at h1
        refine Kh ?_
        rw [Bool.eq_iff_iff]
        exact (dI HLT.out s).trans h1.symm
       go_wp2
       go_roundg s
       case measure=>have:=HGK2.out;omega
       case rel =>
        refine ⟨s,bs2.set s c,rfl,by go_num,by omega,HLEN3.out,HARR3.out,hgr3,Kh fun z hz=>?_,Kh fun z h1 h2=>?_⟩
        ·rw [getD_set_ne _ _ _ _ _ (by omega)];exact hm1.out z (by omega)
        ·by_cases e:s=z
         ·subst e;rw [xK _ _ _ _ (by rw [HBL2.out];omega),hu.out]
         ·rw [getD_set_ne _ _ _ _ _ e];exact hm2.out z (by omega) h2
    ·have hk0:k2=0:=by omega
     have hall:Hid (bs2=rK N l):=by
      have h2:=hm2.out
      exact Kh (underAll_eq HBL2.out (fun s hs=>h2 s (by omega) hs))
     clear hk0
     go_wp2
     go_ret
     exact ⟨rfl,by rw [← hall.out];exact HARR2.out,hgr2⟩
theorem dM {t:List (List Int)} (h:400 < t.length):uZ t=3:=by rw [uZ,if_pos h]
theorem qK {t:List (List Int)} (h:¬ 400 < t.length) {x:Nat} (hx:x < t.length) (hb:dA t.length (t.getD x [])=false):uZ t=4:=by
 rw [uZ,if_neg h,if_neg (by omega),if_neg]
 intro ha
 have:=List.all_eq_true.1 ha t[x] (List.getElem_mem hx)
 rw [List.getD,List.getElem?_eq_getElem hx] at hb
 rw [Option.getD_some,this] at hb;cases hb
theorem bY {t:List (List Int)} (h:¬ 400 < t.length) (h0:0 < t.length) (ha:∀ x,x < t.length→dA t.length (t.getD x [])=true):uZ t=0:=by
 rw [uZ,if_neg h,if_neg (by omega),if_pos]
 rw [List.all_eq_true]
 intro r hr
 obtain ⟨x,hx,rfl⟩:=List.getElem_of_mem hr
 have:=ha x hx
 rwa [List.getD,List.getElem?_eq_getElem hx] at this
theorem bZ {n:Nat} {r:List Int} (h:r.length≠n):dA n r=false:=by simp [dA,h]
theorem jE {n:Nat} {r:List Int} {y:Nat} (hy:y < r.length) (h:r.getD y 0 < 0∨n≤r.getD y 0):dA n r=false:=by
 rw [← Bool.not_eq_true]
 intro hr
 have:=(qS.1 hr).2 y hy
 omega
def RowsOk (t:List (List Int)) (k:Nat):Prop:=∀ x,x < k→dA t.length (t.getD x [])=true
def qAF (n:Nat) (r:List Int) (j:Nat):Prop:=∀ y,y < j→0≤r.getD y 0∧r.getD y 0 < n
set_option maxHeartbeats 400000 in
theorem fN (B:Nat) (w:World) (v:Value) (t:List (List Int)) (h:Mat B w v t) :
  Calls Tryd.prog 118 #[v] w fun e w'=>e=.returned (.int .i64 (uZ t))∧w=w':=by
 by_cases h0:0 < t.length
 ·obtain ⟨b,off,cap,A,C,rfl,hc1,hc2,hm⟩:=h.some_ h0
  have hmx:cap≤9223372036854775807:=by unfold maxLen at hc2;omega
  have HM:=Kh hm;clear hm
  by_cases h4:400 < t.length
  ·go_enter Tryd.func118,Tryd.ntmps118
   go_wp2
   go_ret
   exact ⟨yH (dM h4).symm,rfl⟩
  ·have hne:((t.length:Int) == 0)=false:=by rw [beq_eq_false_iff_ne];omega
   go_enter Tryd.func118,Tryd.ntmps118
   go_wp2
   go_loopg [15] t.length (fun g i wr=>∃ k:Nat,g+k=t.length∧i=.int .i64 k∧RowsOk t k∧w=wr)
   case atStart=>exact ⟨0,rfl,rfl,fun x hx=>absurd hx (by omega),rfl⟩
   case round =>
    obtain ⟨k,hg,rfl,hok,rfl⟩:=hrel
    have OK:=Kh hok;clear hok
    by_cases hk:k < t.length
    ·have hcx:=HM.out.hd k hk
     have hrow:=HM.out.row k hk
     have hrl:=hrow.len_le
     rw [zM] at hrl
     unfold maxLen at hrl
     obtain ⟨r,hr⟩:∃ r,r=t.getD k []:=⟨_,rfl⟩
     rw [← hr] at hcx hrow hrl
     have HG:=Kh hg;have HR:=Kh hr;clear hg hr
     by_cases hl:r.length=t.length
     ·have HLL:=Kh hl
      have hl':((r.length:Int) != t.length)=false:=by rw [hl];simp
      obtain ⟨rb,ro,rc,e,hb,h1,h2,hra⟩:=hrow.some_ (by rw [zM];omega)
      simp only [Value.slice.injEq] at e
      obtain ⟨eA,-,rfl⟩:=e
      rw [eA] at hcx
      have HA:=Kh eA;have RA:=Kh hra
      rw [hl] at hcx
      rw [zM,hl] at h1
      clear eA hra hl
      go_wp2
      go_loopg [26] t.length (fun g j wr'=>∃ y:Nat,g+y=t.length∧j=.int .i64 y∧qAF t.length r y∧w=wr')
      case atStart=>exact ⟨0,rfl,rfl,fun x hx=>absurd hx (by omega),rfl⟩
      case round =>
       obtain ⟨y,hg,rfl,hok,rfl⟩:=hrel
       have OKY:=Kh hok;clear hok
       by_cases hy:y < t.length
       ·have hcy:=RA.out.int y (by rw [HLL.out];exact hy)
        obtain ⟨z,hz⟩:∃ z,z=r.getD y 0:=⟨_,rfl⟩
        rw [← hz] at hcy
        have HZ:=Kh hz;have HG2:=Kh hg;clear hz hg
        by_cases hb1:z < 0
        ·go_wp2
         go_ret
         exact ⟨yH (qK h4 hk (jE (y:=y) (by rw [← HR.out,HLL.out];exact hy) (by rw [← HR.out,← HZ.out];exact .inl hb1))).symm,rfl⟩
        ·by_cases hb2:(t.length:Int)≤z
         ·go_wp2
          go_ret
          exact ⟨yH (qK h4 hk (jE (y:=y) (by rw [← HR.out,HLL.out];exact hy) (by rw [← HR.out,← HZ.out];exact .inr hb2))).symm,rfl⟩
         ·go_wp2
          go_roundg (t.length - (y+1))
          case measure=>have:=HG2.out;omega
          case rel =>
           refine ⟨y+1,by omega,by go_num,fun x hx=>?_,rfl⟩
           rcases Nat.lt_succ_iff_lt_or_eq.1 hx with hx|rfl
           ·exact OKY.out x hx
           ·rw [← HZ.out];omega
       ·go_wp2
        go_roundg (t.length - (k+1))
        case measure=>have:=HG.out;omega
        case rel =>
         refine ⟨k+1,by omega,by go_num,fun x hx=>?_,rfl⟩
         rcases Nat.lt_succ_iff_lt_or_eq.1 hx with hx|rfl
         ·exact OK.out x hx
         ·rw [← HR.out,qS]
          exact ⟨HLL.out,fun z hz=>OKY.out z (by rw [HLL.out] at hz;omega)⟩
     ·have hl':((r.length:Int) != t.length)=true:=by rw [bne_iff_ne];omega
      have HLL:=Kh hl;clear hl
      go_wp2
      go_ret
      exact ⟨yH (qK h4 hk (by rw [← HR.out];exact bZ HLL.out)).symm,rfl⟩
    ·go_wp2
     go_ret
     exact ⟨yH (bY h4 h0 (fun x hx=>OK.out x (by omega))).symm,rfl⟩
 ·obtain ⟨a,c,e⟩:=h.shape
  have ht:t=[]:=List.eq_nil_of_length_eq_zero (by omega)
  subst ht
  subst e
  clear h0
  go_enter Tryd.func118,Tryd.ntmps118
  go_wp2
  go_ret
  exact ⟨rfl,rfl⟩
set_option maxHeartbeats 400000 in
theorem bX (B:Nat) (w:World) (v:Value) (t:List (List Int)) (h:Mat B w v t) :
  Calls Tryd.prog 92 #[v] w fun e w'=>e=.returned (.int .i64 (uZ t))∧w=w':=by
 by_cases h0:0 < t.length
 ·obtain ⟨b,off,cap,A,C,rfl,hc1,hc2,hm⟩:=h.some_ h0
  have hmx:cap≤9223372036854775807:=by unfold maxLen at hc2;omega
  have HM:=Kh hm;clear hm
  by_cases h4:400 < t.length
  ·go_enter Tryd.func92,Tryd.ntmps92
   go_wp2
   go_ret
   exact ⟨yH (dM h4).symm,rfl⟩
  ·have hne:((t.length:Int) == 0)=false:=by rw [beq_eq_false_iff_ne];omega
   go_enter Tryd.func92,Tryd.ntmps92
   go_wp2
   go_loopg [15] t.length (fun g i wr=>∃ k:Nat,g+k=t.length∧i=.int .i64 k∧RowsOk t k∧w=wr)
   case atStart=>exact ⟨0,rfl,rfl,fun x hx=>absurd hx (by omega),rfl⟩
   case round =>
    obtain ⟨k,hg,rfl,hok,rfl⟩:=hrel
    have OK:=Kh hok;clear hok
    by_cases hk:k < t.length
    ·have hcx:=HM.out.hd k hk
     have hrow:=HM.out.row k hk
     have hrl:=hrow.len_le
     rw [zM] at hrl
     unfold maxLen at hrl
     obtain ⟨r,hr⟩:∃ r,r=t.getD k []:=⟨_,rfl⟩
     rw [← hr] at hcx hrow hrl
     have HG:=Kh hg;have HR:=Kh hr;clear hg hr
     by_cases hl:r.length=t.length
     ·have HLL:=Kh hl
      have hl':((r.length:Int) != t.length)=false:=by rw [hl];simp
      obtain ⟨rb,ro,rc,e,hb,h1,h2,hra⟩:=hrow.some_ (by rw [zM];omega)
      simp only [Value.slice.injEq] at e
      obtain ⟨eA,-,rfl⟩:=e
      rw [eA] at hcx
      have HA:=Kh eA;have RA:=Kh hra
      rw [hl] at hcx
      rw [zM,hl] at h1
      clear eA hra hl
      go_wp2
      go_loopg [26] t.length (fun g j wr'=>∃ y:Nat,g+y=t.length∧j=.int .i64 y∧qAF t.length r y∧w=wr')
      case atStart=>exact ⟨0,rfl,rfl,fun x hx=>absurd hx (by omega),rfl⟩
      case round =>
       obtain ⟨y,hg,rfl,hok,rfl⟩:=hrel
       have OKY:=Kh hok;clear hok
       by_cases hy:y < t.length
       ·have hcy:=RA.out.int y (by rw [HLL.out];exact hy)
        obtain ⟨z,hz⟩:∃ z,z=r.getD y 0:=⟨_,rfl⟩
        rw [← hz] at hcy
        have HZ:=Kh hz;have HG2:=Kh hg;clear hz hg
        by_cases hb1:z < 0
        ·go_wp2
         go_ret
         exact ⟨yH (qK h4 hk (jE (y:=y) (by rw [← HR.out,HLL.out];exact hy) (by rw [← HR.out,← HZ.out];exact .inl hb1))).symm,rfl⟩
        ·by_cases hb2:(t.length:Int)≤z
         ·go_wp2
          go_ret
          exact ⟨yH (qK h4 hk (jE (y:=y) (by rw [← HR.out,HLL.out];exact hy) (by rw [← HR.out,← HZ.out];exact .inr hb2))).symm,rfl⟩
         ·go_wp2
          go_roundg (t.length - (y+1))
          case measure=>have:=HG2.out;omega
          case rel =>
           refine ⟨y+1,by omega,by go_num,fun x hx=>?_,rfl⟩
           rcases Nat.lt_succ_iff_lt_or_eq.1 hx with hx|rfl
           ·exact OKY.out x hx
           ·rw [← HZ.out];omega
       ·go_wp2
        go_roundg (t.length - (k+1))
        case measure=>have:=HG.out;omega
        case rel =>
         refine ⟨k+1,by omega,by go_num,fun x hx=>?_,rfl⟩
         rcases Nat.lt_succ_iff_lt_or_eq.1 hx with hx|rfl
         ·exact OK.out x hx
         ·rw [← HR.out,qS]
          exact ⟨HLL.out,fun z hz=>OKY.out z (by rw [HLL.out] at hz;omega)⟩
     ·have hl':((r.length:Int) != t.length)=true:=by rw [bne_iff_ne];omega
      have HLL:=Kh hl;clear hl
      go_wp2
      go_ret
      exact ⟨yH (qK h4 hk (by rw [← HR.out];exact bZ HLL.out)).symm,rfl⟩
    ·go_wp2
     go_ret
     exact ⟨yH (bY h4 h0 (fun x hx=>OK.out x (by omega))).symm,rfl⟩
 ·obtain ⟨a,c,e⟩:=h.shape
  have ht:t=[]:=List.eq_nil_of_length_eq_zero (by omega)
  subst ht
  subst e
  clear h0
  go_enter Tryd.func92,Tryd.ntmps92
  go_wp2
  go_ret
  exact ⟨rfl,rfl⟩
end Go.Proofs.YtdjhoadoiknaoaaDoor
