/- Part 5 of the proof: Ctz, Sets0. -/
import Derived.Test.YtdjhoadoiknaoaaDoorZC4
import Derived.Laws.Bits64b
import Derived.Laws.BitsAllLaws
import Derived.Lib.TrailingZeros
import Derived.Deep.DeepCutAuto
import Derived.Deep.OwnRows
import Derived.StillTailTactics
set_option linter.unusedVariables false
set_option linter.unusedSimpArgs false
namespace Go.Proofs.YtdjhoadoiknaoaaDoor
open Go.RowKit
def TabOk (w:World):Prop:=1 < w.heap.size∧∀ j,j < Lib.deBruijn64tab.length→w.cell? ⟨1,j,none⟩=some (.int .u8 (Lib.deBruijn64tab.getD j 0))
theorem TabOk.kept {w w':World} {row:Option Nat} (h:TabOk w) (hg:w.grownBy w' row) (hr:row≠some 1):TabOk w' :=
 ⟨Nat.lt_of_lt_of_le h.1 hg.size,fun j hj=>(World.cell?_of_block (hg.block _ h.1 (fun e=>hr e.symm))).trans (h.2 j hj)⟩
theorem TabOk.of_heap {w w':World} (h:TabOk w) (e:w'.heap=w.heap):TabOk w' :=
 ⟨by rw [e];exact h.1,fun j hj=>(World.cell?_of_block (by rw [e])).trans (h.2 j hj)⟩
theorem tz64_key (x a:Nat) (hx:x < 18446744073709551616) (hx0:x≠0) (hlow:x &&& (18446744073709551616 - x)=a) :
  IntKind.u64.wrap (bits BinOp.and IntKind.u64 (x:Int) (IntKind.u64.wrap (-(x:Int))) * 285870213051353865) / 288230376151711744=((a * 285870213051353865 % 18446744073709551616 / 288230376151711744:Nat):Int):=by
 have e1:IntKind.u64.wrap (-(x:Int))=((18446744073709551616 - x:Nat):Int):=by rw [IntKind.wrap_u64];omega
 rw [e1,bits_and_u64_nat x _ hx (by omega),hlow,IntKind.wrap_u64]
 omega
set_option maxHeartbeats 1000000 in
theorem tz64_core (x k idx:Nat) (w:World) (hx0:((x:Int) == 0)=false)
  (key:IntKind.u64.wrap (bits BinOp.and IntKind.u64 (x:Int) (IntKind.u64.wrap (-(x:Int))) * 285870213051353865) / 288230376151711744=(idx:Int))
  (hi:idx < 64) (hk:k < 64) (hcell:w.cell? ⟨1,idx,none⟩=some (.int .u8 k)) :
  Calls Tryd.prog 110 #[.int .u64 x] w fun e w'=>e=.returned (.int .i64 k)∧w=w':=by
 go_enter Tryd.func110,Tryd.ntmps110
 go_wp2_with (simp only [key])
 go_ret
 exact ⟨rfl,rfl⟩
theorem tz_any (x:Nat) (hx0:x≠0) (hx:x < 18446744073709551616) (w:World) (hT:TabOk w) :
  Calls Tryd.prog 88 #[.int .u64 x] w fun e w'=>e=.returned (.int .i64 (Lib.ctz 64 x:Nat))∧w=w':=by
 have c64:Hid (Calls Tryd.prog 110 #[.int .u64 x] w fun e w'=>e=.returned (.int .i64 (Lib.ctz 64 x:Nat))∧w=w'):=by
  obtain ⟨hlow,hk⟩:=Lib.lowest_bit 64 x hx0 hx
  obtain ⟨hi,htab⟩:=Lib.deBruijn64_at _ hk
  have hcell:=hT.2 _ hi
  rw [htab] at hcell
  exact tz64_core x _ _ w (by simp;omega) (tz64_key x _ hx hx0 hlow) hi hk hcell
 have hw:IntKind.u64.wrap (x:Int)=(x:Int):=by rw [IntKind.wrap_u64];omega
 clear hT
 go_enter Tryd.func88,Tryd.ntmps88
 go_wp2_with (go_at_call 110;refine c64.out.mono ?_;rintro e w' ⟨rfl,rfl⟩)
 go_ret
 exact ⟨rfl,rfl⟩
def low (x:Nat):Nat:=Lib.ctz 64 x
theorem jK {x:Nat} (h0:x≠0) (hx:x < 18446744073709551616):∃ m,x=2 ^ low x * (2 * m+1):=by
 obtain ⟨m,hm,_⟩:=Lib.ctzFrom_spec 64 x (by omega) hx
 exact ⟨m,by rw [low,Lib.ctz,if_neg h0];exact hm⟩
theorem div_low {k m:Nat}:2 ^ k * (2 * m+1) / 2 ^ k=2 * m+1:=Nat.mul_div_cancel_left _ (Nat.two_pow_pos k)
theorem div_low' {k m:Nat}:(2 ^ k * (2 * m+1) - 1) / 2 ^ k=2 * m:=by
 have hp:=Nat.two_pow_pos k
 have e:2 ^ k * (2 * m+1) - 1=2 ^ k - 1+2 ^ k * (2 * m):=by rw [Nat.mul_add,Nat.mul_one];omega
 rw [e,Nat.add_mul_div_left _ _ hp,Nat.div_eq_of_lt (by omega)]
 omega
theorem iG {x:Nat} (h0:x≠0) (hx:x < 18446744073709551616):x.testBit (low x)=true:=by
 obtain ⟨m,hm⟩:=jK h0 hx
 rw [Nat.testBit_eq_decide_div_mod_eq,decide_eq_true_eq]
 have:x / 2 ^ low x=2 * m+1:=by
  conv=>lhs;lhs;rw [hm]
  exact div_low
 omega
theorem low_least {x z:Nat} (h0:x≠0) (hx:x < 18446744073709551616) (hz:z < low x):x.testBit z=false:=by
 obtain ⟨m,hm⟩:=jK h0 hx
 rw [hm,Nat.testBit_two_pow_mul]
 simp;omega
def rest (x:Nat):Nat:=x &&& (x - 1)
theorem lO {x:Nat} (h0:x≠0) (hx:x < 18446744073709551616) (z:Nat):(rest x).testBit z=(x.testBit z && decide (z≠low x)):=by
 obtain ⟨m,hm⟩:=jK h0 hx
 rw [rest,Nat.testBit_and]
 rcases Nat.lt_trichotomy z (low x) with h|h|h
 ·rw [low_least h0 hx h];simp
 ·subst h
  have:(x - 1).testBit (low x)=false:=by
   rw [Nat.testBit_eq_decide_div_mod_eq,decide_eq_false_iff_not]
   have:(x - 1) / 2 ^ low x=2 * m:=by
    conv=>lhs;lhs;rw [hm]
    exact div_low'
   omega
  rw [this];simp
 ·obtain ⟨j,rfl⟩:∃ j,z=low x+1+j:=⟨z - low x - 1,by omega⟩
  have e:(x - 1).testBit (low x+1+j)=x.testBit (low x+1+j):=by
   rw [Nat.testBit_eq_decide_div_mod_eq,Nat.testBit_eq_decide_div_mod_eq]
   have d1:x / 2 ^ (low x+1+j)=m / 2 ^ j:=by
    rw [Nat.add_assoc,Nat.pow_add,← Nat.div_div_eq_div_mul]
    conv=>lhs;lhs;lhs;rw [hm]
    rw [div_low,Nat.pow_add,← Nat.div_div_eq_div_mul]
    congr 1;omega
   have d2:(x - 1) / 2 ^ (low x+1+j)=m / 2 ^ j:=by
    rw [Nat.add_assoc,Nat.pow_add,← Nat.div_div_eq_div_mul]
    conv=>lhs;lhs;lhs;rw [hm]
    rw [div_low',Nat.pow_add,← Nat.div_div_eq_div_mul]
    congr 1;omega
   rw [d1,d2]
  rw [e,Bool.and_self]
  have:low x+1+j≠low x:=by omega
  simp [this]
theorem rest_lt {x:Nat} (h0:x≠0):rest x < x:=by
 have:rest x≤x - 1:=Nat.and_le_right
 omega
theorem iX {x n:Nat} (h0:x≠0) (hx:x < 2 ^ n) (hn:n≤64):low x < n:=by
 have h64:x < 18446744073709551616:=Nat.lt_of_lt_of_le hx (Nat.pow_le_pow_right (by omega) hn)
 rcases Nat.lt_or_ge (low x) n with h|h
 ·exact h
 ·have:=iG h0 h64
  rw [lG hx h] at this;cases this
theorem mI (a:Nat) (ha:a < 9223372036854775808):(BitVec.ofInt 64 (a:Int)).toNat=a:=by
 rw [BitVec.ofInt_natCast,BitVec.toNat_ofNat];exact Nat.mod_eq_of_lt (by omega)
theorem uQ (a b:Nat) (ha:a < 9223372036854775808) (hb:b < 9223372036854775808):bits .and .i64 (a:Int) (b:Int)=((a &&& b:Nat):Int):=by
 have hx:a &&& b < 2 ^ 63:=Nat.and_lt_two_pow _ (by omega)
 show IntKind.i64.wrap ((BitVec.ofInt 64 (a:Int) &&& BitVec.ofInt 64 (b:Int)).toNat:Int)=_
 rw [BitVec.toNat_and,mI a ha,mI b hb,IntKind.wrap_i64]
 omega
theorem tZ (a b:Nat) (ha:a < 9223372036854775808) (hb:b < 9223372036854775808):bits .or .i64 (a:Int) (b:Int)=((a ||| b:Nat):Int):=by
 have hx:a ||| b < 2 ^ 63:=Nat.or_lt_two_pow (by omega) (by omega)
 show IntKind.i64.wrap ((BitVec.ofInt 64 (a:Int) ||| BitVec.ofInt 64 (b:Int)).toNat:Int)=_
 rw [BitVec.toNat_or,mI a ha,mI b hb,IntKind.wrap_i64]
 omega
theorem jF (m:Nat):(2:Int) ^ m=((2 ^ m:Nat):Int):=by simp
theorem uG {m n:Nat} (h:m≤n):2 ^ m≤2 ^ n:=Nat.pow_le_pow_right (by omega) h
theorem rW {m:Nat} (h:m≤60):wrap64 ((2:Int) ^ m)=((2 ^ m:Nat):Int):=by
 have h2:2 ^ m≤2 ^ 60:=uG h
 rw [jF]
 generalize 2 ^ m=K at h2
 exact IntWalk.wrap64_in _ ⟨by omega,by omega⟩
theorem pX {m:Nat} (h:m≤60):IntKind.i64.wrap ((2:Int) ^ m)=((2 ^ m:Nat):Int):=by
 have h2:2 ^ m≤2 ^ 60:=uG h
 rw [jF]
 generalize 2 ^ m=K at h2
 exact IntWalk.i64_in _ (by omega)
theorem validSet_any (w:World) (a:Option Addr) (n cap:Nat) (s:Int) (hn:n≤12) :
  Calls Tryd.prog 52 #[.slice a n cap,.int .i64 s] w fun e w'=>e=.returned (.bool (decide (0≤s∧s < (2 ^ n:Nat))))∧w=w':=by
 have hsh:=rW (m:=n) (by omega)
 obtain ⟨N,hN⟩:∃ N,N=2 ^ n:=⟨_,rfl⟩
 rw [← hN] at hsh ⊢
 have HN:=Kh hN
 clear hN
 by_cases h0:0≤s
 ·go_enter Tryd.func52,Tryd.ntmps52
  go_wp2
  go_ret
  exact ⟨zT (by simp [h0]),rfl⟩
 ·go_enter Tryd.func52,Tryd.ntmps52
  go_wp2
  go_ret
  exact ⟨zT (by simp;omega),rfl⟩
theorem mk_int (n:Nat) (h:n≤4096):∀ w:World,(Instr.makeSlice 22 (.int .i64 (n:Int)) (.int .i64 (n:Int))).run Tryd.prog w=.ok (.slice (some ⟨w.heap.size,0,none⟩) n n) (w.alloc (.cells (madeCells #[.int .i64 0] n) 3)) :=
 fun w=>run_make_row' 22 3 (.int .i64 0) 8 Tryd.underlying22 (by kernel_rfl) rfl .i64 .i64 n (by omega) (by omega) w
theorem mk_row (n:Nat) (h:n≤4096):∀ w:World,(Instr.makeSlice 26 (.int .i64 (n:Int)) (.int .i64 (n:Int))).run Tryd.prog w=.ok (.slice (some ⟨w.heap.size,0,none⟩) n n) (w.alloc (.cells (madeCells #[.slice none 0 0] n) 22)) :=
 fun w=>run_make_row' 26 22 (.slice none 0 0) 24 Tryd.underlying26 (by kernel_rfl) rfl .i64 .i64 n (by omega) (by omega) w
theorem lT (n:Nat):(madeCells #[.int .i64 0] n).toList=nats (List.replicate n 0):=by
 have:=mK (z:=.int .i64 0) rfl n
 rw [Nat.mul_one] at this
 rw [xX];exact this
theorem made_row (n:Nat):(madeCells #[.slice none 0 0] n).toList=List.replicate n (.slice none 0 0):=by
 have:=mK (z:=.slice none 0 0) rfl n
 rw [Nat.mul_one] at this
 exact this
def NewS (w wx:World) (n N:Nat) (s3:Value):Prop:=∃ p g0 go:Nat,s3=.pointer (some ⟨p,0,none⟩)∧wx.heap[p]?=some (.cells #[.int .i64 n,.slice (some ⟨g0,0,none⟩) n n,.slice (some ⟨go,0,none⟩) N N] 113 (0,0)) ∧
 Arr wx g0 22 (List.replicate n (.slice none 0 0))∧Arr wx go 3 (nats (List.replicate N 0))∧w.grownBy wx none∧w.heap.size≤p∧w.heap.size≤g0∧w.heap.size≤go
theorem newS1 (w:World) (n N:Nat):NewS w (((w.alloc (.cells (madeCells #[.slice none 0 0] n) 22)).alloc (.cells (madeCells #[.int .i64 0] N) 3)).alloc
  (.cells #[.int .i64 n,.slice (some ⟨w.heap.size,0,none⟩) n n,.slice (some ⟨w.heap.size+1,0,none⟩) N N] 113)).drew n N (.pointer (some ⟨w.heap.size+1+1,0,none⟩)):=by
 have a1:=Arr.new w 22 (madeCells #[.slice none 0 0] n)
 have a2:=Arr.new (w.alloc (.cells (madeCells #[.slice none 0 0] n) 22)) 3 (madeCells #[.int .i64 0] N)
 rw [zO] at a2
 rw [made_row] at a1
 rw [lT] at a2
 have b1:=(a1.kept (Ga _ (.cells (madeCells #[.int .i64 0] N) 3) none) (by simp)).kept (Ga _ (.cells #[.int .i64 n,.slice (some ⟨w.heap.size,0,none⟩) n n,.slice (some ⟨w.heap.size+1,0,none⟩) N N] 113) none) (by simp)
 have b2:=a2.kept (Ga _ (.cells #[.int .i64 n,.slice (some ⟨w.heap.size,0,none⟩) n n,.slice (some ⟨w.heap.size+1,0,none⟩) N N] 113) none) (by simp)
 refine ⟨w.heap.size+1+1,w.heap.size,w.heap.size+1,rfl,?_,b1.of_heap rfl,b2.of_heap rfl,xJ (xG (xG (Ga w _ none) _) _) rfl rfl rfl rfl,by omega,Nat.le_refl _,by omega⟩
 have:=heap_alloc_new ((w.alloc (.cells (madeCells #[.slice none 0 0] n) 22)).alloc (.cells (madeCells #[.int .i64 0] N) 3)) (.cells #[.int .i64 n,.slice (some ⟨w.heap.size,0,none⟩) n n,.slice (some ⟨w.heap.size+1,0,none⟩) N N] 113)
 rw [zO,zO] at this
 exact this
theorem newS2 (w:World) (n N:Nat):NewS w (((w.alloc (.cells (madeCells #[.int .i64 0] N) 3)).alloc (.cells (madeCells #[.slice none 0 0] n) 22)).alloc
  (.cells #[.int .i64 n,.slice (some ⟨w.heap.size+1,0,none⟩) n n,.slice (some ⟨w.heap.size,0,none⟩) N N] 113)).drew n N (.pointer (some ⟨w.heap.size+1+1,0,none⟩)):=by
 have a1:=Arr.new w 3 (madeCells #[.int .i64 0] N)
 have a2:=Arr.new (w.alloc (.cells (madeCells #[.int .i64 0] N) 3)) 22 (madeCells #[.slice none 0 0] n)
 rw [zO] at a2
 rw [lT] at a1
 rw [made_row] at a2
 have b1:=(a1.kept (Ga _ (.cells (madeCells #[.slice none 0 0] n) 22) none) (by simp)).kept (Ga _ (.cells #[.int .i64 n,.slice (some ⟨w.heap.size+1,0,none⟩) n n,.slice (some ⟨w.heap.size,0,none⟩) N N] 113) none) (by simp)
 have b2:=a2.kept (Ga _ (.cells #[.int .i64 n,.slice (some ⟨w.heap.size+1,0,none⟩) n n,.slice (some ⟨w.heap.size,0,none⟩) N N] 113) none) (by simp)
 refine ⟨w.heap.size+1+1,w.heap.size+1,w.heap.size,rfl,?_,b2.of_heap rfl,b1.of_heap rfl,xJ (xG (xG (Ga w _ none) _) _) rfl rfl rfl rfl,by omega,by omega,Nat.le_refl _⟩
 have:=heap_alloc_new ((w.alloc (.cells (madeCells #[.int .i64 0] N) 3)).alloc (.cells (madeCells #[.slice none 0 0] n) 22)) (.cells #[.int .i64 n,.slice (some ⟨w.heap.size+1,0,none⟩) n n,.slice (some ⟨w.heap.size,0,none⟩) N N] 113)
 rw [zO,zO] at this
 exact this
def rowOf (n:Nat) (tb:Nat→Nat→Nat) (x:Nat):List Nat:=(List.range (2 ^ n)).map fun b=>zP n tb (1 <<< x) b
def uY (n:Nat) (tb:Nat→Nat→Nat) (x j:Nat):List Nat:=(List.range (2 ^ n)).map fun b=>if b < j then zP n tb (1 <<< x) b else 0
theorem qV (n:Nat) (tb:Nat→Nat→Nat) (x j:Nat):(uY n tb x j).length=2 ^ n:=by simp [uY]
theorem rowOf_length (n:Nat) (tb:Nat→Nat→Nat) (x:Nat):(rowOf n tb x).length=2 ^ n:=by simp [rowOf]
theorem rowPart_get {n:Nat} {tb:Nat→Nat→Nat} {x j b:Nat} (hb:b < 2 ^ n):(uY n tb x j).getD b 0=if b < j then zP n tb (1 <<< x) b else 0:=by
 simp [uY,List.getD,hb]
theorem rowOf_get {n:Nat} {tb:Nat→Nat→Nat} {x b:Nat} (hb:b < 2 ^ n):(rowOf n tb x).getD b 0=zP n tb (1 <<< x) b:=by
 simp [rowOf,List.getD,hb]
theorem rowPart_set {n:Nat} {tb:Nat→Nat→Nat} {x j:Nat}:(uY n tb x j).set j (zP n tb (1 <<< x) j)=uY n tb x (j+1):=by
 apply List.ext_getElem
 ·simp [uY]
 ·intro i h1 h2
  rw [List.getElem_set]
  simp only [uY,List.getElem_map,List.getElem_range]
  by_cases e:j=i
  ·subst e;simp
  ·rw [if_neg e]
   by_cases h:i < j
   ·rw [if_pos h,if_pos (by omega)]
   ·rw [if_neg h,if_neg (by omega)]
theorem rowPart_full (n:Nat) (tb:Nat→Nat→Nat) (x j:Nat) (h:2 ^ n≤j):uY n tb x j=rowOf n tb x:=by
 unfold uY rowOf
 refine List.map_congr_left fun b hb=>?_
 rw [List.mem_range] at hb
 rw [if_pos (by omega)]
theorem rowPart_zero (n:Nat) (tb:Nat→Nat→Nat) (x:Nat):uY n tb x 1=List.replicate (2 ^ n) 0:=by
 apply List.ext_getElem
 ·simp [uY]
 ·intro i h1 h2
  simp only [uY,List.getElem_map,List.getElem_range,List.getElem_replicate]
  split
  ·have:i=0:=by omega
   subst this
   apply Nat.eq_of_testBit_eq
   intro z
   rw [Nat.zero_testBit,← Bool.not_eq_true,xD]
   rintro ⟨_,y,_,_,_,h,_⟩
   simp at h
  ·rfl
theorem lt64 {j n:Nat} (hj:j < 2 ^ n) (hn:n≤12):j < 18446744073709551616:=by
 have:=uG hn
 omega
theorem row_step {n:Nat} {tb:Nat→Nat→Nat} {x j:Nat} (hx:x < n) (h0:j≠0) (hj:j < 2 ^ n) (hn:n≤12):zP n tb (1 <<< x) (rest j) ||| 1 <<< tb x (low j)=zP n tb (1 <<< x) j:=by
 have h64:=lt64 hj hn
 refine lB fun z=>?_
 rw [Nat.testBit_or,Bool.or_eq_true,xD,xY,decide_eq_true_eq]
 constructor
 ·rintro (⟨a,y,ha,hy,h1,h2,e⟩|e)
  ·rw [lO h0 h64,Bool.and_eq_true] at h2
   exact ⟨a,y,ha,hy,h1,h2.1,e⟩
  ·exact ⟨x,low j,hx,iX h0 hj (by omega),by rw [xY];simp,iG h0 h64,e⟩
 ·rintro ⟨a,y,ha,hy,h1,h2,e⟩
  rw [xY,decide_eq_true_eq] at h1
  subst h1
  by_cases hl:y=low j
  ·subst hl;exact .inr e
  ·exact .inl ⟨x,y,ha,hy,by rw [xY];simp,by rw [lO h0 h64,h2];simp [hl],e⟩
theorem prod_step {n:Nat} {tb:Nat→Nat→Nat} {a b:Nat} (h0:a≠0) (ha:a < 2 ^ n) (hn:n≤12):zP n tb (1 <<< low a) b ||| zP n tb (rest a) b=zP n tb a b:=by
 have h64:=lt64 ha hn
 refine lB fun z=>?_
 rw [Nat.testBit_or,Bool.or_eq_true,xD,xD]
 constructor
 ·rintro (⟨x,y,hx,hy,h1,h2,e⟩|⟨x,y,hx,hy,h1,h2,e⟩)
  ·rw [xY,decide_eq_true_eq] at h1
   subst h1
   exact ⟨_,y,hx,hy,iG h0 h64,h2,e⟩
  ·rw [lO h0 h64,Bool.and_eq_true] at h1
   exact ⟨x,y,hx,hy,h1.1,h2,e⟩
 ·rintro ⟨x,y,hx,hy,h1,h2,e⟩
  by_cases hl:x=low a
  ·subst hl;exact .inl ⟨_,y,hx,hy,by rw [xY];simp,h2,e⟩
  ·exact .inr ⟨x,y,hx,hy,by rw [lO h0 h64,h1];simp [hl],h2,e⟩
theorem prod_zero {n:Nat} {tb:Nat→Nat→Nat} {b:Nat}:zP n tb 0 b=0:=by
 apply Nat.eq_of_testBit_eq
 intro z
 rw [Nat.zero_testBit,← Bool.not_eq_true,xD]
 rintro ⟨x,y,_,_,h,_⟩
 simp at h
def hdrs (gr:Nat→Nat) (N n k:Nat):List Value:=(List.range n).map fun x=>if x < k then .slice (some ⟨gr x,0,none⟩) N N else .slice none 0 0
theorem sB (gr:Nat→Nat) (N n k:Nat):(hdrs gr N n k).length=n:=by simp [hdrs]
theorem hdrs_zero (gr:Nat→Nat) (N n:Nat):hdrs gr N n 0=List.replicate n (.slice none 0 0):=by
 apply List.ext_getElem
 ·simp [hdrs]
 ·intro i h1 h2;simp [hdrs]
theorem hdrs_get {gr:Nat→Nat} {N n k x:Nat} (hx:x < k) (hn:x < n):(hdrs gr N n k)[x]'(by rw [sB];exact hn)=.slice (some ⟨gr x,0,none⟩) N N:=by simp [hdrs,hx]
theorem hdrs_set {gr:Nat→Nat} {N n k q:Nat}:(hdrs gr N n k).set k (.slice (some ⟨q,0,none⟩) N N)=hdrs (fun x=>if x=k then q else gr x) N n (k+1):=by
 apply List.ext_getElem
 ·simp [hdrs]
 ·intro i h1 h2
  rw [List.getElem_set]
  simp only [hdrs,List.getElem_map,List.getElem_range]
  by_cases e:k=i
  ·subst e;simp
  ·rw [if_neg e]
   by_cases h:i < k
   ·rw [if_pos h,if_pos (by omega),if_neg (by omega)]
   ·rw [if_neg h,if_neg (by omega)]
structure SetsAt (F C:Nat) (w:World) (p go g0 n k kh:Nat) (tb:Nat→Nat→Nat) (gr:Nat→Nat) (om:List Nat):Prop where
 box:w.heap[p]?=some (.cells #[.int .i64 n,.slice (some ⟨g0,0,none⟩) n n,.slice (some ⟨go,0,none⟩) (2 ^ n) (2 ^ n)] 113 (0,0))
 rows:Arr w g0 22 (hdrs gr (2 ^ n) n kh)
 rowc:∀ x,x < k→Arr w (gr x) 3 (nats (rowOf n tb x))
 oms:Arr w go 3 (nats om)
 oml:om.length=2 ^ n
 omok:∀ a,a < 2 ^ n→om.getD a 0=0∨om.getD a 0=1+yC n tb a
 ne:∀ x,x < k→gr x≠go
 lop:F≤p∧p < C
 log:F≤g0∧g0 < C
 loo:F≤go∧go < C
 lor:∀ x,x < k→F≤gr x∧gr x < C
def wH (F C:Nat) (w:World) (p go n:Nat) (tb:Nat→Nat→Nat):Prop:=∃ g0 gr om,SetsAt F C w p go g0 n n n tb gr om
theorem SetsAt.kept {F C p go g0 n k kh:Nat} {w w':World} {tb:Nat→Nat→Nat} {gr:Nat→Nat} {om:List Nat} {row:Option Nat} (h:SetsAt F C w p go g0 n k kh tb gr om) (hg:w.grownBy w' row) (hr:∀ q,row=some q→q < F∨C≤q):SetsAt F C w' p go g0 n k kh tb gr om:=by
 have key:∀ q,F≤q→q < C→row≠some q:=fun q h1 h2 e=>by have:=hr q e;omega
 exact ⟨zE h.box hg (key p h.lop.1 h.lop.2),h.rows.kept hg (key g0 h.log.1 h.log.2),fun x hx=>(h.rowc x hx).kept hg (key _ (h.lor x hx).1 (h.lor x hx).2),h.oms.kept hg (key go h.loo.1 h.loo.2),h.oml,h.omok,h.ne,h.lop,h.log,h.loo,h.lor⟩
theorem wH.kept {F C p go n:Nat} {w w':World} {tb:Nat→Nat→Nat} {row:Option Nat} (h:wH F C w p go n tb) (hg:w.grownBy w' row) (hr:∀ q,row=some q→q < F∨C≤q):wH F C w' p go n tb:=by
 obtain ⟨g0,gr,om,h⟩:=h
 exact ⟨g0,gr,om,h.kept hg hr⟩
theorem SetsAt.up {F C C' p go g0 n k kh:Nat} {w:World} {tb:Nat→Nat→Nat} {gr:Nat→Nat} {om:List Nat} (h:SetsAt F C w p go g0 n k kh tb gr om) (hC:C≤C'):SetsAt F C' w p go g0 n k kh tb gr om :=
 ⟨h.box,h.rows,h.rowc,h.oms,h.oml,h.omok,h.ne,⟨h.lop.1,by have:=h.lop.2;omega⟩,⟨h.log.1,by have:=h.log.2;omega⟩,⟨h.loo.1,by have:=h.loo.2;omega⟩,fun x hx=>⟨(h.lor x hx).1,by have:=(h.lor x hx).2;omega⟩⟩
theorem newS_start {w wx:World} {n:Nat} {tb:Nat→Nat→Nat} {s3:Value} (h:NewS w wx n (2 ^ n) s3):∃ p go g0,s3=.pointer (some ⟨p,0,none⟩)∧SetsAt w.heap.size wx.heap.size wx p go g0 n 0 0 tb (fun _=>0) (List.replicate (2 ^ n) 0)∧w.grownBy wx none:=by
 obtain ⟨p,g0,go,rfl,h1,h2,h3,h4,h5,h6,h7⟩:=h
 refine ⟨p,go,g0,rfl,⟨h1,by rw [hdrs_zero];exact h2,fun x hx=>absurd hx (by omega),h3,by simp,fun a ha=>.inl ?_,fun x hx=>absurd hx (by omega),⟨h5,zQ h1⟩,⟨h6,h2.lt⟩,⟨h7,h3.lt⟩,fun x hx=>absurd hx (by omega)⟩,h4⟩
 simp [List.getD,ha]
end Go.Proofs.YtdjhoadoiknaoaaDoor
