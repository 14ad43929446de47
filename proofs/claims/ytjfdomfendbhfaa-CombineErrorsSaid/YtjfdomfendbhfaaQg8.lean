/- Part 8 of the proof. -/
import Derived.Test.YtjfdomfendbhfaaQg7
import Derived.Shelf.Small.Wraps
import Derived.Shelf.Strings.Search1
import Derived.Shelf.Strings.Search2
import Derived.Shelf.Strings.Cut
import Derived.Shelf.LaysM
import Derived.Shelf.Strings.Shaped
import Derived.Shelf.Strings.Prefix
import Derived.Shelf.Bits.Mul64
import Derived.Ground.Names2Prog
import Derived.Shelf.Slices.Clone
import Derived.Test.YtjfdomfendbhfaaProg
import Derived.Lib.MakeNoZero
import Derived.Lib.SlBuf
import Derived.Deep.RegionLaw
import Derived.Laws.Externs
import Derived.Deep.LoopGhost
set_option linter.unusedVariables false
set_option linter.unusedSimpArgs false
set_option maxRecDepth 100000
set_option maxHeartbeats 16000000
namespace Go.Proofs
open Go.Shelf
def Try.lays103_ren:Go.Shelf.Ren:=⟨fun|103=>73|210=>95|206=>119|n=>n,fun|9=>9|4=>4|24=>120|3=>3|n=>n,fun|n=>n⟩
theorem Try.lays103:Go.Proofs.Lays.n103 Try.prog Try.lays103_ren:={
 mixed:=by kernel_rfl
 f103:=Try.func73.trans (congrArg some (by kernel_rfl))
 f206:=Try.func119.trans (congrArg some (by kernel_rfl))
 f210:=Try.func95.trans (congrArg some (by kernel_rfl))
 t3:=Try.underlying3
 a3:=Try.isAgg3
 z3:=Try.sizeOf3
 v3:=Try.zeroValue3
 t4:=Try.underlying4
 a4:=Try.isAgg4
 z4:=Try.sizeOf4
 v4:=Try.zeroValue4
 t9:=Try.underlying9
 a9:=Try.isAgg9
 z9:=Try.sizeOf9
 v9:=Try.zeroValue9
 t24:=Try.underlying120
 a24:=Try.isAgg120
 z24:=Try.sizeOf120
 v24:=Try.zeroValue120 }
open Go.RowKit in
theorem Try.strings_CutPrefix (s p:ByteArray)(w:World):
  Calls Try.prog 73 #[.string s,.string p] w fun e w'=>e=.returned (.tuple #[.string ⟨(Lib.trimPrefix s.data.toList p.data.toList).toArray⟩,.bool (Lib.hasPrefix s.data.toList p.data.toList)])/\w'=w:=Any.strings_CutPrefix Try.lays103 s p w
def Try.lays145_ren:Go.Shelf.Ren:=⟨fun|145=>74|220=>96|219=>120|217=>126|225=>127|224=>128|267=>129|266=>133|314=>134|n=>n,fun|9=>9|4=>4|59=>122|3=>3|5=>5|46=>155|146=>186|51=>185|n=>n,fun|1=>0|n=>n⟩
theorem Try.lays145:Go.Proofs.Lays.n145 Try.prog Try.lays145_ren:={
 mixed:=by kernel_rfl
 f145:=Try.func74.trans (congrArg some (by kernel_rfl))
 f217:=Try.func126.trans (congrArg some (by kernel_rfl))
 f219:=Try.func120.trans (congrArg some (by kernel_rfl))
 f220:=Try.func96.trans (congrArg some (by kernel_rfl))
 f224:=Try.func128.trans (congrArg some (by kernel_rfl))
 f225:=Try.func127.trans (congrArg some (by kernel_rfl))
 f266:=Try.func133.trans (congrArg some (by kernel_rfl))
 f267:=Try.func129.trans (congrArg some (by kernel_rfl))
 f314:=Try.func134.trans (congrArg some (by kernel_rfl))
 t3:=Try.underlying3
 a3:=Try.isAgg3
 z3:=Try.sizeOf3
 v3:=Try.zeroValue3
 t4:=Try.underlying4
 a4:=Try.isAgg4
 z4:=Try.sizeOf4
 v4:=Try.zeroValue4
 t5:=Try.underlying5
 a5:=Try.isAgg5
 z5:=Try.sizeOf5
 v5:=Try.zeroValue5
 t9:=Try.underlying9
 a9:=Try.isAgg9
 z9:=Try.sizeOf9
 v9:=Try.zeroValue9
 t46:=Try.underlying155
 a46:=Try.isAgg155
 z46:=Try.sizeOf155
 v46:=Try.zeroValue155
 t51:=Try.underlying185
 a51:=Try.isAgg185
 z51:=Try.sizeOf185
 v51:=Try.zeroValue185
 t59:=Try.underlying122
 a59:=Try.isAgg122
 z59:=Try.sizeOf122
 v59:=Try.zeroValue122
 t146:=Try.underlying186
 a146:=Try.isAgg186
 z146:=Try.sizeOf186
 v146:=Try.zeroValue186
 g1:=by kernel_rfl }
open Go.RowKit Go.Lib in
theorem Try.strings_Cut (s sep:ByteArray)(m:Int)(w:World)(hs:s.size<4294967281)(hm:w.cell? ⟨0,0,none⟩=some (.int .i64 m)):
  Calls Try.prog 74 #[.string s,.string sep] w fun e w'=>e=.returned (.tuple #[.string ⟨(Lib.cut s.data.toList sep.data.toList).1.toArray⟩,.string ⟨(Lib.cut s.data.toList sep.data.toList).2.1.toArray⟩,.bool (Lib.cut s.data.toList sep.data.toList).2.2])/\∃ n,w'=w.drewN n:=Any.strings_Cut Try.lays145 s sep m w hs hm
def Try.lays100_ren:Go.Shelf.Ren:=⟨fun|100=>75|207=>97|n=>n,fun|9=>9|4=>4|3=>3|n=>n,fun|n=>n⟩
theorem Try.lays100:Go.Proofs.Lays.n100 Try.prog Try.lays100_ren:={
 mixed:=by kernel_rfl
 f100:=Try.func75.trans (congrArg some (by kernel_rfl))
 f207:=Try.func97.trans (congrArg some (by kernel_rfl))
 t3:=Try.underlying3
 a3:=Try.isAgg3
 z3:=Try.sizeOf3
 v3:=Try.zeroValue3
 t4:=Try.underlying4
 a4:=Try.isAgg4
 z4:=Try.sizeOf4
 v4:=Try.zeroValue4
 t9:=Try.underlying9
 a9:=Try.isAgg9
 z9:=Try.sizeOf9
 v9:=Try.zeroValue9 }
open Go.RowKit Go.Lib in
theorem Try.strings_HasSuffix (s p:ByteArray)(w:World)(hs:s.size<=9223372036854775807):
  Calls Try.prog 75 #[.string s,.string p] w fun e w'=>e=.returned (.bool (Lib.hasSuffix s.data.toList p.data.toList))/\w'=w:=Any.strings_HasSuffix Try.lays100 s p w hs
def Try.lays212_ren:Go.Shelf.Ren:=⟨fun|212=>131|263=>135|264=>136|n=>n,fun|46=>155|51=>185|146=>186|53=>190|148=>191|n=>n,fun|n=>n⟩
theorem Try.lays212:Go.Proofs.Lays.n212 Try.prog Try.lays212_ren:={
 mixed:=by kernel_rfl
 f212:=Try.func131.trans (congrArg some (by kernel_rfl))
 f263:=Try.func135.trans (congrArg some (by kernel_rfl))
 f264:=Try.func136.trans (congrArg some (by kernel_rfl))
 t46:=Try.underlying155
 a46:=Try.isAgg155
 z46:=Try.sizeOf155
 v46:=Try.zeroValue155
 t51:=Try.underlying185
 a51:=Try.isAgg185
 z51:=Try.sizeOf185
 v51:=Try.zeroValue185
 t53:=Try.underlying190
 a53:=Try.isAgg190
 z53:=Try.sizeOf190
 v53:=Try.zeroValue190
 t146:=Try.underlying186
 a146:=Try.isAgg186
 z146:=Try.sizeOf186
 v146:=Try.zeroValue186
 t148:=Try.underlying191
 a148:=Try.isAgg191
 z148:=Try.sizeOf191
 v148:=Try.zeroValue191 }
open Go.RowKit Go.Lib in
theorem Try.bits_Mul (x y:Nat)(hx:x<18446744073709551616)(hy:y<18446744073709551616)(w:World):
  Calls Try.prog 131 #[.int .u64 x,.int .u64 y] w fun e w'=>e=.returned (.tuple #[.int .u64 ((x * y / 18446744073709551616:Nat):Int),.int .u64 ((x * y % 18446744073709551616:Nat):Int)])/\w'=w:=Any.bits_Mul Try.lays212 x y hx hy w
def Try.laysNm216_ren:Go.Shelf.Ren:=⟨fun|16=>87|n=>n,fun|24=>26|9=>9|4=>4|n=>n,fun|n=>n⟩
theorem Try.laysNm216:Go.Proofs.Lays2.n16 Try.prog Try.laysNm216_ren:={
 mixed:=by kernel_rfl
 f16:=Try.func87.trans (congrArg some (by kernel_rfl))
 t4:=Try.underlying4
 a4:=Try.isAgg4
 z4:=Try.sizeOf4
 v4:=Try.zeroValue4
 t9:=Try.underlying9
 a9:=Try.isAgg9
 z9:=Try.sizeOf9
 v9:=Try.zeroValue9
 t24:=Try.underlying26
 a24:=Try.isAgg26
 z24:=Try.sizeOf26
 v24:=Try.zeroValue26
 i9:=by kernel_rfl }
open Go.RowKit Go.Lib in
theorem Try.slices_Clone_string (b off n c:Nat)(zs:List ByteArray)(w:World)(hz:n<=zs.length)(hbig:n * 16<=140737488355328)(hc:∀ j,j<zs.length->w.cell? ⟨b,off+j,none⟩=some (.string (zs.getD j ByteArray.empty))):
  Calls Try.prog 87 #[.slice (some ⟨b,off,none⟩) n c] w fun e w'=>∃ v',e=.returned v'/\w'.ownsRow w.heap.size 9 1 v' n ((zs.take n).map (Value.string))/\v'≠.slice none 0 0/\Below w.heap.size w w':=Any.slices_Clone_string Try.laysNm216 b off n c zs w hz hbig hc
open Go.RowKit Go.Lib in
theorem Try.slices_Clone_string_nil (n c:Nat)(w:World):
  Calls Try.prog 87 #[.slice none n c] w fun e w'=>e=.returned (.slice none 0 0)/\w'=w:=Any.slices_Clone_string_nil Try.laysNm216 n c w
open Go.RowKit Go.Lib in
theorem Try.slices_Clone_string_zero (a:Addr)(c:Nat)(w:World):
  Calls Try.prog 87 #[.slice (some a) 0 c] w fun e w'=>∃ v',e=.returned v'/\w'.ownsRow w.heap.size 9 1 v' 0 []/\v'≠.slice none 0 0/\Below w.heap.size w w':=Any.slices_Clone_string_zero Try.laysNm216 a c w
end Go.Proofs
namespace Go.Proofs.Ytjfdomfendbhfaa
open Go.RowKit
def oY (w:World)(g N k:Nat):Prop:=∃ xs:List Value,Arr w g 5 xs/\xs.length=N/\k<=N/\xs.take k=List.replicate k (.int .u8 97)
theorem oY.of_heap {w w':World}{g N k:Nat}(h:oY w g N k)(he:w'.heap=w.heap):oY w' g N k:=by
 obtain⟨xs,h1,h2,h3,h4⟩:=h;exact⟨xs,h1.of_heap he,h2,h3,h4⟩
theorem Arr.setCells {g:Nat}{e:TypeId}:∀ (vs:List Value) (o:Nat) {w:World} {xs:List Value},Arr w g e xs->o+vs.length<=xs.length->Arr (w.setCells g o vs) g e (xs.take o++vs++xs.drop (o+vs.length))
 | [],o,w,xs,h,_=>by simpa [World.setCells] using h
 | v::r,o,w,xs,h,hl=>by
  rw[List.length_cons]at hl
  have:=Arr.setCells r (o+1) (h.set o (by omega) v) (by rw[List.length_set];omega)
  rw[World.setCells]
  have e1:(xs.set o v).take (o+1)=xs.take o++[v]:=by
   rw[List.take_succ_eq_append_getElem (by rw[List.length_set];omega),List.take_set_of_le (by omega)];simp
  rw[e1,List.drop_set_of_lt (by omega)]at this;rw[List.length_cons,show o+(r.length+1)=o+1+r.length by omega];simpa using this
theorem oW (g:Nat):∀ (vs:List Value) (o:Nat) (w:World),w.grownBy (w.setCells g o vs) (some g)
 | [],_,w=>zL w _
 | v::r,o,w=>zD (zC w ⟨g,o,none⟩ v) (oW g r (o+1) _)
theorem oY.step {w:World}{g N k m:Nat}(h:oY w g N k)(hm:k+m<=N):oY (w.setCells g k (List.replicate m (.int .u8 97))) g N (k+m):=by
 obtain⟨xs,h1,h2,h3,h4⟩:=h;refine⟨_,h1.setCells _ k (by simp;omega),by simp;omega,hm,?_⟩;rw[List.append_assoc,List.take_append,h4];simp only[List.length_replicate];rw[List.take_of_length_le (by simp),show k+m - k=m by omega,List.take_left' (by simp),List.replicate_append_replicate]
theorem run_copy_self {w : World}{g N k m : Nat}(h : oY w g N k)(hk : 0 < k)(hm : m = min k (N - k))(ty : TypeId)(c1 c2 : Nat): (Builtin.copy_ #[106, 106] ty #[.slice (some ⟨g, k, none⟩) (N - k) c1, .slice (some ⟨g, 0, none⟩) k c2]).run Try.prog w = .ok (.int .i64 m) (w.setCells g k (List.replicate m (.int .u8 97))) := by
 obtain ⟨xs, h1, h2, h3, h4⟩ := h
 have hr := run_copy_cells (P := Try.prog) w 106 106 ty 5 g k (N - k) c1 ⟨g, 0, none⟩ k c2 (List.replicate m (.int .u8 97)) Try.underlying106 (by kernel_rfl) (by simp [hm])
  (fun j u hj => by
   have hjm : j < m := by
    rcases Nat.lt_or_ge j m with h | h
    ·exact h
    ·simp [List.getElem?_eq_none (show (List.replicate m (Value.int .u8 97)).length ≤ j by simpa using h)] at hj
   rw [List.getElem?_eq_getElem (by simpa using hjm), List.getElem_replicate] at hj
   have hadd : (⟨g, 0, none⟩ : Addr).add j = ⟨g, j, none⟩ := by unfold Addr.add; split <;> simp_all
   rw [hadd, h1.cell j (by omega), ← hj]
   have : xs[j]'(by omega) = (xs.take k)[j]'(by simp; omega) := by simp
   rw [this]
   simp [h4])
  (fun j hj => by rw [List.length_replicate] at hj; rw [h1.cell _ (by omega)]; rfl) (fun j _ => h1.frozen _) (fun u hu => by rw [(List.mem_replicate.1 hu).2]; rfl)
 rw [hr, List.length_replicate]
 rfl
theorem mul_one_any (n:Nat)(hn:n<=1000)(w:World):
  Calls Try.prog 131 #[.int .u64 1,.int .u64 n] w fun e w'=>e=.returned (.tuple #[.int .u64 0,.int .u64 n])/\w=w':=by
 refine(Try.bits_Mul 1 n (by omega) (by omega) w).mono ?_;rintro e w' ⟨rfl,rfl⟩;refine⟨?_,rfl⟩;have h1:1 * n / 18446744073709551616=0:=by omega
 have h2:1 * n % 18446744073709551616=n:=by omega
 rw[h1,h2];rfl
theorem step_copy {P:Program}{ops:Array Oper}{o:Oper}{a:Act}{w:World}{K:Act->World->Prop}{Q:Exit->Act->World->Prop}{E:Prop}(hg:o.guard=none)(d x:Operand)(dT sT:TypeId)(hop:o.op=Op.call { callee:=Callee.builtin Builtin.copy,args:=#[d,x],argTypes:=#[dT,sT] })(v u:Value)(hd:a.eval d=v)(hx:a.eval x=u){v':Value}{w':World}(hr:(Builtin.copy_ #[dT,sT] o.type #[v,u]).run P w=.ok v' w')(hK:K (a.put o.dst v') w'):
  if Region.wanted o (yielded ops a.tmps)=true then Oper.wp P o a w K Q else E:=by
 have hw:Region.wanted o (yielded ops a.tmps)=true:=by simp[Region.wanted,hg]
 rw[if_pos hw];unfold Oper.wp;simp[execOp,hop,resolve,invoke,builtin,hd,hx,hr,Result.andThen];exact hK
def Repeated (w:World)(n:Nat)(e:Ending)(w':World):Prop :=
 ∃ (g cap:Nat),e=.returned (.slice (some ⟨g,0,none⟩) n cap)/\w.heap.size<=g/\n<=cap/\cap<=maxLen/\Arr w' g 5 ((List.replicate n (97:Int)).map (Value.int .u8))/\w.grownBy w' none
theorem repeat_a (b : Nat)(n : Nat)(w : World)(hn : n ≤ 8)(hc : Arr w b 5 [.int .u8 97]): Calls Try.prog 124 #[.slice (some ⟨b, 0, none⟩) 1 1, .int .i64 n] w (Repeated w n) := by
 by_cases h0 : n = 0
 ·subst h0
  go_enter Try.func124, Try.ntmps124
  go_wp2
  go_ret
  exact ⟨w.heap.size, 0, rfl, Nat.le_refl _, Nat.le_refl _, by unfold maxLen; omega, Arr.new w _ #[], Ga _ _ _⟩
 ·have h0' : ((n : Int) == 0) = false := by rw [beq_eq_false_iff_ne]; omega
  have h00 : ¬ (n : Int) < 0 := by omega
  have hb := hc.lt
  obtain ⟨cs, hrunM, hle, hmx⟩ := Lib.run_makeNoZero (P := Try.prog) w #[3] 106 5 Try.underlying106 n (by omega)
  have hcall : (callFunc 132 #[.int .i64 n]).run Try.prog w = .ok (.value (.slice (some ⟨w.heap.size, 0, none⟩) n cs.size)) ((w.alloc (.cells cs 5)).drewN 2) := by
   rw [run_callFunc_extern Try.func132 (by kernel_rfl) (by kernel_rfl) (by kernel_rfl) (e := Extern.BytealgMakeNoZero.makeNoZero #[3] #[106]) (by kernel_rfl), hrunM]
   rfl
  clear hrunM
  go_enter Try.func124, Try.ntmps124
  go_wp2_with fail
  refine (mul_one_any n (by omega) _).mono ?_
  rintro e w1 ⟨rfl, rfl⟩
  have i1 : (n : Int) ≤ (cs.size : Int) := by omega
  obtain ⟨W0, hW0⟩ : ∃ W0, W0 = (w.alloc (.cells cs 5)).drewN 2 := ⟨_, rfl⟩
  have g0 : w.grownBy W0 none := by rw [hW0]; exact vC (Ga w _ none) rfl rfl rfl rfl
  have F0 : oY W0 w.heap.size n 0 := by
   rw [hW0]
   refine oY.of_heap (w := w.alloc (.cells cs 5)) ⟨cs.toList.take n, ?_, by simp; omega, Nat.zero_le _, by simp⟩ rfl
   have := Arr.new w 5 cs
   rw [← List.take_append_drop n cs.toList] at this
   exact this.front
  have hr1 : (Builtin.copy_ #[106, 106] 3 #[.slice (some ⟨w.heap.size, 0, none⟩) n n, .slice (some ⟨b, 0, none⟩) 1 1]).run Try.prog W0 = .ok (.int .i64 1) (W0.setCells w.heap.size 0 [.int .u8 97]) := by
   have hb0 := (hc.kept g0 (by simp)).cell 0 (by simp)
   obtain ⟨xs, h1, h2, h3, h4⟩ := F0
   exact run_copy_cells (P := Try.prog) W0 106 106 3 5 w.heap.size 0 n n ⟨b, 0, none⟩ 1 1 [.int .u8 97] Try.underlying106 (by kernel_rfl) (by simp [Nat.min_def]; omega)
    (fun j u hj => by
     match j, hj with
     | 0, hj => simp at hj; subst hj; simpa [Addr.add] using hb0)
    (fun j hj => by simp at hj; subst hj; rw [h1.cell _ (by omega)]; rfl) (fun j _ => h1.frozen _) (fun u hu => by simp at hu; rw [hu]; rfl)
  have F1 := oY.step (m := 1) F0 (by omega)
  have g1 : w.grownBy (W0.setCells w.heap.size 0 [.int .u8 97]) none := zA g0 (zC W0 ⟨w.heap.size, 0, none⟩ _) (by simp)
  rw [hW0] at hr1 F1 g1
  clear g0 F0 hW0
  go_wp2
  clear hr1
  go_loopw [10] (fun bp wr => ∃ k : Nat, bp = .int .i64 k ∧ 1 ≤ k ∧ k ≤ n ∧ oY wr w.heap.size n k ∧ w.grownBy wr none)
   (fun bp _ => n - (intOf bp).toNat)
  case atStart => exact ⟨1, rfl, Nat.le_refl _, by omega, F1, g1⟩
  case round =>
   clear F1 g1 hcall
   obtain ⟨k, rfl, hk1, hkn, hF, hg⟩ := hrel
   by_cases hlt : k < n
   ·have hmin : min (k : Int) (n : Int) = k := by omega
    obtain ⟨m, hm⟩ : ∃ m, m = min k (n - k) := ⟨_, rfl⟩
    have hm1 : 1 ≤ m := by omega
    have hmk : k + m ≤ n := by omega
    have hcp : ∀ W : World, W.heap = wr.heap → (Builtin.copy_ #[106, 106] 3 #[.slice (some ⟨w.heap.size, k, none⟩) (n - k) (n - k), .slice (some ⟨w.heap.size, 0, none⟩) k n]).run Try.prog W = .ok (.int .i64 m) (W.setCells w.heap.size k (List.replicate m (.int .u8 97))) :=
     fun W e => run_copy_self (hF.of_heap e) (by omega) hm _ _ _
    have HM := Kh hm; clear hm
    have hnk : ¬ n = k := by omega
    have HC := Kh hcp; clear hcp
    have e1 : IntKind.i64.wrap ((k : Int) + m) = (k : Int) + m := IntWalk.i64_in _ (by omega)
    go_wp2
    go_region_law (refine step_copy rfl (.tmp 70) (.tmp 73) 106 106 rfl (.slice (some ⟨w.heap.size, k, none⟩) (n - k) (n - k)) (.slice (some ⟨w.heap.size, 0, none⟩) k n) (by simp [Act.eval, Act.put, hnk]) (by simp [Act.eval, Act.put]) (HC.out _ rfl) ?_)
    all_goals
     have F2 : oY (wr.drew.setCells w.heap.size k (List.replicate m (.int .u8 97))) w.heap.size n (k + m) := (hF.of_heap (w' := wr.drew) rfl).step hmk
     have g2 : w.grownBy (wr.drew.setCells w.heap.size k (List.replicate m (.int .u8 97))) none := zA (show w.grownBy wr.drew none from vC hg rfl rfl rfl rfl) (oW _ _ _ _) (by simp)
     go_frame
     go_roundw
     case rel => ((repeat apply Exists.intro); exact ⟨⟨k + m, by go_num, by omega, by omega, F2, g2⟩, rfl⟩)
     case measure => simp [intOf]; omega
   ·obtain rfl : k = n := by omega
    go_wp2
    go_ret
    obtain ⟨xs, h1, h2, h3, h4⟩ := hF
    refine ⟨_, _, rfl, Nat.le_refl _, Nat.le_refl _, by unfold maxLen; omega, ?_, hg⟩
    rw [List.take_of_length_le (by omega)] at h4
    rw [h4] at h1
    simpa using h1
theorem uO:ElemOk Try.prog 26 9 (.string ⟨#[]⟩) 16:=⟨Try.underlying26,by kernel_rfl,rfl⟩
def strs (bs:List (List Int)):List Value:=bs.map fun l=>.string (strOfNums l)
theorem allWords_upto (letters k:Nat):(List.range (k+1)).flatMap (lex letters)=(List.range k).flatMap (lex letters)++lex letters k:=by
 rw[List.range_succ,List.flatMap_append];simp
def upTo (letters n:Nat):List (List Int):=(List.range n).flatMap (lex letters)
theorem xK (letters n:Nat):upTo letters (n+1)=upTo letters n++lex letters n:=allWords_upto letters n
theorem xR (letters:Nat)(h:letters<=6):∀ n,n<=9->(upTo letters n).length<=2000000 * n
 | 0,_=>by simp[upTo]
 | n+1,hn=>by
  have h1:=xR letters h n (by omega)
  rw[xK,List.length_append,vN]
  have h2:letters ^ n<=6 ^ n:=Nat.pow_le_pow_left h n
  have h3:6 ^ n<=6 ^ 8:=Nat.pow_le_pow_right (by omega) (by omega)
  have h4:(6:Nat) ^ 8=1679616:=by decide
  omega
theorem tH (a b:List (List Int)):strs (a++b)=strs a++strs b:=by simp[strs]
theorem yT (a:List (List Int)):(strs a).length=a.length:=by simp[strs]
def eZ (w:World)(ls:List (List Int))(e:Ending)(w':World):Prop :=
 ∃ (sa:Option Addr) (sc:Nat),e=.returned (.slice sa ls.length sc)/\RowT w'.heap.size 9 w' (.slice sa ls.length sc) (strs ls)/\w.grownBy w' none
theorem uI (letters k:Nat)(w:World)(h1:1<=letters)(h6:letters<=6)(hk8:k<=8):Calls Try.prog 117 #[.int .i64 letters,.int .i64 k] w (eZ w (upTo letters (k+1))):=by
 go_enter Try.func117,Try.ntmps117;go_wp2
 go_loopg [5,11] (k+1) (fun g v i wr=>∃ (sa:Option Addr) (sc n:Nat),g=k+1 - n/\n<=k+1/\i=.int .i64 n/\v=.slice sa (upTo letters n).length sc /\
   wr.ownsRow w.heap.size 9 1 (.slice sa (upTo letters n).length sc) (upTo letters n).length (strs (upTo letters n))/\w.grownBy wr none)
 case atStart=>exact⟨none,0,0,rfl,by omega,rfl,rfl,World.ownsRow_nil _ _ _ _,zL _ _⟩
 case round =>
  obtain⟨sa,sc,n,rfl,hn,rfl,rfl,h0,hg⟩:=hrel;by_cases hlt:n<k+1
  ·go_wp2_with fail
   refine(repeat_a _ n _ (by omega) (Arr.new _ _ _)).mono ?_;rintro e w1 ⟨d,cap,rfl,hd,b1,b3,hA,H4⟩;have b0:=hg.size;have H7:w.grownBy w1 none:=zD (wL hg _) H4;have h7:w1.ownsRow w.heap.size 9 1 (.slice sa (upTo letters n).length sc) (upTo letters n).length (strs (upTo letters n)):=yR (h0.alloc _) H4 (by simp);have a9:=xR letters h6 n (by omega);obtain⟨rest,hL⟩:=qEC (letters:=letters) (by omega) n;have HL:=Kh hL;clear hL;have h8:0<(lex letters n).length:=(by rw[HL.out];simp);have H9:Arr w1 d 5 (((lex letters n)[0]'h8).map (Value.int .u8)):=by simp only[HL.out];exact hA
   have a6:(lex letters n).length<=2000000:=by
    rw[vN];have h2:letters ^ n<=6 ^ n:=Nat.pow_le_pow_left h6 n;have h3:6 ^ n<=6 ^ 8:=Nat.pow_le_pow_right (by omega) (by omega);have h4:(6:Nat) ^ 8=1679616:=by decide
    omega
   have H1:=Kh (qFN (letters:=letters) (by omega) n);have b2:wr.heap.size<d:=(by have:=hd;rw[zJ]at this;omega);clear h0 hA H4 hg;go_wp2
   go_loopg [5,8] (lex letters n).length (fun g2 v m wq=>∃ (sa:Option Addr) (sc i:Nat) (b:Bool),g2=(lex letters n).length - i/\i<=(lex letters n).length/\m=.bool b/\(b=true ↔ i<(lex letters n).length) /\
     v=.slice sa ((upTo letters n).length+i) sc/\wq.ownsRow w.heap.size 9 1 (.slice sa ((upTo letters n).length+i) sc) ((upTo letters n).length+i) (strs (upTo letters n++(lex letters n).take i)) /\
     (∀ h:i<(lex letters n).length,Arr wq d 5 ((lex letters n)[i].map (Value.int .u8)))/\w.grownBy wq none)
   case atStart=>exact⟨sa,sc,0,true,rfl,Nat.zero_le _,rfl,by simpa using h8,rfl,by simpa using h7,fun _=>H9,H7⟩
   case round =>
    clear h7 H9 H7;obtain⟨sa,sc,i,b,rfl,hi,rfl,hb,rfl,h0,hA,hg⟩:=hrel;have HB:=Kh hb;clear hb;cases b
    ·have h9:i=(lex letters n).length:=by
      have:¬ i<(lex letters n).length:=fun h=>by have:=HB.out.2 h;cases this
      omega
     have HI:=Kh h9;clear h9;go_wp2;go_roundg (k+1 - (n+1))
     case measure=>omega
     case rel =>
      have e1:(upTo letters (n+1)).length=(upTo letters n).length+i:=by rw[xK,List.length_append,HI.out]
      have e2:upTo letters (n+1)=upTo letters n++(lex letters n).take i:=by rw[xK,HI.out,List.take_length]
      exact⟨sa,sc,n+1,rfl,by omega,by go_num,by rw[e1],by rw[e1,e2];exact h0,hg⟩
    ·have h9:i<(lex letters n).length:=HB.out.1 rfl
     have hm:=sM (List.getElem_mem h9);have H5:=hA h9;have a1:=rK (P:=Try.prog) 106 5 Try.underlying106 Try.underlying5 9 Try.underlying9 n cap hm.1 H5;have HM:=Kh hm;have a0:=Kh H5;clear hm H5 hA;go_wp2_with (at_builtin;refine app1 rfl _ _ _ rfl uO w.heap.size _ ((upTo letters n).length+i) (strs (upTo letters n++(lex letters n).take i)) rfl h0 _ rfl rfl ?c1 ?c2 ?c3 ?_)
     case c1=>unfold maxLen;omega
     case c2=>omega
     case c3=>exact hg.size
     intro sa' sc' w3 h5 H3 a2;have a5:=fun q (e:(Value.slice sa ((upTo letters n).length+i) sc).ownBlock=some q)=>(h0.lt q e).1;have a4:=zA hg H3 a5
     have H8:=a0.out.kept H3 (by
      obtain⟨cur,r,hq,_⟩:=a0.out
      exact zQ h0 hq (by decide))
     have H2:=next_word d cap (lex letters n)[i] letters w3 (by omega) (by omega) HM.out.2 (by rw[HM.out.1];omega) H8;rw[HM.out.1]at H2;have hr:=qFO H1.out i h9;have HR:=Kh hr;have a8:=Kh H2;clear hr H2 h0 hg H3 a1;go_wp2_with fail;refine a8.out.mono ?_;rintro e w4 ⟨rfl,a7,H6⟩
     have H0:=h5.kept H6 (.inr (by
      obtain⟨cur,r,hq,_⟩:=H8
      exact zQ h5 hq (by decide)))
     have a3:=zA a4 H6 (by simp;omega);go_wp2;go_roundg ((lex letters n).length - (i+1))
     case measure=>omega
     case rel =>
      refine⟨sa',sc',i+1,(sZ letters n (lex letters n)[i]).2,rfl,by omega,rfl,?_,rfl,?_,?_,a3⟩
      ·have:=HR.out.1
       unfold kS at this;rw[HM.out.1]at this;rw[this];simp
      ·have e1:strs (upTo letters n++(lex letters n).take (i+1))=strs (upTo letters n++(lex letters n).take i)++[.string (strOfNums (lex letters n)[i])]:=by
        rw[List.take_succ_eq_append_getElem h9,<- List.append_assoc,tH];rfl
       rw[e1];exact H0
      ·intro h
       have:=HR.out.2 h;unfold kS at this;rw[HM.out.1]at this;rw[<- this];exact a7
  ·obtain rfl:n=k+1:=by omega
   go_wp2;go_ret;exact⟨sa,sc,rfl,RowT.of_owns h0,hg⟩
theorem xZ:ElemOk Try.prog 22 28 (.agg #[.slice none 0 0]) 24:=⟨Try.underlying22,by kernel_rfl,rfl⟩
def wK (u:List Int):List (List Int):=[[]]++u.map (fun c=>[c])++[[]]
def uD (u:List Int)(j:Nat):List (List Int):=[[]]++(u.take j).map (fun c=>[c])
theorem eC (l:List Int)(j:Nat)(hj:j<l.length):(strOfNums l).extract j (j+1)=strOfNums [l[j]]:=by
 have h:((strOfNums l).extract j (j+1)).data.toList=(strOfNums [l[j]]).data.toList:=by
  rw[ByteArray.data_extract,strOfNums_data,Array.toList_extract,strOfNums_data,List.extract_eq_take_drop];rw[List.drop_eq_getElem_cons (by simpa using hj)];simp
 have h2:=Array.toList_inj.1 h;cases h3:(strOfNums l).extract j (j+1);cases h4:strOfNums [l[j]]
 simp_all
def sE (w:World)(ps:List (List (List Int)))(e:Ending)(w':World):Prop :=
 ∃ (sa:Option Addr) (sc:Nat) (svs:List Value),e=.returned (.slice sa ps.length sc)/\RowT w'.heap.size 28 w' (.slice sa ps.length sc) svs/\wH w'.heap.size 9 strs w' svs ps/\w.grownBy w' none
theorem pieces_any (letters k:Nat)(w:World)(h1:1<=letters)(h6:letters<=6)(hk:1<=k)(hk8:k<=8):Calls Try.prog 92 #[.int .i64 letters,.int .i64 k] w (sE w (((upTo letters (k+1)).drop 1).map wK)):=by
 obtain⟨ws,H1⟩:∃ ws,ws=upTo letters (k+1):=⟨_,rfl⟩
 have a4:2<=ws.length:=by
  rw[H1];obtain⟨k',rfl⟩:∃ k',k=k'+1:=⟨k - 1,by omega⟩;rw[xK,xK,List.length_append,List.length_append,vN,vN];have:=Nat.one_le_pow k' letters (by omega);have:=Nat.one_le_pow (k'+1) letters (by omega);omega
 have e2:ws.length<=20000000:=by rw[H1];have:=xR letters h6 (k+1) (by omega);omega
 have a3:∀ u∈ws,u.length<=8:=by
  rw[H1];intro u hu;simp only[upTo,List.mem_flatMap,List.mem_range]at hu;obtain⟨n,hn,hu⟩:=hu;rw[(sM hu).1];omega
 rw[<- H1];have d4:=Kh H1;clear H1;go_enter Try.func92,Try.ntmps92;go_wp2_with fail;refine(uI letters k w h1 h6 hk8).mono ?_;rw[<- d4.out];rintro e w1 ⟨sa,sc,rfl,a2,a6⟩;rcases a2 with ⟨hn,hn2⟩|⟨b,off,cap,cur,m,hv,hb,hc1,hc2,hblk,h5⟩
 ·exfalso;have:=congrArg List.length hn2;simp[strs]at this;subst this;simp at a4
 rw[yT]at hv hc1;have c6:sc=cap/\sa=some ⟨b,off,none⟩:=by simp at hv;exact⟨hv.2,hv.1⟩
 obtain⟨rfl,rfl⟩:=c6;clear hv;have b8:=Kh hblk;have HC:=Kh h5;clear hblk h5;have e5:(1:Int)<sc:=by omega
 have b4:RowT w1.heap.size 9 w1 (.slice (some ⟨b,off,none⟩) ws.length sc) (strs ws):=.inr ⟨b,off,sc,cur,m,by rw[yT],hb,by rw[yT];exact hc1,hc2,b8.out,HC.out⟩;clear b8 HC;have e0:=a6.size;go_wp2
 go_loopw [5,15] (fun v i wr=>∃ (sa:Option Addr) (c n:Nat) (svs:List Value),i=.int .i64 n/\n<=ws.length - 1/\v=.slice sa n c /\
   wr.ownsRow w1.heap.size 28 1 (.slice sa n c) n svs/\wH wr.heap.size 9 strs wr svs (((ws.drop 1).take n).map wK) /\
   RowT w1.heap.size 9 wr (.slice (some ⟨b,off,none⟩) ws.length sc) (strs ws)/\w.grownBy wr none/\w1.heap.size<=wr.heap.size)
  (fun _ i _=>ws.length - (intOf i).toNat)
 case atStart=>exact⟨none,0,0,[],rfl,Nat.zero_le _,rfl,World.ownsRow_nil _ _ _ _,by simpa using wH.nil,b4,a6,Nat.le_refl _⟩
 case round =>
  clear b4 a6;obtain⟨sa,c,n,svs,rfl,hn,rfl,H0,a8,hT,hg,hs⟩:=hrel;obtain⟨wo,rfl⟩:∃ wo:World,wo=wr:=⟨_,rfl⟩;have a7:=Kh a8;clear a8;by_cases hlt:n<ws.length - 1
  ·have d0:(n:Int)<((ws.length - 1:Nat):Int):=by omega
   have hu:=a3 ws[1+n] (List.getElem_mem (by omega))
   have h5:wo.cell? ⟨b,off+1+n,none⟩=some (.string (strOfNums ws[1+n])):=by
    rcases hT.row with ⟨_,_,h,_⟩|⟨b',off',cap',hv,_,_,_,hra⟩
    ·have h2:ws.length=0:=by injection h
     omega
    ·simp at hv
     obtain⟨⟨rfl,rfl⟩,_⟩:=hv;have:=hra.map (1+n) (by omega)
     rwa [<- Nat.add_assoc]at this
   obtain⟨u,a1⟩:∃ u,u=ws[1+n]:=⟨_,rfl⟩;have HU:=Kh a1;rw[<- a1]at hu h5;have d8:(strOfNums u).size=u.length:=strOfNums_size u;clear a1;go_wp2;have g0:wo.grownBy (wo.alloc (.cells #[.string ⟨#[]⟩] 9)) none:=Ga _ _ _;have ho:=World.ownsRow_lit (e:=9) (size:=1) wo #[.string ⟨#[]⟩] 1 (Nat.le_refl _) (by unfold maxLen;omega) (by simp)
   go_loopw [8,22] (fun v i wq=>∃ (sb:Option Addr) (cb j:Nat),i=.int .i64 j/\j<=u.length/\v=.slice sb (1+j) cb /\
     wq.ownsRow wo.heap.size 9 1 (.slice sb (1+j) cb) (1+j) (strs (uD u j))/\wo.grownBy wq none)
    (fun _ i _=>u.length - (intOf i).toNat)
   case atStart=>exact⟨_,_,0,rfl,Nat.zero_le _,rfl,ho,g0⟩
   case round =>
    clear g0 ho;obtain⟨sb,cb,j,rfl,hj,rfl,h0,h8⟩:=hrel;by_cases hjl:j<u.length
    ·have d2:=eC u j hjl
     go_wp2_with (at_builtin;refine app1 rfl _ _ _ rfl uO wo.heap.size _ (1+j) (strs (uD u j)) rfl h0 _ rfl rfl ?c1 ?c2 ?c3 ?_)
     case c1=>unfold maxLen;omega
     case c2=>omega
     case c3=>exact h8.size
     intro sb' cb' w3 h3 h9 _;have H2:=fun q (e:(Value.slice sb (1+j) cb).ownBlock=some q)=>(h0.lt q e).1;have a0:=zA h8 h9 H2
     have e1:strs (uD u (j+1))=strs (uD u j)++[.string (strOfNums [u[j]])]:=by
      rw[uD,uD,List.take_succ_eq_append_getElem hjl,List.map_append,<- List.append_assoc,tH];rfl
     have HE:=Kh e1;have d7:=Kh h3;clear h0 h8 h9 d2 e1 h3;go_wp2;go_roundw
     case rel=>exact⟨sb',cb',j+1,by go_num,by omega,rfl,by rw[HE.out];exact d7.out,a0⟩
     case measure=>simp[intOf];omega
    ·obtain⟨ub,H9⟩:∃ ub,ub=uD u j:=⟨_,rfl⟩
     have H4:ub.length=1+j:=by rw[H9];simp[uD];omega
     have H3:wK ws[1+n]=ub++[[]]:=by rw[<- HU.out,H9,uD,List.take_of_length_le (by omega)];rfl
     rw[<- H9]at h0;have e6:=Kh H4;have d5:=Kh H3;clear H9 H4 H3;have h7:=H0.kept h8 (by cases (Value.slice sa n c).ownBlock<;>simp);have b3:=hT.kept h8 (by simp);have H8:=a7.out.kept h8 (by simp);have b9:=Kh H8;have a5:=zD hg h8;have c4:=h8.size;clear H0 hT hg H8 a7;go_wp2_with (at_builtin;refine app1 rfl (.tmp 35) (.tmp 36) _ rfl uO wo.heap.size _ (1+j) (strs ub) rfl h0 _ rfl rfl ?c1 ?c2 ?c3 ?_)
     case c1=>unfold maxLen;omega
     case c2=>omega
     case c3=>exact c4
     intro sb' cb' w3 h3 h9 _;have H2:=fun q (e:(Value.slice sb (1+j) cb).ownBlock=some q)=>(h0.lt q e).1;have a9:=zS h0 (e':=28) (by decide)
     have h4:=h7.kept h9 (by
      rcases hv:(Value.slice sa n c).ownBlock with _|q
      ·exact .inl rfl
      ·refine .inr fun e=>?_
       obtain⟨cur',e',m',hq,c9⟩:=a9 q e.symm;have:=zQ h7 hq (fun h=>c9 h.symm)
       exact this hv)
     have b2:=b3.kept h9 (fun q e=>.inl (by have:=H2 q e;omega));have b7:=b9.out.kept h9 (fun q e=>.inl (H2 q e));have a0:=zA a5 h9 (fun q e=>by have:=H2 q e;have:=a5.size;omega);have e4:ub.length+1=(ub++[[]]).length:=by simp
     have hR:=RowT.of_owns h3;have e3:strs ub++[.string ⟨#[]⟩]=strs (wK ws[1+n]):=by rw[d5.out,tH];rfl
     rw[e3]at hR;have E3:=Kh e3;have HR:=Kh hR;have d9:=h9.size;clear h0 h7 h3 b3 b9 h9 a9 e3 hR a5 h8 H2;go_wp2_with (at_builtin;refine app1 rfl (.tmp 34) (.tmp 39) _ rfl xZ w1.heap.size _ n svs rfl h4 _ rfl rfl ?c1 ?c2 ?c3 ?_)
     case c1=>unfold maxLen;omega
     case c2=>omega
     case c3=>omega
     intro sa5 c5 w5 H5 H7 _;have b1:=fun q (e:(Value.slice sa n c).ownBlock=some q)=>(h4.lt q e).1;have H6:=zS h4 (e':=9) (by decide);have d3:=b2.kept H7 (fun q e=>.inl (b1 q e));have b6:=(b7.mono (by omega)).snoc (HR.out);have c7:=H7.size;have b5:=(b6.kept H7 (fun q e=>.inr (H6 q e))).mono c7;have d1:=zA a0 H7 (fun q e=>by have:=b1 q e;omega);clear h4 b2 b7 a0 H7 H6 b6;have d6:=Kh b5;clear b5;go_wp2;go_roundw
     case rel =>
      refine⟨sa5,c5,n+1,_,by go_num,by omega,rfl,H5,?_,d3,d1,by omega⟩
      have e7:((ws.drop 1).take (n+1)).map wK=((ws.drop 1).take n).map wK++[wK ws[1+n]]:=by
       rw[List.take_succ_eq_append_getElem (by simp;omega),List.map_append];simp[Nat.add_comm]
      rw[e7];exact d6.out
     case measure=>simp[intOf];omega
  ·have c8:n=ws.length - 1:=by omega
   have e8:((ws.drop 1).take n).map wK=(ws.drop 1).map wK:=by rw[List.take_of_length_le (by simp;omega)]
   have b0:((ws.drop 1).map wK).length=n:=by simp;omega
   have c0:=Kh b0;have E8:=Kh e8;clear c8 e8 b0;go_wp2;go_ret;exact⟨sa,c,svs,by rw[c0.out];rfl,by rw[c0.out];exact RowT.of_owns H0,by rw[<- E8.out];exact a7.out,hg⟩
structure PatsUp (base:Nat)(w:World)(v:Value)(n:Nat)(svs:List Value)(ps:List (List (List Int))):Prop where
 own:w.ownsRow base 28 1 v n svs
 rows:wH w.heap.size 9 strs w svs ps
theorem RowT.lit {w w':World}{cs:Array Value}{e:TypeId}{row:Option Nat}{q:Nat}{xs:List Value}(hc:cs.toList=xs)(hq:cs.size=q)(hm:q<=maxLen)(hg:(w.alloc (.cells cs e)).grownBy w' row)(hr:row≠some w.heap.size):RowT w'.heap.size e w' (.slice (some ⟨w.heap.size,0,none⟩) q q) xs:=by
 have hb:=zB (heap_alloc_new w (.cells cs e)) hg hr;have hl:xs.length=q:=by rw[<- hc,<- hq];simp
 refine .inr ⟨w.heap.size,0,q,cs,(0,0),by rw[hl],zK hb,by omega,hm,hb,fun i hi=>?_⟩;rw[Nat.zero_add,<- Array.getElem?_toList,hc,List.getElem?_eq_getElem hi]
theorem PatsUp.push {base n q:Nat}{w w':World}{v v':Value}{svs:List Value}{ps:List (List (List Int))}{us:List (List Int)}{cs:Array Value}(h:PatsUp base w v n svs ps)(hc:cs.toList=strs us)(hq:cs.size=q)(hm:q<=maxLen)(hown:w'.ownsRow base 28 1 v' (n+1) (svs++[.slice (some ⟨w.heap.size,0,none⟩) q q]))(hg:(w.alloc (.cells cs 9)).grownBy w' v.ownBlock):PatsUp base w' v' (n+1) (svs++[.slice (some ⟨w.heap.size,0,none⟩) q q]) (ps++[us])/\w.grownBy w' v.ownBlock:=by
 have h4:∀ k,v.ownBlock=some k->k<w.heap.size:=fun k hk=>(h.own.lt k hk).2;have hA:=Ga w (.cells cs 9) none;have h3:=h.own.alloc (.cells cs 9);have h0:=zS h3 (e':=9) (by decide);refine⟨⟨hown,?_⟩,zD (Ga w _ _) hg⟩;have h1:=h.rows.kept hA (by simp);have h2:=(h1.kept hg (fun k e=>.inr (h0 k e))).mono (Nat.le_trans hA.size hg.size);exact h2.snoc (RowT.lit hc hq hm hg (fun e=>by have:=h4 _ e;omega))
theorem PatsUp.nil (base:Nat)(w:World):PatsUp base w (.slice none 0 0) 0 [] []:=⟨World.ownsRow_nil _ _ _ _,wH.nil⟩
theorem PatsUp.kept {base n:Nat}{w w':World}{v:Value}{svs:List Value}{ps:List (List (List Int))}{row:Option Nat}(h:PatsUp base w v n svs ps)(hg:w.grownBy w' row)(hr:∀ k,row=some k->w.heap.size<=k):PatsUp base w' v n svs ps:=by
 refine⟨h.own.kept hg ?_,(h.rows.kept hg (fun k e=>.inl (hr k e))).mono hg.size⟩;rcases hv:v.ownBlock with _|k
 ·exact .inl rfl
 ·exact .inr fun e=>by have:=hr k e.symm;have:=(h.own.lt k hv).2;omega
theorem PatsUp.listed {base n:Nat}{w w0:World}{sa:Option Addr}{sc:Nat}{svs:List Value}{ps:List (List (List Int))}(h:PatsUp base w (.slice sa n sc) n svs ps)(hg:w0.grownBy w none)(hn:ps.length=n):sE w0 ps (.returned (.slice sa n sc)) w :=
 ⟨sa,sc,svs,by rw[hn],by rw[hn];exact RowT.of_owns h.own,h.rows,hg⟩
theorem xJ {B b off sc:Nat}{w:World}{ws:List (List Int)}(h:RowT B 9 w (.slice (some ⟨b,off,none⟩) ws.length sc) (strs ws)){i:Nat}(hi:i<ws.length):w.cell? ⟨b,off+i,none⟩=some (.string (strOfNums ws[i])):=by
 rcases h.row with ⟨_,_,h,_⟩|⟨b',off',cap',hv,_,_,_,hra⟩
 ·have h2:ws.length=0:=by injection h
  omega
 ·simp only[Value.slice.injEq,Option.some.injEq,Addr.mk.injEq,and_true]at hv
  obtain⟨⟨rfl,rfl⟩,_⟩:=hv;have:=hra.map i hi;exact this
theorem wS {B:Nat}{w:World}{sa:Option Addr}{sc:Nat}{ws:List (List Int)}(h:RowT B 9 w (.slice sa ws.length sc) (strs ws))(hp:0<ws.length):∃ b off,sa=some ⟨b,off,none⟩/\ws.length<=sc/\sc<=maxLen:=by
 rcases h with ⟨hn,hn2⟩|⟨b,off,cap,cur,m,hv,hb,hc1,hc2,hblk,hcell⟩
 ·have:=congrArg List.length hn2;rw[yT]at this;simp at this;simp[this]at hp
 ·simp only[Value.slice.injEq]at hv
  obtain⟨rfl,_,rfl⟩:=hv;rw[yT]at hc1;exact⟨b,off,rfl,hc1,hc2⟩
end Go.Proofs.Ytjfdomfendbhfaa
