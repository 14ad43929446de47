/- Part 8 of the proof: Sets2, Sets3. -/
import Derived.Test.YtdjhoadoiknaoaaDoorZq7
set_option linter.unusedVariables false
set_option linter.unusedSimpArgs false
namespace Go.Proofs.YtdjhoadoiknaoaaDoor
open Go.RowKit
theorem wR.cells {F C p go n : Nat} {w : World} {tb : Nat → Nat → Nat} (h : wR F C w p go n tb) : ∃ (g0 : Nat) (gr : Nat → Nat) (om : List Nat), w.cell? ⟨p, 0, none⟩ = some (.int .i64 n) ∧ w.cell? ⟨p, 1, none⟩ = some (.slice (some ⟨g0, 0, none⟩) n n) ∧ w.cell? ⟨p, 2, none⟩ = some (.slice (some ⟨go, 0, none⟩) (2 ^ n) (2 ^ n)) ∧
  (∀ x, x < n → w.cell? ⟨g0, x, none⟩ = some (.slice (some ⟨gr x, 0, none⟩) (2 ^ n) (2 ^ n))) ∧ (∀ x b, x < n → b < 2 ^ n → w.cell? ⟨gr x, b, none⟩ = some (.int .i64 (zV n tb (1 <<< x) b : Nat))) ∧
  om.length = 2 ^ n ∧ (∀ a, a < 2 ^ n → w.cell? ⟨go, a, none⟩ = some (.int .i64 (om.getD a 0 : Nat))) ∧ (∀ a, a < 2 ^ n → om.getD a 0 = 0 ∨ om.getD a 0 = 1 + xG n tb a) ∧ SetsAt F C w p go g0 n n n tb gr om := by
 obtain ⟨g0, gr, om, A⟩ := h
 have c0 := zJ A.box 0 (by simp)
 have c1 := zJ A.box 1 (by simp)
 have c2 := zJ A.box 2 (by simp)
 refine ⟨g0, gr, om, by simpa using c0, by simpa using c1, by simpa using c2, fun x hx => ?_, fun x b hx hb => ?_, A.oml, fun a ha => A.oms.nat a (by rw [A.oml]; exact ha), A.omok, A⟩
 ·rw [A.rows.cell x (by rw [uY]; exact hx), hdrs_get hx hx]
 ·rw [(A.rowc x hx).nat b (by rw [rowOf_length]; exact hb), rowOf_get hb]
theorem wR.go_lt' {F C p go n : Nat} {w : World} {tb : Nat → Nat → Nat} (h : wR F C w p go n tb) : F ≤ go ∧ go < C := by
 obtain ⟨g0, gr, om, h⟩ := h
 exact h.loo
set_option maxRecDepth 100000 in
set_option maxHeartbeats 1000000 in
theorem product_any (F C : Nat) (w : World) (p go n : Nat) (tb : Nat → Nat → Nat) (a b : Nat) (h : wR F C w p go n tb) (ht : ∀ x y, x < n → y < n → tb x y < n) (hn : n ≤ 12) (ha : a < 2 ^ n) (hb : b < 2 ^ n) (hT : TabOk w) :
  Calls Tryd.prog 53 #[.pointer (some ⟨p, 0, none⟩), .int .i64 (a : Int), .int .i64 (b : Int)] w fun e w' => e = .returned (.int .i64 (zV n tb a b : Nat)) ∧ ∃ m, w' = w.drewN m := by
 obtain ⟨g0, gr, om, c0, c1, c2, hg, hr, _, _, _, _⟩ := h.cells
 obtain ⟨N, hN⟩ : ∃ N, N = 2 ^ n := ⟨_, rfl⟩
 have HN := Kh hN; have HG := Kh hg; have HR := Kh hr; have HT := Kh hT; have HTB := Kh ht
 have hN4 : N ≤ 4096 := by have := sJ hn; omega
 have hbN : (b : Int) < N := by omega
 have ha0 : a < N := by omega
 clear h hg hr hT c0 c2 hN ht
 go_enter Tryd.func53, Tryd.ntmps53
 go_wp2
 go_loopg [1, 7] a (fun g av sv wr => ∃ a' s m : Nat, g = a' ∧ av = .int .i64 a' ∧ sv = .int .i64 s ∧ a' < N ∧ s < N ∧ Hid (s ||| zV n tb a' b = zV n tb a b) ∧ wr = w.drewN m)
 case atStart => exact ⟨a, 0, 0, rfl, rfl, rfl, ha0, by omega, Kh (by simp), rfl⟩
 case round =>
  clear ha ha0
  obtain ⟨a', s, m, hga, rfl, rfl, ha', hs', hstep, rfl⟩ := hrel
  have HGA := Kh hga; clear hga
  by_cases h0 : a' = 0
  ·subst h0
   go_wp2
   go_ret
   exact ⟨yG (by have := hstep.out; rw [prod_zero] at this; simp at this; rw [this]), m, rfl⟩
  ·have hne : ((a' : Int) != 0) = true := by rw [bne_iff_ne]; omega
   have ha2 : a' < 2 ^ n := by rw [← HN.out]; exact ha'
   have h64 := lt64 ha2 hn
   obtain ⟨l, hl⟩ : ∃ l, l = low a' := ⟨_, rfl⟩
   have hll : l < n := by rw [hl]; exact low_lt h0 ha2 (by omega)
   have hll' : (l : Int) < n := by omega
   obtain ⟨r, hr⟩ : ∃ r, r = rest a' := ⟨_, rfl⟩
   have hra : r < a' := by rw [hr]; exact rest_lt h0
   have e1 : bits .and .i64 (a' : Int) ((a' : Int) - 1) = (r : Int) := by
    rw [hr, rest, show (a' : Int) - 1 = ((a' - 1 : Nat) : Int) by omega]
    exact tY a' (a' - 1) (by omega) (by omega)
   have e5 : IntKind.i64.wrap ((a' : Int) - 1) = (a' : Int) - 1 := IntWalk.i64_in _ (by omega)
   have e2 : IntKind.u64.wrap (a' : Int) = (a' : Int) := by rw [IntKind.wrap_u64]; omega
   have cg := HG.out l hll
   have cr := HR.out l b hll (by rw [← HN.out]; omega)
   rw [← HN.out] at cg
   obtain ⟨V, hV⟩ : ∃ V, V = zV n tb (1 <<< l) b := ⟨_, rfl⟩
   rw [← hV] at cr
   have hV2 : V < N := by rw [hV, HN.out]; exact vZ HTB.out _ _
   have e4 : bits .or .i64 (s : Int) (V : Int) = ((s ||| V : Nat) : Int) := i64_or_nat s V (by omega) (by omega)
   have hs2 : s ||| V < N := by rw [HN.out]; exact or_lt (by rw [← HN.out]; exact hs') (by rw [← HN.out]; exact hV2)
   have hstep2 : Hid ((s ||| V) ||| zV n tb r b = zV n tb a b) := by
    have := prod_step (tb := tb) (b := b) h0 ha2 hn
    rw [← hl, ← hV, ← hr] at this
    have h2 := hstep.out
    rw [← this, ← Nat.or_assoc] at h2
    exact h2
   have hc := fun W (hW : TabOk W) => tz_any a' h0 h64 W hW
   rw [show ((Lib.ctz 64 a' : Nat) : Int) = (l : Int) by rw [hl]; rfl] at hc
   have HC := Kh hc
   have HTm : ∀ q, Hid (TabOk (w.drewN q)) := fun q => HT.out.of_heap rfl
   clear hl hr hV hc
   have h0' : ¬ (a' : Int) = 0 := by omega
   clear h0
   go_wp2
   go_quiet ((go_at_call 88; first | exact quiet_left (HC.out _ (HTm _)) | exact quiet_add_left (HC.out _ (HTm _))))
   go_wp2
   go_roundg r
   case measure => have := HGA.out; omega
   case rel => exact ⟨r, s ||| V, _, rfl, rfl, rfl, by omega, hs2, hstep2, rfl⟩
theorem SetsAt.om_set {F C p go g0 n k kh a v : Nat} {w : World} {tb : Nat → Nat → Nat} {gr : Nat → Nat} {om : List Nat} (h : SetsAt F C w p go g0 n k kh tb gr om) (ha : a < 2 ^ n) (hv : v = 1 + xG n tb a) : SetsAt F C (w.setCell ⟨go, a, none⟩ (.int .i64 (v : Int))) p go g0 n k kh tb gr (om.set a v) := by
 have hg := zH w ⟨go, a, none⟩ (.int .i64 (v : Int))
 have h1 : go ≠ p := by
  rintro rfl
  exact (h.oms.type_ne h.box (by decide)) rfl
 have h2 : go ≠ g0 := by
  rintro rfl
  obtain ⟨cur, rest, hh, _⟩ := h.rows
  exact (h.oms.type_ne hh (by decide)) rfl
 refine ⟨zE h.box hg (fun e => h1 (Option.some.inj e)), h.rows.kept hg (fun e => h2 (Option.some.inj e)), fun x hx => (h.rowc x hx).kept hg (fun e => h.ne x hx (Option.some.inj e).symm), h.oms.nat_set a (by rw [h.oml]; exact ha) v, by rw [List.length_set]; exact h.oml, fun y hy => ?_, h.ne, h.lop, h.log, h.loo, h.lor⟩
 by_cases e : a = y
 ·subst e
  rw [vX _ _ _ _ (by rw [h.oml]; exact ha)]
  exact .inr hv
 ·rw [getD_set_ne _ _ _ _ _ e]; exact h.omok y hy
def Omegad (F C : Nat) (w : World) (p go n : Nat) (tb : Nat → Nat → Nat) (a : Nat) (e : Ending) (w' : World) : Prop :=
 e = .returned (.int .i64 (xG n tb a : Nat)) ∧ wR F C w' p go n tb ∧ w.grownBy w' (some go)
set_option maxRecDepth 100000 in
set_option maxHeartbeats 1000000 in
theorem omega_any (F C : Nat) (w : World) (p go n : Nat) (tb : Nat → Nat → Nat) (a : Nat) (h : wR F C w p go n tb) (ht : Tb n tb) (hn : n ≤ 12) (ha : a < 2 ^ n) (hT : TabOk w) :
  Calls Tryd.prog 56 #[.pointer (some ⟨p, 0, none⟩), .int .i64 (a : Int)] w (Omegad F C w p go n tb a) := by
 have H := Kh h
 obtain ⟨g0, gr, om, c0, c1, c2, hg, hr, hol, hoc, hok, hat⟩ := h.cells
 obtain ⟨N, hN⟩ : ∃ N, N = 2 ^ n := ⟨_, rfl⟩
 have HN := Kh hN; have HAT := Kh hat; have HT := Kh hT; have HTB := Kh ht
 have hN4 : N ≤ 4096 := by have := sJ hn; omega
 have haN : (a : Int) < N := by omega
 have co := hoc a ha
 have fo := hat.oms.frozen a
 have ho := hok a ha
 have hom := omegaSet_lt ht ha
 obtain ⟨O, hO⟩ : ∃ O, O = xG n tb a := ⟨_, rfl⟩
 have hON : O < N := by omega
 rw [← hN] at c2
 rw [← hO] at ho
 obtain ⟨v, hv⟩ : ∃ v, v = om.getD a 0 := ⟨_, rfl⟩
 rw [← hv] at co ho
 have HO := Kh hO
 clear h hat hT ht hN hg hr hoc hok hol c0 c1 hom hO hv
 by_cases h0 : v = 0
 ·subst h0
  clear ho
  go_enter Tryd.func56, Tryd.ntmps56
  go_wp2
  go_loopg [5] (2 ^ n * 2 ^ n + 2 ^ n) (fun g xv wr => ∃ x m : Nat, xv = .int .i64 x ∧ x < N ∧ Hid (Ends n tb a g x) ∧ Hid (tW n tb a g x = O) ∧ wr = w.drewN m)
  case atStart => exact ⟨a, 0, rfl, by omega, Kh (ends_start HTB.out ha), Kh HO.out.symm, rfl⟩
  case round =>
   obtain ⟨x, m, rfl, hx, hends, hgo, rfl⟩ := hrel
   have hx2 : x < 2 ^ n := by rw [← HN.out]; exact hx
   have HP1 : ∀ q, Hid (Calls Tryd.prog 53 #[.pointer (some ⟨p, 0, none⟩), .int .i64 (x : Int), .int .i64 (x : Int)] (w.drewN q) fun e w' => e = .returned (.int .i64 (zV n tb x x : Nat)) ∧ ∃ m, w' = (w.drewN q).drewN m) :=
    fun q => Kh (product_any F C _ p go n tb x x (H.out.kept (zR _ _ none) (by simp)) HTB.out.lt hn hx2 hx2 (HT.out.of_heap rfl))
   have HP2 : ∀ q, Hid (Calls Tryd.prog 53 #[.pointer (some ⟨p, 0, none⟩), .int .i64 (x : Int), .int .i64 (a : Int)] (w.drewN q) fun e w' => e = .returned (.int .i64 (zV n tb x a : Nat)) ∧ ∃ m, w' = (w.drewN q).drewN m) :=
    fun q => Kh (product_any F C _ p go n tb x a (H.out.kept (zR _ _ none) (by simp)) HTB.out.lt hn hx2 ha (HT.out.of_heap rfl))
   obtain ⟨Y, hY⟩ : ∃ Y, Y = zV n tb x a := ⟨_, rfl⟩
   obtain ⟨X, hX⟩ : ∃ X, X = zV n tb x x := ⟨_, rfl⟩
   have hYN : Y < N := by rw [hY, HN.out]; exact vZ HTB.out.lt _ _
   rw [← hX] at HP1
   rw [← hY] at HP2
   have HX := Kh hX; have HY := Kh hY
   clear hX hY
   by_cases hid : X = x
   ·have ht : ((X : Int) != (x : Int)) = false := by rw [hid]; simp
    have HI := Kh hid
    have e4 : bits .or .i64 (x : Int) (Y : Int) = ((x ||| Y : Nat) : Int) := i64_or_nat x Y (by omega) (by omega)
    have hstop : x ||| Y = O := by
     have h1 := hgo.out
     rw [omegaGo_stop (by rw [← HX.out]; exact hid)] at h1
     rw [HY.out]; exact h1
    rw [hstop] at e4
    have e6 : IntKind.i64.wrap (1 + (O : Int)) = ((1 + O : Nat) : Int) := by rw [IntWalk.i64_in _ (by omega)]; omega
    have HSET : ∀ q, Hid (SetsAt F C ((w.drewN q).setCell ⟨go, a, none⟩ (.int .i64 (1 + (O : Int)))) p go g0 n n n tb gr (om.set a (1 + O))) := fun q => by
     have h1 := HAT.out.kept (zR w q none) (by simp)
     have h2 := h1.om_set (v := 1 + O) ha (by rw [HO.out])
     rw [show ((1 + O : Nat) : Int) = 1 + (O : Int) by omega] at h2
     exact h2
    have HKQ : ∀ q, Hid (((w.drewN q).setCell ⟨go, a, none⟩ (.int .i64 (1 + (O : Int)))).cell? ⟨p, 2, none⟩ = some (.slice (some ⟨go, 0, none⟩) N N)) := fun q => by
     have h1 := zJ (HSET q).out.box 2 (by simp)
     rw [HN.out]
     exact Kh (by simpa using h1)
    clear hid hstop
    go_wp2_with fail
    refine (HP1 m).out.mono ?_
    rintro e w' ⟨rfl, m2, rfl⟩
    go_upto_region 5 with fail
    go_region_held3 (fun w' => w'.cell? ⟨p, 2, none⟩ = some (.slice (some ⟨go, 0, none⟩) N N)) (first | exact (HKQ _).out | go_keep | fail)
     (first | (go_at_call 53; refine (HP2 _).out.mono ?_; rintro e w' ⟨rfl, m3, rfl⟩) | fail)
    go_wp2
    go_ret
    exact ⟨yG (by rw [HO.out]; omega), ⟨g0, gr, _, (HSET _).out⟩, zF (zR w _ _) (zH _ _ _)⟩
   ·have ht : ((X : Int) != (x : Int)) = true := by rw [bne_iff_ne]; omega
    have HI := Kh hid
    clear hid
    go_wp2_with fail
    refine (HP1 m).out.mono ?_
    rintro e w' ⟨rfl, m2, rfl⟩
    go_wp2_with fail
    refine (HP2 _).out.mono ?_
    rintro e w' ⟨rfl, m3, rfl⟩
    obtain ⟨j, hj, he⟩ := ends_step hends.out (by rw [← HX.out]; exact HI.out)
    have hgo2 := hgo.out
    rw [hj, omegaGo_step (by rw [← HX.out]; exact HI.out), ← HY.out] at hgo2
    rw [← HY.out] at he
    have HJ := Kh hj; have HE := Kh he; have HG := Kh hgo2
    clear hj he hgo2
    go_wp2
    go_roundg j
    case measure => have := HJ.out; omega
    case rel => exact ⟨Y, _, rfl, hYN, HE, HG, rfl⟩
 ·have hv : v = 1 + O := by omega
  subst hv
  have hne : (((1 + O : Nat) : Int) == 0) = false := by rw [beq_eq_false_iff_ne]; omega
  clear h0 ho
  go_enter Tryd.func56, Tryd.ntmps56
  go_wp2
  go_ret
  refine ⟨yG ?_, H.out, zX _ _⟩
  rw [← HO.out]; omega
theorem shr_cast (s x : Nat) : (s : Int) / 2 ^ x = ((s / 2 ^ x : Nat) : Int) := by
 rw [pow_cast]; rfl
theorem bit_zero {s x : Nat} (hs : s < 9223372036854775808) (hb : s.testBit x = false) : bits .and .i64 ((s : Int) / 2 ^ x) 1 = 0 := by
 have h1 : s / 2 ^ x < 9223372036854775808 := Nat.lt_of_le_of_lt (Nat.div_le_self _ _) hs
 have := tY (s / 2 ^ x) 1 h1 (by omega)
 rw [Nat.testBit_eq_decide_div_mod_eq, decide_eq_false_iff_not] at hb
 rw [shr_cast]
 rw [Nat.and_one_is_mod] at this
 exact this.trans (by omega)
theorem bit_one {s x : Nat} (hs : s < 9223372036854775808) (hb : s.testBit x = true) : bits .and .i64 ((s : Int) / 2 ^ x) 1 = 1 := by
 have h1 : s / 2 ^ x < 9223372036854775808 := Nat.lt_of_le_of_lt (Nat.div_le_self _ _) hs
 have := tY (s / 2 ^ x) 1 h1 (by omega)
 rw [Nat.testBit_eq_decide_div_mod_eq, decide_eq_true_eq] at hb
 rw [shr_cast]
 rw [Nat.and_one_is_mod] at this
 exact this.trans (by omega)
theorem wR.c0 {F C p go n : Nat} {w : World} {tb : Nat → Nat → Nat} (h : wR F C w p go n tb) : w.cell? ⟨p, 0, none⟩ = some (.int .i64 n) := by
 obtain ⟨_, _, _, h, _⟩ := h.cells
 exact h
def tB (N : Nat) (l : List Nat) : List Bool := (List.range N).map (under l)
theorem underAll_eq {N : Nat} {l : List Nat} {bs : List Bool} (hl : bs.length = N) (h : ∀ s, s < N → bs.getD s false = under l s) : bs = tB N l := by
 apply List.ext_getElem
 ·simp [tB, hl]
 ·intro i h1 h2
  have := h i (by omega)
  simp only [List.getD, List.getElem?_eq_getElem h1, Option.getD_some] at this
  simp [tB, this]
theorem underAll_get {N : Nat} {l : List Nat} {s : Nat} (hs : s < N) : (tB N l).getD s false = under l s := by simp [tB, List.getD, hs]
theorem underAll_length (N : Nat) (l : List Nat) : (tB N l).length = N := by simp [tB]
set_option maxRecDepth 100000 in
set_option maxHeartbeats 1000000 in
theorem inside_any (F C : Nat) (w : World) (p go n : Nat) (tb : Nat → Nat → Nat) (lv : Value) (B : Nat) (l : List Nat) (h : wR F C w p go n tb) (hn : n ≤ 12) (hl : Row B w lv (nats l)) (hlt : ∀ b ∈ l, b < 2 ^ n) (hB : B ≤ w.heap.size) :
  Calls Tryd.prog 79 #[.pointer (some ⟨p, 0, none⟩), lv] w fun e w' => e = .returned (.slice (some ⟨w.heap.size, 0, none⟩) (2 ^ n) (2 ^ n)) ∧ Arr w' w.heap.size 4 (bls (tB (2 ^ n) l)) ∧ w.grownBy w' none := by
 have hlm := hl.len_le
 rw [zL] at hlm
 unfold maxLen at hlm
 obtain ⟨la, lc, rfl⟩ := hl.shape
 rw [zL]
 have hsh := shl_eq (m := n) (by omega)
 obtain ⟨N, hN⟩ : ∃ N, N = 2 ^ n := ⟨_, rfl⟩
 have hN4 : N ≤ 4096 := by have := sJ hn; omega
 rw [← hN] at hsh ⊢
 have HN := Kh hN; have H := Kh h; have HL := Kh hl; have HLT := Kh hlt
 have c0 := h.c0
 clear h hl hlt hN
 go_enter Tryd.func79, Tryd.ntmps79
 go_wp2_with (at_make; refine make1 rfl _ _ _ rfl xX rfl _ _ _ _ N rfl rfl hsh hsh ?b1 ?b2 ?_; (case b1 => omega); (case b2 => (unfold maxLen; omega)); intro w1 ha1 hg1 hz1)
 rw [← wW] at ha1
 have HA1 := Kh ha1; clear ha1
 go_loopg [18] l.length (fun g i wr => ∃ (k : Nat) (bs : List Bool), g + k = l.length ∧ i = .int .i64 k ∧ bs.length = N ∧ Arr wr w.heap.size 4 (bls bs) ∧ w.grownBy wr none ∧ Hid (∀ s, bs.getD s false = true ↔ s ∈ l.take k))
 case atStart =>
  refine ⟨0, _, rfl, rfl, by simp, HA1.out, hg1, Kh fun s => ?_⟩
  simp [List.getD, List.getElem?_replicate]
  split <;> simp
 case round =>
  clear HA1 hg1 hz1
  obtain ⟨k, bs, hgk, rfl, hbl, harr, hgr, hmem⟩ := hrel
  have HGK := Kh hgk; have HBL := Kh hbl; have HARR := Kh harr
  have hszr := harr.lt
  clear hgk hbl harr
  by_cases hk : k < l.length
  ·have hk' : (k : Int) < l.length := by omega
   obtain ⟨gb, gf, gcap, e, _, _, _, _⟩ := HL.out.some_ (by rw [zL]; omega)
   simp only [Value.slice.injEq] at e
   obtain ⟨rfl, -, -⟩ := e
   obtain ⟨gb', go', gcap', e, _, _, _, hra⟩ := (HL.out.kept hgr (by simp)).some_ (by rw [zL]; omega)
   simp only [Value.slice.injEq, Option.some.injEq, Addr.mk.injEq, and_true] at e
   obtain ⟨⟨rfl, rfl⟩, -, -⟩ := e
   have ck := hra.nat k hk
   obtain ⟨x, hx⟩ : ∃ x, x = l.getD k 0 := ⟨_, rfl⟩
   have hxl : x < N := by rw [hx, HN.out]; exact getD_lt HLT.out hk
   have hxl' : (x : Int) < N := by omega
   rw [← hx] at ck
   have cx := HARR.out.bool x (by rw [HBL.out]; exact hxl)
   have fx := HARR.out.frozen x
   obtain ⟨u, hu⟩ : ∃ u, u = bs.getD x false := ⟨_, rfl⟩
   rw [← hu] at cx
   have hset := HARR.out.bool_set x (by rw [HBL.out]; exact hxl) true
   have HSET := Kh hset; have HX := Kh hx
   clear hra hset hx hu
   go_wp2
   go_roundg (l.length - (k + 1))
   case measure => have := HGK.out; omega
   case rel =>
    refine ⟨k + 1, bs.set x true, by omega, by go_num, by rw [List.length_set]; exact HBL.out, HSET.out, zG hgr (zH _ _ _) (by simp), Kh fun s => ?_⟩
    rw [yA (d := 0) hk, List.mem_append, List.mem_singleton, ← HX.out]
    by_cases e : x = s
    ·subst e
     rw [vX _ _ _ _ (by rw [HBL.out]; exact hxl)]; simp
    ·rw [getD_set_ne _ _ _ _ _ e, hmem.out s]
     exact ⟨.inl, fun h => h.elim id (fun h' => absurd h'.symm e)⟩
  ·have hk2 : k = l.length := by have := HGK.out; omega
   have hmem2 : Hid (∀ s, bs.getD s false = true ↔ s ∈ l) := by
    have := hmem.out
    rw [hk2, List.take_length] at this
    exact Kh this
   clear hmem hk2
   go_wp2
   go_loopg [8] N (fun g i wr => ∃ (k : Nat) (bs : List Bool), g = k ∧ i = .int .i64 ((k : Int) - 1) ∧ k ≤ N ∧ bs.length = N ∧ Arr wr w.heap.size 4 (bls bs) ∧ w.grownBy wr none ∧ Hid (∀ s, s < k → (bs.getD s false = true ↔ s ∈ l)) ∧ Hid (∀ s, k ≤ s → s < N → bs.getD s false = under l s))
   case atStart => exact ⟨N, bs, rfl, rfl, Nat.le_refl _, HBL.out, HARR.out, hgr, Kh fun s _ => hmem2.out s, Kh fun s h1 h2 => by omega⟩
   case round =>
    clear hmem2 HBL HARR hgr HGK
    obtain ⟨k2, bs2, hgk2, rfl, hk2, hbl2, harr2, hgr2, hm1, hm2⟩ := hrel
    have HGK2 := Kh hgk2; have HBL2 := Kh hbl2; have HARR2 := Kh harr2
    clear hgk2 hbl2 harr2
    by_cases hp : 0 < k2
    ·obtain ⟨s, rfl⟩ : ∃ s, k2 = s + 1 := ⟨k2 - 1, by omega⟩
     have e1 : ((s + 1 : Nat) : Int) - 1 = s := by omega
     rw [e1]
     clear e1
     have hsN : (s : Int) < N := by omega
     go_wp2
     go_loopg [9] n (fun g i wr => ∃ (x : Nat) (c : Bool), g + x = n ∧ i = .int .i64 x ∧ Arr wr w.heap.size 4 (bls (bs2.set s c)) ∧ w.grownBy wr none ∧ Hid (c = true ↔ s ∈ l ∨ ∃ y, y < x ∧ s.testBit y = false ∧ under l (s ||| 1 <<< y) = true))
     case atStart =>
      refine ⟨0, bs2.getD s false, rfl, rfl, ?_, hgr2, Kh ?_⟩
      ·have : bs2.set s (bs2.getD s false) = bs2 := by
        apply List.ext_getElem
        ·simp
        ·intro i h1 h2
         rw [List.getElem_set]
         split
         ·rename_i e; subst e; simp [List.getD, List.getElem?_eq_getElem h2]
         ·rfl
       rw [this]; exact HARR2.out
      ·rw [hm1.out s (by omega)]
       exact ⟨.inl, fun h => h.elim id (fun ⟨y, hy, _⟩ => absurd hy (by omega))⟩
     case round =>
      clear HARR2 hgr2
      obtain ⟨x, c, hgx, rfl, harr3, hgr3, hc⟩ := hrel
      have HGX := Kh hgx; have HARR3 := Kh harr3
      have hlen3 : (bs2.set s c).length = N := by rw [List.length_set]; exact HBL2.out
      have cs := HARR3.out.bool s (by rw [hlen3]; omega)
      have fs := HARR3.out.frozen s
      rw [vX _ _ _ _ (by rw [HBL2.out]; omega)] at cs
      have c0w := (H.out.kept hgr3 (by simp)).c0
      have HLEN3 := Kh hlen3
      have hs63 : s < 9223372036854775808 := by omega
      clear hgx harr3 hlen3
      by_cases hx : x < n
      ·cases c
       ·have hset := fun v => HARR3.out.bool_set s (by rw [HLEN3.out]; omega) v
        have HSET := Kh hset
        clear hset
        cases hbit : s.testBit x
        ·have hb := bit_zero hs63 hbit
         have hsx := shl_eq (m := x) (by omega)
         have hlt := or_one_lt (show s < 2 ^ n by rw [← HN.out]; omega) hx
         have hgt := or_one_gt hbit
         rw [Nat.one_shiftLeft, ← HN.out] at hlt
         rw [Nat.one_shiftLeft] at hgt
         obtain ⟨M, hM⟩ : ∃ M, M = 2 ^ x := ⟨_, rfl⟩
         rw [← hM] at hsx hlt hgt
         have hM4 : M ≤ 4096 := by rw [hM]; have := sJ (show x ≤ 12 by omega); omega
         have e4 : bits .or .i64 (s : Int) (M : Int) = ((s ||| M : Nat) : Int) := i64_or_nat s M (by omega) (by omega)
         obtain ⟨S2, hS⟩ : ∃ S2, S2 = s ||| M := ⟨_, rfl⟩
         rw [← hS] at e4 hlt hgt
         have hlt' : (S2 : Int) < N := by omega
         have c2 := HARR3.out.bool S2 (by rw [HLEN3.out]; exact hlt)
         rw [getD_set_ne _ _ _ _ _ (by omega), hm2.out S2 (by omega) hlt] at c2
         obtain ⟨v, hv⟩ : ∃ v, v = under l S2 := ⟨_, rfl⟩
         rw [← hv] at c2
         have hcv : Hid (v = true ↔ s ∈ l ∨ ∃ y, y < x + 1 ∧ s.testBit y = false ∧ under l (s ||| 1 <<< y) = true) := by
          have h1 := hc.out
          have e : under l (s ||| 1 <<< x) = v := by rw [Nat.one_shiftLeft, ← hM, ← hS, hv]
          constructor
          ·intro h
           exact .inr ⟨x, by omega, hbit, by rw [e]; exact h⟩
          ·rintro (h | ⟨y, hy, h2, h3⟩)
           ·have := h1.2 (.inl h); cases this
           ·rcases Nat.lt_succ_iff_lt_or_eq.1 hy with hy | rfl
            ·have := h1.2 (.inr ⟨y, hy, h2, h3⟩); cases this
            ·rw [e] at h3; exact h3
         have HBIT := Kh hbit
         clear hbit hS hM hv
         go_wp2
         go_roundg (n - (x + 1))
         case measure => have := HGX.out; omega
         case rel =>
          refine ⟨x + 1, v, by omega, by go_num, ?_, zG hgr3 (zH _ _ _) (by simp), hcv⟩
          have := HSET.out v
          rw [List.set_set] at this
          exact this
        ·have hb := bit_one hs63 hbit
         have hcv : Hid (false = true ↔ s ∈ l ∨ ∃ y, y < x + 1 ∧ s.testBit y = false ∧ under l (s ||| 1 <<< y) = true) := by
          have h1 := hc.out
          constructor
          ·intro h; cases h
          ·rintro (h | ⟨y, hy, h2, h3⟩)
           ·exact h1.2 (.inl h)
           ·rcases Nat.lt_succ_iff_lt_or_eq.1 hy with hy | rfl
            ·exact h1.2 (.inr ⟨y, hy, h2, h3⟩)
            ·rw [hbit] at h2; cases h2
         have HBIT := Kh hbit
         clear hbit
         go_wp2
         go_roundg (n - (x + 1))
         case measure => have := HGX.out; omega
         case rel =>
          refine ⟨x + 1, false, by omega, by go_num, ?_, zG hgr3 (zH _ _ _) (by simp), hcv⟩
          have := HSET.out false
          rw [List.set_set] at this
          exact this
       ·have hu : Hid (under l s = true) := by
         have h1 := hc.out.1 rfl
         refine Kh ((under_step HLT.out s).2 (h1.imp id fun ⟨y, hy, h2, h3⟩ => ⟨y, by omega, h2, h3⟩))
        go_wp2
        go_roundg s
        case measure => have := HGK2.out; omega
        case rel =>
         refine ⟨s, bs2.set s true, rfl, by go_num, by omega, HLEN3.out, HARR3.out, hgr3, Kh fun z hz => ?_, Kh fun z h1 h2 => ?_⟩
         ·rw [getD_set_ne _ _ _ _ _ (by omega)]; exact hm1.out z (by omega)
         ·by_cases e : s = z
          ·subst e; rw [vX _ _ _ _ (by rw [HBL2.out]; omega), hu.out]
          ·rw [getD_set_ne _ _ _ _ _ e]; exact hm2.out z (by omega) h2
      ·have hu : Hid (under l s = c) := by
        have hxn : x = n := by have := HGX.out; omega
        have h1 := hc.out
        rw [hxn] at h1
        refine Kh ?_
        rw [Bool.eq_iff_iff]
        exact (under_step HLT.out s).trans h1.symm
       go_wp2
       go_roundg s
       case measure => have := HGK2.out; omega
       case rel =>
        refine ⟨s, bs2.set s c, rfl, by go_num, by omega, HLEN3.out, HARR3.out, hgr3, Kh fun z hz => ?_, Kh fun z h1 h2 => ?_⟩
        ·rw [getD_set_ne _ _ _ _ _ (by omega)]; exact hm1.out z (by omega)
        ·by_cases e : s = z
         ·subst e; rw [vX _ _ _ _ (by rw [HBL2.out]; omega), hu.out]
         ·rw [getD_set_ne _ _ _ _ _ e]; exact hm2.out z (by omega) h2
    ·have hk0 : k2 = 0 := by omega
     have hall : Hid (bs2 = tB N l) := by
      have h2 := hm2.out
      exact Kh (underAll_eq HBL2.out (fun s hs => h2 s (by omega) hs))
     clear hk0
     go_wp2
     go_ret
     exact ⟨rfl, by rw [← hall.out]; exact HARR2.out, hgr2⟩
end Go.Proofs.YtdjhoadoiknaoaaDoor
