/- Part 8 of the proof: Sets2. -/
import Derived.Test.YtdjhoadoiknaoaaDoorZw7
set_option linter.unusedVariables false
set_option linter.unusedSimpArgs false
namespace Go.Proofs.YtdjhoadoiknaoaaDoor
open Go.RowKit
theorem SetsOk.cells {F C p go n : Nat} {w : World} {tb : Nat → Nat → Nat} (h : SetsOk F C w p go n tb) : ∃ (g0 : Nat) (gr : Nat → Nat) (om : List Nat), w.cell? ⟨p, 0, none⟩ = some (.int .i64 n) ∧ w.cell? ⟨p, 1, none⟩ = some (.slice (some ⟨g0, 0, none⟩) n n) ∧ w.cell? ⟨p, 2, none⟩ = some (.slice (some ⟨go, 0, none⟩) (2 ^ n) (2 ^ n)) ∧
    (∀ x, x < n → w.cell? ⟨g0, x, none⟩ = some (.slice (some ⟨gr x, 0, none⟩) (2 ^ n) (2 ^ n))) ∧ (∀ x b, x < n → b < 2 ^ n → w.cell? ⟨gr x, b, none⟩ = some (.int .i64 (prodSet n tb (1 <<< x) b : Nat))) ∧
    om.length = 2 ^ n ∧ (∀ a, a < 2 ^ n → w.cell? ⟨go, a, none⟩ = some (.int .i64 (om.getD a 0 : Nat))) ∧ (∀ a, a < 2 ^ n → om.getD a 0 = 0 ∨ om.getD a 0 = 1 + omegaSet n tb a) ∧ SetsAt F C w p go g0 n n n tb gr om := by
  obtain ⟨g0, gr, om, A⟩ := h
  have c0 := cell_block A.box 0 (by simp)
  have c1 := cell_block A.box 1 (by simp)
  have c2 := cell_block A.box 2 (by simp)
  refine ⟨g0, gr, om, by simpa using c0, by simpa using c1, by simpa using c2, fun x hx => ?_, fun x b hx hb => ?_, A.oml, fun a ha => A.oms.nat a (by rw [A.oml]; exact ha), A.omok, A⟩
  · rw [A.rows.cell x (by rw [hdrs_length]; exact hx), hdrs_get hx hx]
  · rw [(A.rowc x hx).nat b (by rw [rowOf_length]; exact hb), rowOf_get hb]
theorem SetsOk.go_lt' {F C p go n : Nat} {w : World} {tb : Nat → Nat → Nat} (h : SetsOk F C w p go n tb) : F ≤ go ∧ go < C := by
  obtain ⟨g0, gr, om, h⟩ := h
  exact h.loo
set_option maxRecDepth 100000 in
set_option maxHeartbeats 1000000 in
theorem product_any (F C : Nat) (w : World) (p go n : Nat) (tb : Nat → Nat → Nat) (a b : Nat) (h : SetsOk F C w p go n tb) (ht : ∀ x y, x < n → y < n → tb x y < n) (hn : n ≤ 12) (ha : a < 2 ^ n) (hb : b < 2 ^ n) (hT : TabOk w) :
    Calls Tryd.prog 53 #[.pointer (some ⟨p, 0, none⟩), .int .i64 (a : Int), .int .i64 (b : Int)] w fun e w' => e = .returned (.int .i64 (prodSet n tb a b : Nat)) ∧ ∃ m, w' = w.drewN m := by
  obtain ⟨g0, gr, om, c0, c1, c2, hg, hr, _, _, _, _⟩ := h.cells
  obtain ⟨N, hN⟩ : ∃ N, N = 2 ^ n := ⟨_, rfl⟩
  have HN := Lib.hid hN; have HG := Lib.hid hg; have HR := Lib.hid hr; have HT := Lib.hid hT; have HTB := Lib.hid ht
  have hN4 : N ≤ 4096 := by have := pow_le hn; omega
  have hbN : (b : Int) < N := by omega
  have ha0 : a < N := by omega
  clear h hg hr hT c0 c2 hN ht
  go_enter Tryd.func53, Tryd.ntmps53
  go_wp2
  go_loopg [1, 7] a (fun g av sv wr => ∃ a' s m : Nat, g = a' ∧ av = .int .i64 a' ∧ sv = .int .i64 s ∧ a' < N ∧ s < N ∧ Hid (s ||| prodSet n tb a' b = prodSet n tb a b) ∧ wr = w.drewN m)
  case atStart => exact ⟨a, 0, 0, rfl, rfl, rfl, ha0, by omega, Lib.hid (by simp), rfl⟩
  case round =>
    clear ha ha0
    obtain ⟨a', s, m, hga, rfl, rfl, ha', hs', hstep, rfl⟩ := hrel
    have HGA := Lib.hid hga; clear hga
    by_cases h0 : a' = 0
    · subst h0
      go_wp2
      go_ret
      exact ⟨ret_int (by have := hstep.out; rw [prod_zero] at this; simp at this; rw [this]), m, rfl⟩
    · have hne : ((a' : Int) != 0) = true := by rw [bne_iff_ne]; omega
      have ha2 : a' < 2 ^ n := by rw [← HN.out]; exact ha'
      have h64 := lt64 ha2 hn
      obtain ⟨l, hl⟩ : ∃ l, l = low a' := ⟨_, rfl⟩
      have hll : l < n := by rw [hl]; exact low_lt h0 ha2 (by omega)
      have hll' : (l : Int) < n := by omega
      obtain ⟨r, hr⟩ : ∃ r, r = rest a' := ⟨_, rfl⟩
      have hra : r < a' := by rw [hr]; exact rest_lt h0
      have e1 : bits .and .i64 (a' : Int) ((a' : Int) - 1) = (r : Int) := by
        rw [hr, rest, show (a' : Int) - 1 = ((a' - 1 : Nat) : Int) by omega]
        exact i64_and_nat a' (a' - 1) (by omega) (by omega)
      have e5 : IntKind.i64.wrap ((a' : Int) - 1) = (a' : Int) - 1 := IntWalk.i64_in _ (by omega)
      have e2 : IntKind.u64.wrap (a' : Int) = (a' : Int) := by rw [IntKind.wrap_u64]; omega
      have cg := HG.out l hll
      have cr := HR.out l b hll (by rw [← HN.out]; omega)
      rw [← HN.out] at cg
      obtain ⟨V, hV⟩ : ∃ V, V = prodSet n tb (1 <<< l) b := ⟨_, rfl⟩
      rw [← hV] at cr
      have hV2 : V < N := by rw [hV, HN.out]; exact prodSet_lt HTB.out _ _
      have e4 : bits .or .i64 (s : Int) (V : Int) = ((s ||| V : Nat) : Int) := i64_or_nat s V (by omega) (by omega)
      have hs2 : s ||| V < N := by rw [HN.out]; exact or_lt (by rw [← HN.out]; exact hs') (by rw [← HN.out]; exact hV2)
      have hstep2 : Hid ((s ||| V) ||| prodSet n tb r b = prodSet n tb a b) := by
        have := prod_step (tb := tb) (b := b) h0 ha2 hn
        rw [← hl, ← hV, ← hr] at this
        have h2 := hstep.out
        rw [← this, ← Nat.or_assoc] at h2
        exact h2
      have hc := fun W (hW : TabOk W) => tz_any a' h0 h64 W hW
      rw [show ((Lib.ctz 64 a' : Nat) : Int) = (l : Int) by rw [hl]; rfl] at hc
      have HC := Lib.hid hc
      have HTm : ∀ q, Hid (TabOk (w.drewN q)) := fun q => HT.out.of_heap rfl
      clear hl hr hV hc
      have h0' : ¬ (a' : Int) = 0 := by omega
      clear h0
      go_wp2
      go_quiet ((go_at_call 88; first | exact quiet_left (HC.out _ (HTm _)) | exact quiet_add_left (HC.out _ (HTm _))))
      go_wp2
      go_roundg r
      case measure => have := HGA.out; omega
      case rel => exact ⟨r, s ||| V, _, rfl, rfl, rfl, by omega, hs2, hstep2, rfl⟩
theorem SetsAt.om_set {F C p go g0 n k kh a v : Nat} {w : World} {tb : Nat → Nat → Nat} {gr : Nat → Nat} {om : List Nat} (h : SetsAt F C w p go g0 n k kh tb gr om) (ha : a < 2 ^ n) (hv : v = 1 + omegaSet n tb a) : SetsAt F C (w.setCell ⟨go, a, none⟩ (.int .i64 (v : Int))) p go g0 n k kh tb gr (om.set a v) := by
  have hg := grownBy_setCell w ⟨go, a, none⟩ (.int .i64 (v : Int))
  have h1 : go ≠ p := by
    rintro rfl
    exact (h.oms.type_ne h.box (by decide)) rfl
  have h2 : go ≠ g0 := by
    rintro rfl
    obtain ⟨cur, rest, hh, _⟩ := h.rows
    exact (h.oms.type_ne hh (by decide)) rfl
  refine ⟨block_kept h.box hg (fun e => h1 (Option.some.inj e)), h.rows.kept hg (fun e => h2 (Option.some.inj e)), fun x hx => (h.rowc x hx).kept hg (fun e => h.ne x hx (Option.some.inj e).symm), h.oms.nat_set a (by rw [h.oml]; exact ha) v, by rw [List.length_set]; exact h.oml, fun y hy => ?_, h.ne, h.lop, h.log, h.loo, h.lor⟩
  by_cases e : a = y
  · subst e
    rw [getD_set_eq _ _ _ _ (by rw [h.oml]; exact ha)]
    exact .inr hv
  · rw [getD_set_ne _ _ _ _ _ e]; exact h.omok y hy
def Omegad (F C : Nat) (w : World) (p go n : Nat) (tb : Nat → Nat → Nat) (a : Nat) (e : Ending) (w' : World) : Prop :=
  e = .returned (.int .i64 (omegaSet n tb a : Nat)) ∧ SetsOk F C w' p go n tb ∧ w.grownBy w' (some go)
set_option maxRecDepth 100000 in
set_option maxHeartbeats 1000000 in
theorem omega_any (F C : Nat) (w : World) (p go n : Nat) (tb : Nat → Nat → Nat) (a : Nat) (h : SetsOk F C w p go n tb) (ht : Tb n tb) (hn : n ≤ 12) (ha : a < 2 ^ n) (hT : TabOk w) :
    Calls Tryd.prog 56 #[.pointer (some ⟨p, 0, none⟩), .int .i64 (a : Int)] w (Omegad F C w p go n tb a) := by
  have H := Lib.hid h
  obtain ⟨g0, gr, om, c0, c1, c2, hg, hr, hol, hoc, hok, hat⟩ := h.cells
  obtain ⟨N, hN⟩ : ∃ N, N = 2 ^ n := ⟨_, rfl⟩
  have HN := Lib.hid hN; have HAT := Lib.hid hat; have HT := Lib.hid hT; have HTB := Lib.hid ht
  have hN4 : N ≤ 4096 := by have := pow_le hn; omega
  have haN : (a : Int) < N := by omega
  have co := hoc a ha
  have fo := hat.oms.frozen a
  have ho := hok a ha
  have hom := omegaSet_lt ht ha
  obtain ⟨O, hO⟩ : ∃ O, O = omegaSet n tb a := ⟨_, rfl⟩
  have hON : O < N := by omega
  rw [← hN] at c2
  rw [← hO] at ho
  obtain ⟨v, hv⟩ : ∃ v, v = om.getD a 0 := ⟨_, rfl⟩
  rw [← hv] at co ho
  have HO := Lib.hid hO
  clear h hat hT ht hN hg hr hoc hok hol c0 c1 hom hO hv
  by_cases h0 : v = 0
  · subst h0
    clear ho
    go_enter Tryd.func56, Tryd.ntmps56
    go_wp2
    go_loopg [5] (2 ^ n * 2 ^ n + 2 ^ n) (fun g xv wr => ∃ x m : Nat, xv = .int .i64 x ∧ x < N ∧ Hid (Ends n tb a g x) ∧ Hid (omegaGo n tb a g x = O) ∧ wr = w.drewN m)
    case atStart => exact ⟨a, 0, rfl, by omega, Lib.hid (ends_start HTB.out ha), Lib.hid HO.out.symm, rfl⟩
    case round =>
      obtain ⟨x, m, rfl, hx, hends, hgo, rfl⟩ := hrel
      have hx2 : x < 2 ^ n := by rw [← HN.out]; exact hx
      have HP1 : ∀ q, Hid (Calls Tryd.prog 53 #[.pointer (some ⟨p, 0, none⟩), .int .i64 (x : Int), .int .i64 (x : Int)] (w.drewN q) fun e w' => e = .returned (.int .i64 (prodSet n tb x x : Nat)) ∧ ∃ m, w' = (w.drewN q).drewN m) :=
        fun q => Lib.hid (product_any F C _ p go n tb x x (H.out.kept (grownBy_drewN _ _ none) (by simp)) HTB.out.lt hn hx2 hx2 (HT.out.of_heap rfl))
      have HP2 : ∀ q, Hid (Calls Tryd.prog 53 #[.pointer (some ⟨p, 0, none⟩), .int .i64 (x : Int), .int .i64 (a : Int)] (w.drewN q) fun e w' => e = .returned (.int .i64 (prodSet n tb x a : Nat)) ∧ ∃ m, w' = (w.drewN q).drewN m) :=
        fun q => Lib.hid (product_any F C _ p go n tb x a (H.out.kept (grownBy_drewN _ _ none) (by simp)) HTB.out.lt hn hx2 ha (HT.out.of_heap rfl))
      obtain ⟨Y, hY⟩ : ∃ Y, Y = prodSet n tb x a := ⟨_, rfl⟩
      obtain ⟨X, hX⟩ : ∃ X, X = prodSet n tb x x := ⟨_, rfl⟩
      have hYN : Y < N := by rw [hY, HN.out]; exact prodSet_lt HTB.out.lt _ _
      rw [← hX] at HP1
      rw [← hY] at HP2
      have HX := Lib.hid hX; have HY := Lib.hid hY
      clear hX hY
      by_cases hid : X = x
      · have ht : ((X : Int) != (x : Int)) = false := by rw [hid]; simp
        have HI := Lib.hid hid
        have e4 : bits .or .i64 (x : Int) (Y : Int) = ((x ||| Y : Nat) : Int) := i64_or_nat x Y (by omega) (by omega)
        have hstop : x ||| Y = O := by
          have h1 := hgo.out
          rw [omegaGo_stop (by rw [← HX.out]; exact hid)] at h1
          rw [HY.out]; exact h1
        rw [hstop] at e4
        have e6 : IntKind.i64.wrap (1 + (O : Int)) = ((1 + O : Nat) : Int) := by rw [IntWalk.i64_in _ (by omega)]; omega
        have HSET : ∀ q, Hid (SetsAt F C ((w.drewN q).setCell ⟨go, a, none⟩ (.int .i64 (1 + (O : Int)))) p go g0 n n n tb gr (om.set a (1 + O))) := fun q => by
          have h1 := HAT.out.kept (grownBy_drewN w q none) (by simp)
          have h2 := h1.om_set (v := 1 + O) ha (by rw [HO.out])
          rw [show ((1 + O : Nat) : Int) = 1 + (O : Int) by omega] at h2
          exact h2
        have HKQ : ∀ q, Hid (((w.drewN q).setCell ⟨go, a, none⟩ (.int .i64 (1 + (O : Int)))).cell? ⟨p, 2, none⟩ = some (.slice (some ⟨go, 0, none⟩) N N)) := fun q => by
          have h1 := cell_block (HSET q).out.box 2 (by simp)
          rw [HN.out]
          exact Lib.hid (by simpa using h1)
        clear hid hstop
        go_wp2_with fail
        refine (HP1 m).out.mono ?_
        rintro e w' ⟨rfl, m2, rfl⟩
        go_upto_region 5 with fail
        go_region_held3 (fun w' => w'.cell? ⟨p, 2, none⟩ = some (.slice (some ⟨go, 0, none⟩) N N)) (first | exact (HKQ _).out | go_keep | fail)
          (first | (go_at_call 53; refine (HP2 _).out.mono ?_; rintro e w' ⟨rfl, m3, rfl⟩) | fail)
        go_wp2
        go_ret
        exact ⟨ret_int (by rw [HO.out]; omega), ⟨g0, gr, _, (HSET _).out⟩, grownBy_trans' (grownBy_drewN w _ _) (grownBy_setCell _ _ _)⟩
      · have ht : ((X : Int) != (x : Int)) = true := by rw [bne_iff_ne]; omega
        have HI := Lib.hid hid
        clear hid
        go_wp2_with fail
        refine (HP1 m).out.mono ?_
        rintro e w' ⟨rfl, m2, rfl⟩
        go_wp2_with fail
        refine (HP2 _).out.mono ?_
        rintro e w' ⟨rfl, m3, rfl⟩
        obtain ⟨j, hj, he⟩ := ends_step hends.out (by rw [← HX.out]; exact HI.out)
        have hgo2 := hgo.out
        rw [hj, omegaGo_step (by rw [← HX.out]; exact HI.out), ← HY.out] at hgo2
        rw [← HY.out] at he
        have HJ := Lib.hid hj; have HE := Lib.hid he; have HG := Lib.hid hgo2
        clear hj he hgo2
        go_wp2
        go_roundg j
        case measure => have := HJ.out; omega
        case rel => exact ⟨Y, _, rfl, hYN, HE, HG, rfl⟩
  · have hv : v = 1 + O := by omega
    subst hv
    have hne : (((1 + O : Nat) : Int) == 0) = false := by rw [beq_eq_false_iff_ne]; omega
    clear h0 ho
    go_enter Tryd.func56, Tryd.ntmps56
    go_wp2
    go_ret
    refine ⟨ret_int ?_, H.out, grownBy_refl _ _⟩
    rw [← HO.out]; omega
end Go.Proofs.YtdjhoadoiknaoaaDoor
