/- Part 7 of the proof: Sets1. -/
import Derived.Test.YtdjhoadoiknaoaaDoorZw6
import Derived.BigRegion
set_option linter.unusedVariables false
set_option linter.unusedSimpArgs false
namespace Go.Proofs.YtdjhoadoiknaoaaDoor
open Go.RowKit
def NewOk (w : World) (n : Nat) (tb : Nat → Nat → Nat) (e : Ending) (w' : World) : Prop := ∃ p go, e = .returned (.pointer (some ⟨p, 0, none⟩)) ∧ SetsOk w.heap.size w'.heap.size w' p go n tb ∧ w.grownBy w' none
structure Filling (F : Nat) (w : World) (p go g0 n k : Nat) (tb : Nat → Nat → Nat) (gr : Nat → Nat) (om : List Nat) (q j : Nat) : Prop where
  at_ : SetsAt F w.heap.size w p go g0 n k (k + 1) tb gr om
  row : Arr w q 3 (nats (rowPart n tb k j))
  gq : gr k = q
  nq : q ≠ go
  lo : F ≤ q ∧ q < w.heap.size
theorem Filling.set {F p go g0 n k q j : Nat} {w : World} {tb : Nat → Nat → Nat} {gr : Nat → Nat} {om : List Nat} (h : Filling F w p go g0 n k tb gr om q j) (hq : ∀ x, x < k → gr x ≠ q) (hj : j < 2 ^ n) : Filling F (w.setCell ⟨q, j, none⟩ (.int .i64 (prodSet n tb (1 <<< k) j : Nat))) p go g0 n k tb gr om q (j + 1) := by
  have hg := grownBy_setCell w ⟨q, j, none⟩ (.int .i64 (prodSet n tb (1 <<< k) j : Nat))
  have A := h.at_
  have hsz : (w.setCell ⟨q, j, none⟩ (.int .i64 (prodSet n tb (1 <<< k) j : Nat))).heap.size = w.heap.size := by simp [World.setCell]
  have hp : q ≠ p := by
    rintro rfl
    exact (h.row.type_ne A.box (by decide)) rfl
  have h0 : q ≠ g0 := by
    rintro rfl
    obtain ⟨cur, rest, hh, _⟩ := A.rows
    exact (h.row.type_ne hh (by decide)) rfl
  refine ⟨⟨block_kept A.box hg (fun e => hp (Option.some.inj e)), A.rows.kept hg (fun e => h0 (Option.some.inj e)), fun x hx => (A.rowc x hx).kept hg (fun e => hq x hx (Option.some.inj e).symm), A.oms.kept hg (fun e => h.nq (Option.some.inj e)), A.oml, A.omok, A.ne, ?_, ?_, ?_, ?_⟩, ?_, h.gq, h.nq, ?_⟩
  · rw [hsz]; exact A.lop
  · rw [hsz]; exact A.log
  · rw [hsz]; exact A.loo
  · rw [hsz]; exact A.lor
  · have := h.row.nat_set j (by rw [rowPart_length]; exact hj) (prodSet n tb (1 <<< k) j)
    rw [rowPart_set] at this
    exact this
  · rw [hsz]; exact h.lo
theorem Filling.drew {F p go g0 n k q j : Nat} {w : World} {tb : Nat → Nat → Nat} {gr : Nat → Nat} {om : List Nat} (h : Filling F w p go g0 n k tb gr om q j) : Filling F w.drew p go g0 n k tb gr om q j :=
  ⟨h.at_.kept (grownBy_drew _ none) (by simp), h.row.of_heap rfl, h.gq, h.nq, h.lo⟩
theorem Filling.done {F p go g0 n k q j : Nat} {w : World} {tb : Nat → Nat → Nat} {gr : Nat → Nat} {om : List Nat} (h : Filling F w p go g0 n k tb gr om q j) (hj : 2 ^ n ≤ j) : SetsAt F w.heap.size w p go g0 n (k + 1) (k + 1) tb gr om := by
  have A := h.at_
  refine ⟨A.box, A.rows, fun x hx => ?_, A.oms, A.oml, A.omok, fun x hx => ?_, A.lop, A.log, A.loo, fun x hx => ?_⟩
  · rcases Nat.lt_succ_iff_lt_or_eq.1 hx with hx | rfl
    · exact A.rowc x hx
    · rw [h.gq]
      have := h.row
      rwa [rowPart_full n tb _ j hj] at this
  · rcases Nat.lt_succ_iff_lt_or_eq.1 hx with hx | rfl
    · exact A.ne x hx
    · rw [h.gq]; exact h.nq
  · rcases Nat.lt_succ_iff_lt_or_eq.1 hx with hx | rfl
    · exact A.lor x hx
    · rw [h.gq]; exact h.lo
theorem filling_new {F p go g0 n k : Nat} {w : World} {tb : Nat → Nat → Nat} {gr : Nat → Nat} {om : List Nat} (A : SetsAt F w.heap.size w p go g0 n k k tb gr om) (hF : F ≤ w.heap.size) (hk : k < n) :
    Filling F ((w.setCell ⟨g0, k, none⟩ (.slice (some ⟨w.heap.size, 0, none⟩) (2 ^ n) (2 ^ n))).alloc (.cells (madeCells #[.int .i64 0] (2 ^ n)) 3)).drew p go g0 n k tb (fun x => if x = k then w.heap.size else gr x) om w.heap.size 1 := by
  have hS := grownBy_setCell w ⟨g0, k, none⟩ (.slice (some ⟨w.heap.size, 0, none⟩) (2 ^ n) (2 ^ n))
  have hA : (w.setCell ⟨g0, k, none⟩ (.slice (some ⟨w.heap.size, 0, none⟩) (2 ^ n) (2 ^ n))).grownBy ((w.setCell ⟨g0, k, none⟩ (.slice (some ⟨w.heap.size, 0, none⟩) (2 ^ n) (2 ^ n))).alloc (.cells (madeCells #[.int .i64 0] (2 ^ n)) 3)).drew none := grownBy_same (World.grownBy_alloc _ _ none) rfl rfl rfl rfl
  have hs0 : (w.setCell ⟨g0, k, none⟩ (.slice (some ⟨w.heap.size, 0, none⟩) (2 ^ n) (2 ^ n))).heap.size = w.heap.size := by simp [World.setCell]
  have hsz : ((w.setCell ⟨g0, k, none⟩ (.slice (some ⟨w.heap.size, 0, none⟩) (2 ^ n) (2 ^ n))).alloc (.cells (madeCells #[.int .i64 0] (2 ^ n)) 3)).drew.heap.size = w.heap.size + 1 := by
    show ((w.setCell ⟨g0, k, none⟩ (.slice (some ⟨w.heap.size, 0, none⟩) (2 ^ n) (2 ^ n))).alloc (.cells (madeCells #[.int .i64 0] (2 ^ n)) 3)).heap.size = _
    rw [alloc_size, hs0]
  have g0p : g0 ≠ p := by
    rintro rfl
    exact (A.rows.type_ne A.box (by decide)) rfl
  have g0o : g0 ≠ go := by
    rintro rfl
    obtain ⟨cur, rest, hh, _⟩ := A.oms
    exact (A.rows.type_ne hh (by decide)) rfl
  have g0r : ∀ x, x < k → g0 ≠ gr x := by
    intro x hx e
    obtain ⟨cur, rest, hh, _⟩ := A.rowc x hx
    exact (A.rows.type_ne hh (by decide)) e
  have hnew := Arr.new (w.setCell ⟨g0, k, none⟩ (.slice (some ⟨w.heap.size, 0, none⟩) (2 ^ n) (2 ^ n))) 3 (madeCells #[.int .i64 0] (2 ^ n))
  rw [made_int, hs0] at hnew
  have e0 : ∀ x, x < k → (if x = k then w.heap.size else gr x) = gr x := fun x hx => if_neg (by omega)
  refine ⟨⟨block_kept (block_kept A.box hS (fun e => g0p (Option.some.inj e))) hA (by simp), ?_, fun x hx => ?_, (A.oms.kept hS (fun e => g0o (Option.some.inj e))).kept hA (by simp), A.oml, A.omok, fun x hx => ?_, ?_, ?_, ?_, fun x hx => ?_⟩, ?_, if_pos rfl, ?_, ?_⟩
  · have := A.rows.set k (by rw [hdrs_length]; exact hk) (.slice (some ⟨w.heap.size, 0, none⟩) (2 ^ n) (2 ^ n))
    rw [hdrs_set] at this
    exact this.kept hA (by simp)
  · rw [e0 x hx]
    exact ((A.rowc x hx).kept hS (fun e => g0r x hx (Option.some.inj e))).kept hA (by simp)
  · rw [e0 x hx]; exact A.ne x hx
  · rw [hsz]; exact ⟨A.lop.1, by have := A.lop.2; omega⟩
  · rw [hsz]; exact ⟨A.log.1, by have := A.log.2; omega⟩
  · rw [hsz]; exact ⟨A.loo.1, by have := A.loo.2; omega⟩
  · rw [hsz, e0 x hx]; exact ⟨(A.lor x hx).1, by have := (A.lor x hx).2; omega⟩
  · rw [rowPart_zero]
    exact hnew.of_heap rfl
  · have := A.loo.2; omega
  · rw [hsz]; exact ⟨hF, by omega⟩
theorem filling_grown {w0 w : World} {g0 k N : Nat} (h : w0.grownBy w none) (hg : w0.heap.size ≤ g0) : w0.grownBy ((w.setCell ⟨g0, k, none⟩ (.slice (some ⟨w.heap.size, 0, none⟩) N N)).alloc (.cells (madeCells #[.int .i64 0] N) 3)).drew none :=
  grownBy_same (grown_alloc (grown_far h (grownBy_setCell _ _ _) (by simp; omega)) _) rfl rfl rfl rfl
theorem far_cell {w : World} {p i g0 k : Nat} {u v : Value} {o : Obj} (h : w.cell? ⟨p, i, none⟩ = some v) (hne : g0 ≠ p) : (((w.setCell ⟨g0, k, none⟩ u).alloc o).drew).cell? ⟨p, i, none⟩ = some v := by
  have h1 := (World.cell?_setCell_other w ⟨g0, k, none⟩ ⟨p, i, none⟩ u (fun e => hne (by injection e))).trans h
  have hb := World.block_lt_of_cell? _ _ h1
  show ((w.setCell ⟨g0, k, none⟩ u).alloc o).cell? _ = _
  exact (World.cell?_of_block (Below.heap_alloc _ o _ hb)).trans h1
theorem set_far {w : World} {g i c o : Nat} {u v : Value} (h : w.cell? ⟨c, o, none⟩ = some v) (hne : g ≠ c ∨ i ≠ o) : (w.setCell ⟨g, i, none⟩ u).drew.cell? ⟨c, o, none⟩ = some v :=
  (World.cell?_setCell_other w ⟨g, i, none⟩ ⟨c, o, none⟩ u (fun e => by
    injection e with e1 e2
    rcases hne with h | h
    · exact h e1
    · exact h e2)).trans h
set_option maxRecDepth 100000 in
set_option maxHeartbeats 2000000 in
theorem newSets_any (B : Nat) (w : World) (v : Value) (t : List (List Int)) (hB : B ≤ w.heap.size) (h : Mat B w v t) (hv : validE t = 0) (hn : t.length ≤ 12) (hT : TabOk w) :
    Calls Tryd.prog 48 #[v] w (NewOk w t.length (entN t)) := by
  have hs := (valid_of hv).1
  obtain ⟨b, off, cap, RB, RO, RC, rfl, hc1, hc2, hq⟩ := h.sq hs
  have hmx : cap ≤ 9223372036854775807 := by unfold maxLen at hc2; omega
  have hpos := hs.pos
  have hsh := shl_eq (m := t.length) (by omega)
  have hsh' := shl_eq' (m := t.length) (by omega)
  obtain ⟨N, hN⟩ : ∃ N, N = 2 ^ t.length := ⟨_, rfl⟩
  have hN12 : N ≤ 4096 := by have := pow_le hn; omega
  have hN1 : 1 ≤ N := by rw [hN]; exact Nat.two_pow_pos _
  rw [← hN] at hsh hsh'
  have HQ := Lib.hid hq; have HS := Lib.hid hs; have HN := Lib.hid hN; have HV := Lib.hid hv; have HT := Lib.hid hT
  clear hq hs h hN hv hT hc2
  have hmk1 := mk_int N (by omega)
  have hmk2 := mk_row t.length (by omega)
  go_enter Tryd.func48, Tryd.ntmps48
  go_upto_region 1 with fail
  go_cut [3] (fun s3 wx => NewS w wx t.length N s3)
  case first =>
    go_region_held3 (fun w' => True) (first | trivial | go_keep) (fail)
    all_goals (go_wp2_with fail; go_meet; first | (with_reducible exact newS1 w _ _) | (with_reducible exact newS2 w _ _))
  case rest =>
    clear hmk2
    rw [HN.out] at hcut
    obtain ⟨p, go, g0, rfl, hat, hgw⟩ := newS_start (tb := entN t) hcut
    obtain ⟨om0, hom⟩ : ∃ o, o = List.replicate (2 ^ t.length) 0 := ⟨_, rfl⟩
    rw [← hom] at hat
    have HAT := Lib.hid hat
    clear hom
    clear hcut hat
    go_wp2
    go_loopg [20] t.length (fun g i wr => ∃ (k : Nat) (gr : Nat → Nat), g + k = t.length ∧ i = .int .i64 k ∧ SetsAt w.heap.size wr.heap.size wr p go g0 t.length k k (entN t) gr om0 ∧ w.grownBy wr none)
    case atStart => exact ⟨0, _, rfl, rfl, HAT.out, hgw⟩
    case round =>
      clear HAT hgw
      obtain ⟨k, gr, hg, rfl, hat, hgr⟩ := hrel
      have HG := Lib.hid hg; have HAT := Lib.hid hat
      clear hg hat
      have hszr := hgr.size
      by_cases hk : k < t.length
      · have hk' : (k : Int) < t.length := by omega
        have cb := cell_block HAT.out.box 1 (by simp)
        simp only [List.getElem_toArray, List.getElem_cons_succ, List.getElem_cons_zero] at cb
        have fk := HAT.out.rows.frozen k
        have ck := HAT.out.rows.cell k (by rw [hdrs_length]; exact hk)
        obtain ⟨u0, hu0⟩ : ∃ u0, u0 = (hdrs gr (2 ^ t.length) t.length k)[k]'(by rw [hdrs_length]; exact hk) := ⟨_, rfl⟩
        rw [← hu0] at ck
        have hF := filling_new HAT.out hszr hk
        rw [← HN.out] at hF
        have HF := Lib.hid hF
        have gw2 := filling_grown (k := k) (N := N) hgr HAT.out.log.1
        have GW2 := Lib.hid gw2
        have g0p : g0 ≠ p := by
          rintro rfl
          exact (HAT.out.rows.type_ne HAT.out.box (by decide)) rfl
        have HFAR := Lib.hid (far_cell (k := k) (u := .slice (some ⟨wr.heap.size, 0, none⟩) N N) (o := .cells (madeCells #[.int .i64 0] N) 3) cb g0p)
        have hlp := HAT.out.lop.2
        have hlg := HAT.out.log.2
        clear hu0 hF gw2
        obtain ⟨wo, rfl⟩ : ∃ wo : World, wo = wr := ⟨_, rfl⟩
        go_upto_region 5 with fail
        go_region_held3 (fun w' => w'.cell? ⟨p, 1, none⟩ = some (.slice (some ⟨g0, 0, none⟩) t.length t.length)) (first | go_keep | exact HFAR.out | fail) (fail)
        rename_i hh
        clear hh HFAR
        have hne2 : Hid (∀ x, x < k → (fun x => if x = k then wo.heap.size else gr x) x ≠ wo.heap.size) := by
          intro x hx
          have h1 := (HAT.out.lor x hx).2
          show (if x = k then wo.heap.size else gr x) ≠ wo.heap.size
          rw [if_neg (by omega)]
          omega
        generalize (fun x => if x = k then wo.heap.size else gr x) = gr2 at HF hne2
        have hw2 : ∃ w2, w2 = ((wo.setCell ⟨g0, k, none⟩ (.slice (some ⟨wo.heap.size, 0, none⟩) N N)).alloc (.cells (madeCells #[.int .i64 0] N) 3)).drew := ⟨_, rfl⟩
        obtain ⟨w2, hw2⟩ := hw2
        rw [← hw2] at HF GW2 ⊢
        generalize wo.heap.size = q at HF hne2 ⊢
        clear hw2 cb fk ck hlp hlg hmk1
        go_wp2
        go_loopg [5] (N - 1) (fun g jv wr => ∃ j : Nat, 1 ≤ j ∧ g + j = N ∧ jv = .int .i64 j ∧ Filling w.heap.size wr p go g0 t.length k (entN t) gr2 om0 q j ∧ w.grownBy wr none)
        case atStart => exact ⟨1, Nat.le_refl _, by omega, rfl, HF.out, GW2.out⟩
        case round =>
          clear HF GW2 hgr hszr HAT
          obtain ⟨j, hj1, hg, rfl, hf, hgr⟩ := hrel
          have HGJ := Lib.hid hg; have HF := Lib.hid hf; clear hg hf
          by_cases hj : j < N
          · have hj' : (j : Int) < N := by omega
            have hj2 : j < 2 ^ t.length := by rw [← HN.out]; exact hj
            have hj0 : j ≠ 0 := by omega
            have h64 := lt64 hj2 hn
            obtain ⟨l, hl⟩ : ∃ l, l = low j := ⟨_, rfl⟩
            have hll : l < t.length := by rw [hl]; exact low_lt hj0 hj2 (by omega)
            have hll' : (l : Int) < t.length := by omega
            obtain ⟨r, hr⟩ : ∃ r, r = rest j := ⟨_, rfl⟩
            have hrj : r < j := by rw [hr]; exact rest_lt hj0
            have hrN : (r : Int) < N := by omega
            have e1 : bits .and .i64 (j : Int) ((j : Int) - 1) = (r : Int) := by
              rw [hr, rest, show (j : Int) - 1 = ((j - 1 : Nat) : Int) by omega]
              exact i64_and_nat j (j - 1) (by omega) (by omega)
            have e5 : IntKind.i64.wrap ((j : Int) - 1) = (j : Int) - 1 := IntWalk.i64_in _ (by omega)
            have e2 : IntKind.u64.wrap (j : Int) = (j : Int) := by rw [IntKind.wrap_u64]; omega
            have HQ1 := HQ.out.kept hgr (by simp)
            have ck := HQ1.hd k hk
            have cl := HQ1.el k l hk hll
            obtain ⟨m, hm⟩ : ∃ m, m = entN t k l := ⟨_, rfl⟩
            have hml : m < t.length := by rw [hm]; exact entN_lt HS.out hk hll
            rw [← hm] at cl
            have e3 := shl_eq' (m := m) (by omega)
            have hmN : 2 ^ m ≤ 4096 := by have := pow_le (show m ≤ 12 by omega); omega
            obtain ⟨M, hM⟩ : ∃ M, M = 2 ^ m := ⟨_, rfl⟩
            rw [← hM] at e3 hmN
            have A := HF.out.at_
            have cb := cell_block A.box 1 (by simp)
            simp only [List.getElem_toArray, List.getElem_cons_succ, List.getElem_cons_zero] at cb
            have cg := A.rows.cell k (by rw [hdrs_length]; exact hk)
            rw [hdrs_get (Nat.lt_succ_self k) hk, HF.out.gq, ← HN.out] at cg
            have cr := HF.out.row.nat r (by rw [rowPart_length]; omega)
            rw [rowPart_get (by omega), if_pos hrj] at cr
            have cj := HF.out.row.nat j (by rw [rowPart_length]; omega)
            have fj := HF.out.row.frozen j
            obtain ⟨V, hV⟩ : ∃ V, V = prodSet t.length (entN t) (1 <<< k) r := ⟨_, rfl⟩
            have hV4 : V < 2 ^ t.length := by rw [hV]; exact prodSet_lt (tb_of HV.out).lt _ _
            have hV5 : V ≤ 4096 := by rw [← HN.out] at hV4; omega
            rw [← hV] at cr
            obtain ⟨U, hU⟩ : ∃ U, U = (rowPart t.length (entN t) k j).getD j 0 := ⟨_, rfl⟩
            rw [← hU] at cj
            have e4 : bits .or .i64 (V : Int) (M : Int) = ((V ||| M : Nat) : Int) := i64_or_nat V M (by omega) (by omega)
            have hstep : Hid (V ||| M = prodSet t.length (entN t) (1 <<< k) j) := by
              have := row_step (tb := entN t) hk hj0 hj2 hn
              rw [hV, hM, hr, hm, hl, ← Nat.one_shiftLeft]
              exact this
            have hT := HT.out.kept hgr (by simp)
            have HL := Lib.hid hl
            have hqg : q ≠ g0 := by
              rintro rfl
              obtain ⟨cur, rest, hh, _⟩ := A.rows
              exact (HF.out.row.type_ne hh (by decide)) rfl
            have hqp : q ≠ p := by
              rintro rfl
              exact (HF.out.row.type_ne A.box (by decide)) rfl
            have hqb : q ≠ b := by have := HQ1.lt; have := HF.out.lo.1; omega
            have hqr : q ≠ RB k := by have := (HQ1.ltr k hk).1; have := HF.out.lo.1; omega
            have hjr : j ≠ r := by omega
            obtain ⟨wo2, rfl⟩ : ∃ wo2 : World, wo2 = wr := ⟨_, rfl⟩
            have HK : Hid (((wo2.setCell ⟨q, j, none⟩ (.int .i64 ((V ||| M : Nat) : Int))).drew).cell? ⟨p, 1, none⟩ = some (.slice (some ⟨g0, 0, none⟩) t.length t.length) ∧ ((wo2.setCell ⟨q, j, none⟩ (.int .i64 ((V ||| M : Nat) : Int))).drew).cell? ⟨g0, k, none⟩ = some (.slice (some ⟨q, 0, none⟩) N N) ∧
                ((wo2.setCell ⟨q, j, none⟩ (.int .i64 ((V ||| M : Nat) : Int))).drew).cell? ⟨q, r, none⟩ = some (.int .i64 (V : Int)) ∧ ((wo2.setCell ⟨q, j, none⟩ (.int .i64 ((V ||| M : Nat) : Int))).drew).cell? ⟨b, off + k, none⟩ = some (.slice (some ⟨RB k, RO k, none⟩) t.length (RC k)) ∧
                ((wo2.setCell ⟨q, j, none⟩ (.int .i64 ((V ||| M : Nat) : Int))).drew).cell? ⟨RB k, RO k + l, none⟩ = some (.int .i64 (m : Int))) :=
              Lib.hid ⟨set_far cb (.inl hqp), set_far cg (.inl hqg), set_far cr (.inr hjr), set_far ck (.inl hqb), set_far cl (.inl hqr)⟩
            clear A hl hr hm hM hV hU HQ1 hV4
            go_wp2_with fail
            refine (tz_any j hj0 h64 wo2 hT).mono ?_
            rintro e w' ⟨rfl, rfl⟩
            have el : ((Lib.ctz 64 j : Nat) : Int) = (l : Int) := by rw [HL.out]; rfl
            rw [el]
            clear el
            go_upto_region 10 with fail
            go_region_held3 (fun w' => w'.cell? ⟨p, 1, none⟩ = some (.slice (some ⟨g0, 0, none⟩) t.length t.length) ∧ w'.cell? ⟨g0, k, none⟩ = some (.slice (some ⟨q, 0, none⟩) N N) ∧ w'.cell? ⟨q, r, none⟩ = some (.int .i64 (V : Int)) ∧ w'.cell? ⟨b, off + k, none⟩ = some (.slice (some ⟨RB k, RO k, none⟩) t.length (RC k)) ∧ w'.cell? ⟨RB k, RO k + l, none⟩ = some (.int .i64 (m : Int)))
              (first | exact HK.out | go_keep | fail) (fail)
            rename_i hh
            clear hh HK
            go_wp2
            go_roundg (N - (j + 1))
            case measure => have := HGJ.out; omega
            case rel =>
              refine ⟨j + 1, by omega, by omega, by go_num, ?_, grownBy_same (grown_far hgr (grownBy_setCell wo2 ⟨q, j, none⟩ (.int .i64 ((V ||| M : Nat) : Int))) (by simp; exact HF.out.lo.1)) rfl rfl rfl rfl⟩
              have := (HF.out.set hne2.out hj2).drew
              rw [← hstep.out] at this
              exact this
          · have hd := HF.out.done (by rw [← HN.out]; omega)
            have HD := Lib.hid hd
            clear hd
            go_wp2
            go_roundg (t.length - (k + 1))
            case measure => have := HG.out; omega
            case rel => exact ⟨k + 1, gr2, by omega, by go_num, HD.out, hgr⟩
      · have hk2 : k = t.length := by have := HG.out; omega
        have HK2 := Lib.hid hk2
        clear hk2
        have hok : Hid (SetsOk w.heap.size wr.heap.size wr p go t.length (entN t)) := by
          have := HAT.out
          rw [HK2.out] at this
          exact ⟨g0, gr, om0, this⟩
        go_wp2
        go_ret
        exact ⟨p, go, rfl, hok.out, hgr⟩
end Go.Proofs.YtdjhoadoiknaoaaDoor
