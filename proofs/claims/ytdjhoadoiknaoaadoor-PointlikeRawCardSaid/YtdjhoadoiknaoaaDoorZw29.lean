/- Part 29 of the proof: RRound. -/
import Derived.Test.YtdjhoadoiknaoaaDoorZw28
set_option linter.unusedVariables false
set_option linter.unusedSimpArgs false
namespace Go.Proofs.YtdjhoadoiknaoaaDoor
open Go.RowKit Go.Maps
def rrow (n : Nat) (tb : Nat → Nat → Nat) (l : List Nat) (a : Nat) : List Nat := (l.map fun b => prodSet n tb a b) ++ [omegaSet n tb a]
def allTo (n : Nat) (tb : Nat → Nat → Nat) (l : List Nat) (k j : Nat) : List Nat := l ++ (l.take k).flatMap (rrow n tb l) ++ (l.take j).map (prodSet n tb (l.getD k 0))
theorem take_succ_nat {l : List Nat} {k : Nat} (h : k < l.length) : l.take (k + 1) = l.take k ++ [l.getD k 0] := by
  rw [List.take_add_one]; simp [List.getD, h]
section
variable {n : Nat} {tb : Nat → Nat → Nat} {l : List Nat}
theorem allTo_start : allTo n tb l 0 0 = l := by simp [allTo]
theorem allTo_succ {k j : Nat} (hj : j < l.length) : allTo n tb l k (j + 1) = allTo n tb l k j ++ [prodSet n tb (l.getD k 0) (l.getD j 0)] := by
  unfold allTo
  rw [take_succ_nat hj, List.map_append]
  simp
theorem allTo_row {k : Nat} (hk : k < l.length) : allTo n tb l (k + 1) 0 = allTo n tb l k l.length ++ [omegaSet n tb (l.getD k 0)] := by
  unfold allTo
  rw [take_succ_nat hk, List.flatMap_append]
  simp [rrow]
theorem allTo_end : allTo n tb l l.length 0 = roundList n tb l := by
  unfold allTo roundList
  rw [List.take_of_length_le (Nat.le_refl _)]
  simp
  rfl
theorem rows_len (l m : List Nat) : (m.flatMap (rrow n tb l)).length = m.length * (l.length + 1) := by
  induction m with
  | nil => simp
  | cons a m ih => rw [List.flatMap_cons, List.length_append, ih, List.length_cons, Nat.succ_mul]; simp [rrow]; omega
theorem allTo_len {k j : Nat} (hl : l.length ≤ 4096) (hk : k ≤ l.length) : (allTo n tb l k j).length ≤ 17000000 := by
  unfold allTo
  rw [List.length_append, List.length_append, rows_len, List.length_map, List.length_take, List.length_take]
  have h1 : min k l.length * (l.length + 1) ≤ 4096 * 4097 := Nat.mul_le_mul (by omega) (by omega)
  omega
end
theorem MapIn.congr {w : World} {b m : Nat} {l l' : List Nat} (h : MapIn w b m l) (e : ∀ x, x ∈ l ↔ x ∈ l') : MapIn w b m l' := by
  obtain ⟨D, h1, h2, h3⟩ := h
  refine ⟨D, h1, h2, fun x hx => ?_⟩
  rw [h3 x hx]
  simp [e x]
theorem MapIn.mono {w : World} {b m m' : Nat} {l : List Nat} (h : MapIn w b m l) (hm : m ≤ m') : MapIn w b m' l := by
  obtain ⟨D, h1, h2, h3⟩ := h
  exact ⟨D, h1.mono hm, h2, h3⟩
def RefRound (w : World) (n : Nat) (tb : Nat → Nat → Nat) (l : List Nat) (e : Ending) (w' : World) : Prop :=
  ∃ (sa : Option Addr) (sc : Nat), e = .returned (.slice sa (roundSets n tb l).length sc) ∧ w'.ownsRow w.heap.size 3 1 (.slice sa (roundSets n tb l).length sc) (roundSets n tb l).length (nats (roundSets n tb l)) ∧ w.grownBy w' none
set_option maxRecDepth 100000 in
set_option maxHeartbeats 1000000 in
theorem rround_any (B : Nat) (w : World) (v sv : Value) (t : List (List Int)) (l : List Nat) (hB : B ≤ w.heap.size) (h : Mat B w v t) (hv : validE t = 0) (hn : t.length ≤ 12) (hl : Row B w sv (nats l)) (hlt : ∀ b ∈ l, b < 2 ^ t.length) (h0 : 0 < l.length) (hle : l.length ≤ 4096) :
    Calls Tryd.prog 68 #[v, sv] w (RefRound w t.length (entN t) l) := by
  have hmm := @run_makeMap Tryd.prog
  obtain ⟨n, hnn⟩ : ∃ n, n = t.length := ⟨_, rfl⟩
  obtain ⟨tb, htb⟩ : ∃ tb, tb = entN t := ⟨_, rfl⟩
  have HP : Hid (∀ (W : World) (a b : Nat), w.grownBy W none → a < 2 ^ n → b < 2 ^ n → Calls Tryd.prog 55 #[v, .int .i64 (a : Int), .int .i64 (b : Int)] W fun e w' => e = .returned (.int .i64 (prodSet n tb a b : Nat)) ∧ W = w') :=
    Lib.hid (fun W a b hg ha hb => by rw [hnn, htb]; rw [hnn] at ha hb; exact prod40_any B W v t a b (h.kept hg (by simp)) (valid_of hv).1 hn ha hb)
  have HO : Hid (∀ (W : World) (a : Nat), w.grownBy W none → a < 2 ^ n → Calls Tryd.prog 57 #[v, .int .i64 (a : Int)] W fun e w' => e = .returned (.int .i64 (omegaSet n tb a : Nat)) ∧ W = w') :=
    Lib.hid (fun W a hg ha => by rw [hnn, htb]; rw [hnn] at ha; exact omega40_any B W v t a (h.kept hg (by simp)) hv hn ha)
  have HTB : Hid (Tb n tb) := Lib.hid (by rw [hnn, htb]; exact tb_of hv)
  rw [← hnn, ← htb]
  rw [← hnn] at hlt hn
  have HL := Lib.hid hl; have HLT := Lib.hid hlt
  obtain ⟨lb, lo, lc, rfl, _, _, _, _⟩ := hl.some_ (by rw [nats_length]; exact h0)
  rw [nats_length]
  clear h hv hl hlt hnn htb
  go_enter Tryd.func68, Tryd.ntmps68
  go_wp2_with (first | (at_builtin; refine appR rfl _ _ _ rfl elem_int w.heap.size (.slice (some ⟨w.heap.size, 0, none⟩) 0 0) 0 [] rfl (owns_lit0 (heap_alloc_new w _) (Nat.le_refl _)) _ (nats l) rfl ⟨B, ?a1⟩ (nats_one _) l.length ?a2 ?a3 ?a4 ?a5 ?_) | fail)
  case a1 => have := HL.out.kept (World.grownBy_alloc w (.cells #[] 3) none) (by simp); rw [nats_length] at this; exact this
  case a2 => simp [nats]
  case a3 => unfold maxLen; omega
  case a4 => omega
  case a5 => rw [alloc_size]; omega
  intro sa w1c w1 hown1 hg1
  have HOWN1 := Lib.hid hown1
  have HG1 : Hid (w.grownBy w1 none) := Lib.hid (grown_far (World.grownBy_alloc w (.cells #[] 3) none) hg1 (fun x e => by have : w.heap.size = x := Option.some.inj e; omega))
  clear hown1 hg1
  go_wp2
  go_loopg [5, 19] l.length (fun g ov i wr => ∃ (k : Nat) (sa : Option Addr) (sc : Nat), g + k = l.length ∧ i = .int .i64 k ∧ ov = .slice sa (allTo n tb l k 0).length sc ∧ wr.ownsRow w.heap.size 3 1 (.slice sa (allTo n tb l k 0).length sc) (allTo n tb l k 0).length (nats (allTo n tb l k 0)) ∧ w.grownBy wr none)
  case atStart => exact ⟨0, sa, w1c, rfl, rfl, by rw [allTo_start], by rw [allTo_start]; exact HOWN1.out, HG1.out⟩
  case round =>
    clear HOWN1 HG1
    obtain ⟨k, sa, sc, hg, rfl, rfl, hown, hgr⟩ := hrel
    have HG := Lib.hid hg; have HOWN := Lib.hid hown; have HGR := Lib.hid hgr
    clear hg hown
    by_cases hk : k < l.length
    · have hk' : (k : Int) < l.length := by omega
      obtain ⟨lb', lo', lc', e, _, _, _, hra⟩ := (HL.out.kept hgr (by simp)).some_ (by rw [nats_length]; omega)
      simp only [Value.slice.injEq, Option.some.injEq, Addr.mk.injEq, and_true] at e
      obtain ⟨⟨rfl, rfl⟩, -, -⟩ := e
      have ck := hra.nat k hk
      obtain ⟨a, ha⟩ : ∃ a, a = l.getD k 0 := ⟨_, rfl⟩
      have haN : Hid (a < 2 ^ n) := Lib.hid (by rw [ha]; exact getD_lt HLT.out hk)
      rw [← ha] at ck
      have HA := Lib.hid ha
      clear hra ha hgr
      go_wp2
      go_loopg [5, 25] l.length (fun g ov i wr => ∃ (j : Nat) (sa : Option Addr) (sc : Nat), g + j = l.length ∧ i = .int .i64 j ∧ ov = .slice sa (allTo n tb l k j).length sc ∧ wr.ownsRow w.heap.size 3 1 (.slice sa (allTo n tb l k j).length sc) (allTo n tb l k j).length (nats (allTo n tb l k j)) ∧ w.grownBy wr none)
      case atStart => exact ⟨0, sa, sc, rfl, rfl, rfl, HOWN.out, HGR.out⟩
      case round =>
        clear HOWN HGR ck
        obtain ⟨j, sa, sc, hg, rfl, rfl, hown, hgr⟩ := hrel
        have HGJ := Lib.hid hg; have HOWN := Lib.hid hown; have HGR := Lib.hid hgr
        have hln := allTo_len (n := n) (tb := tb) (k := k) (j := j) hle (Nat.le_of_lt hk)
        clear hg hown
        by_cases hj : j < l.length
        · have hj' : (j : Int) < l.length := by omega
          obtain ⟨lb', lo', lc', e, _, _, _, hra⟩ := (HL.out.kept hgr (by simp)).some_ (by rw [nats_length]; omega)
          simp only [Value.slice.injEq, Option.some.injEq, Addr.mk.injEq, and_true] at e
          obtain ⟨⟨rfl, rfl⟩, -, -⟩ := e
          have cj := hra.nat j hj
          obtain ⟨b, hb⟩ : ∃ b, b = l.getD j 0 := ⟨_, rfl⟩
          have hbN : Hid (b < 2 ^ n) := Lib.hid (by rw [hb]; exact getD_lt HLT.out hj)
          rw [← hb] at cj
          have hst : Hid (allTo n tb l k (j + 1) = allTo n tb l k j ++ [prodSet n tb a b]) := Lib.hid (by rw [allTo_succ hj, ← HA.out, ← hb])
          have hgs := hgr.size
          clear hra hb hgr
          obtain ⟨A, hA⟩ : ∃ A, A = allTo n tb l k j := ⟨_, rfl⟩
          rw [← hA] at HOWN hst hln ⊢
          clear hA
          go_wp2_with fail
          refine (HP.out wr a b HGR.out haN.out hbN.out).mono ?_
          rintro e w2 ⟨rfl, rfl⟩
          obtain ⟨X, hX⟩ : ∃ X, X = prodSet n tb a b := ⟨_, rfl⟩
          rw [← hX] at hst ⊢
          clear hX
          go_wp2_with (first | (at_builtin; refine app1 rfl _ _ _ rfl elem_int w.heap.size _ A.length (nats A) rfl HOWN.out _ rfl rfl ?c1 ?c2 ?c3 ?_) | fail)
          case c1 => unfold maxLen; omega
          case c2 => omega
          case c3 => exact hgs
          intro sa' sc' w3 hown3 hg3 hlt3
          have HO3 := Lib.hid hown3; have HG3 := Lib.hid hg3
          clear hown3 hg3
          go_wp2
          go_roundg (l.length - (j + 1))
          case measure => have := HGJ.out; omega
          case rel =>
            refine ⟨j + 1, sa', sc', by omega, by go_num, by rw [hst.out]; simp, ?_, grown_far HGR.out HG3.out (fun q e => (HOWN.out.lt q e).1)⟩
            rw [hst.out, nats_snoc, List.length_append]
            exact HO3.out
        · have hjl : j = l.length := by have := HGJ.out; omega
          have hst : Hid (allTo n tb l (k + 1) 0 = allTo n tb l k j ++ [omegaSet n tb a]) := Lib.hid (by rw [allTo_row hk, ← HA.out, hjl])
          have hgs := hgr.size
          clear hjl hgr
          obtain ⟨A, hA⟩ : ∃ A, A = allTo n tb l k j := ⟨_, rfl⟩
          rw [← hA] at HOWN hst hln ⊢
          clear hA
          go_wp2_with fail
          refine (HO.out wr a HGR.out haN.out).mono ?_
          rintro e w2 ⟨rfl, rfl⟩
          obtain ⟨X, hX⟩ : ∃ X, X = omegaSet n tb a := ⟨_, rfl⟩
          rw [← hX] at hst ⊢
          clear hX
          go_wp2_with (first | (at_builtin; refine app1 rfl _ _ _ rfl elem_int w.heap.size _ A.length (nats A) rfl HOWN.out _ rfl rfl ?c1 ?c2 ?c3 ?_) | fail)
          case c1 => unfold maxLen; omega
          case c2 => omega
          case c3 => exact hgs
          intro sa' sc' w3 hown3 hg3 hlt3
          have HO3 := Lib.hid hown3; have HG3 := Lib.hid hg3
          clear hown3 hg3
          go_wp2
          go_roundg (l.length - (k + 1))
          case measure => have := HG.out; omega
          case rel =>
            refine ⟨k + 1, sa', sc', by omega, by go_num, by rw [hst.out]; simp, ?_, grown_far HGR.out HG3.out (fun q e => (HOWN.out.lt q e).1)⟩
            rw [hst.out, nats_snoc, List.length_append]
            exact HO3.out
    · obtain ⟨wo, rfl⟩ : ∃ wo : World, wo = wr := ⟨_, rfl⟩
      have hkl : k = l.length := by have := HG.out; omega
      have hA : Hid (allTo n tb l k 0 = roundList n tb l) := Lib.hid (by rw [hkl]; exact allTo_end)
      have hln := allTo_len (n := n) (tb := tb) (k := k) (j := 0) hle (by omega)
      clear hkl
      rw [hA.out] at HOWN hln ⊢
      have HRL := Lib.hid (roundList_lt HTB.out HLT.out)
      have hrp : 0 < (roundList n tb l).length := by unfold roundList; rw [List.length_append]; omega
      obtain ⟨A, hAA⟩ : ∃ A, A = roundList n tb l := ⟨_, rfl⟩
      have HAA := Lib.hid hAA
      rw [← hAA] at HOWN hln HRL hrp ⊢
      have hgs := hgr.size
      have hp4 := pow_le hn
      obtain ⟨kb, rfl, hac1, hac2, harr⟩ := owns_some HOWN.out hrp
      have HRA := Lib.hid harr.row
      clear hAA hA hgr harr
      go_wp2
      have HM0 := Lib.hid (MapIn.made wo)
      have HGM := Lib.hid (World.grownBy_alloc wo (.map #[] 0) none)
      go_loopg [11, 47] A.length (fun gh ov i wr => ∃ (m : Nat) (sa2 : Option Addr) (sc2 : Nat) (lst : List Nat), gh + m = A.length ∧ i = .int .i64 m ∧ ov = .slice sa2 lst.length sc2 ∧ wr.ownsRow (wo.heap.size + 1) 3 1 (.slice sa2 lst.length sc2) lst.length (nats lst) ∧ MapIn wr wo.heap.size m lst ∧ Hid (∀ x, x ∈ lst ↔ x ∈ A.take m) ∧ lst.length ≤ m ∧ wo.grownBy wr none ∧ wo.heap.size + 1 ≤ wr.heap.size)
      case atStart => exact ⟨0, none, 0, [], rfl, rfl, rfl, World.ownsRow_nil _ _ _ _, HM0.out, Lib.hid (by simp), Nat.le_refl _, HGM.out, by rw [alloc_size]; omega⟩
      case round =>
        clear HM0 HGM
        obtain ⟨m, sa2, sc2, lst, hg, rfl, rfl, hown, hmi, hmem, hlm, hgr, hzt⟩ := hrel
        have HG2 := Lib.hid hg; have HOW2 := Lib.hid hown; have HMI := Lib.hid hmi; have HGR2 := Lib.hid hgr
        clear hg hown hmi
        by_cases hm : m < A.length
        · have hm' : (m : Int) < A.length := by omega
          have ck := (HRA.out.kept hgr (by simp)).nat m hm
          rw [Nat.zero_add] at ck
          obtain ⟨x, hx⟩ : ∃ x, x = A.getD m 0 := ⟨_, rfl⟩
          have hxN : x < 2 ^ n := by rw [hx]; exact getD_lt HRL.out hm
          have hx62 : x < 4611686018427387904 := by omega
          have hst : Hid (A.take (m + 1) = A.take m ++ [x]) := Lib.hid (by rw [take_succ_nat hm, ← hx])
          rw [← hx] at ck
          have hlk := HMI.out.lookup hx62
          clear hx hgr hxN
          by_cases hin : x ∈ lst
          · rw [decide_eq_true hin] at hlk
            have hmem' : Hid (∀ y, y ∈ lst ↔ y ∈ A.take (m + 1)) := Lib.hid (fun y => by
              rw [hst.out, List.mem_append, List.mem_singleton, ← hmem.out y]
              exact ⟨.inl, fun h => by rcases h with h | rfl <;> assumption⟩)
            clear hin hmem
            go_wp2
            go_roundg (A.length - (m + 1))
            case measure => have := HG2.out; omega
            case rel => exact ⟨m + 1, sa2, sc2, lst, by omega, by go_num, rfl, HOW2.out, HMI.out.mono (by omega), hmem', by omega, HGR2.out, hzt⟩
          · rw [decide_eq_false hin] at hlk
            have hmem' : Hid (∀ y, y ∈ lst ++ [x] ↔ y ∈ A.take (m + 1)) := Lib.hid (fun y => by
              rw [hst.out, List.mem_append, List.mem_append, ← hmem.out y])
            clear hin hmem
            go_wp2_with (first | (at_mapUpdate; refine step_in rfl _ _ _ rfl wo.heap.size m lst x rfl rfl rfl HMI.out (by unfold maxLen; omega) hx62 ?_; intro w5 hmi5 hg5; (have hzg5 := hg5.size); (have hown5 := ownsRow_kept HOW2.out hg5 (fun q e => by have : wo.heap.size = q := Option.some.inj e; omega))) | (at_builtin; refine app1 rfl _ _ _ rfl elem_int (wo.heap.size + 1) _ lst.length (nats lst) rfl hown5 _ rfl rfl ?d1 ?d2 ?d3 ?_) | fail)
            case d1 => unfold maxLen; omega
            case d2 => omega
            case d3 => omega
            intro sa6 sc6 w6 hown6 hg6 hlt6
            have HO6 := Lib.hid hown6
            have HM6 : Hid (MapIn w6 wo.heap.size (m + 1) (lst ++ [x])) := Lib.hid ((hmi5.kept hg6 (fun e => by have := (hown5.lt _ e).1; omega)).congr (fun y => by simp; exact or_comm))
            have HG6 : Hid (wo.grownBy w6 none) := Lib.hid (grown_far (grown_far HGR2.out hg5 (fun q e => by have : wo.heap.size = q := Option.some.inj e; omega)) hg6 (fun q e => by have := (hown5.lt q e).1; omega))
            clear hown6 hg6 hmi5 hg5 hown5 hlk
            go_wp2
            go_roundg (A.length - (m + 1))
            case measure => have := HG2.out; omega
            case rel =>
              refine ⟨m + 1, sa6, sc6, lst ++ [x], by omega, by go_num, by simp, ?_, HM6.out, hmem', by simp; omega, HG6.out, by omega⟩
              rw [nats_snoc, List.length_append]
              exact HO6.out
        · have hml : m = A.length := by have := HG2.out; omega
          have hmm' : Hid (∀ y, y ∈ lst ↔ y ∈ A) := Lib.hid (fun y => by have := hmem.out y; rw [hml, List.take_of_length_le (Nat.le_refl _)] at this; exact this)
          have hR : Hid (maxOf n lst = roundSets n tb l) := Lib.hid (by unfold roundSets; rw [← HAA.out]; exact maxOf_congr hmm'.out)
          have HX := Lib.hid (maxref_any wr.heap.size wr _ lst n hn (Nat.le_refl _) (Row.of_owns HOW2.out) (fun b hb => HRL.out b ((hmm'.out b).1 hb)))
          clear hml hmem
          go_wp2_with fail
          refine HX.out.mono ?_
          rintro e w7 ⟨sa7, sc7, rfl, hown7, hg7⟩
          have hgf := grown_far (grown_far HGR.out HGR2.out (by simp)) hg7 (by simp)
          have hz7 := HGR2.out.size
          rw [hR.out] at hown7 ⊢
          have HO7 := Lib.hid hown7; have HGF := Lib.hid hgf
          obtain ⟨RS, hRS⟩ : ∃ RS, RS = roundSets n tb l := ⟨_, rfl⟩
          have HRS := Lib.hid hRS
          rw [← hRS] at HO7 ⊢
          clear hown7 hg7 hgf hRS
          go_wp2
          go_ret
          exact ⟨sa7, sc7, by rw [← HRS.out]; rfl, by rw [← HRS.out]; exact ownsRow_base HO7.out (by omega), HGF.out⟩
end Go.Proofs.YtdjhoadoiknaoaaDoor
