/- The law PatternWeaker: the walk. -/
import Derived.Test.YtgbfaggnnfoamaaKnown
import Derived.Test.YtgbfaggnnfoamaaWeakPlain
import Derived.Deep.RegionHeld3
import Derived.Deep.RegionLaw
import Derived.Deep.DeepCutAuto
import Derived.Deep.DrawnRows
namespace Go.Proofs.Ytgbfaggnnfoamaa
open Go.RowKit
attribute [local go_sem ↓] Go.wp_at_zero Go.wp_at_succ

/-- 'append(v, x...)' of the one-cell values of a row, as one step of a region that draws. -/
theorem step_appN {P : Program} {ops : Array Oper} {o : Oper} {a : Act} {w : World} {K : Act → World → Prop} {Q : Exit → Act → World → Prop} {R : Prop} (hgd : o.guard = none) (s x : Operand) (t : TypeId)
    (ho : o.op = .call { callee := .builtin .append, args := #[s, x], argTypes := #[t, t] })
    {e : TypeId} {z : Value} {bytes : Nat} (E : ElemOk P t e z bytes) (base : Nat) (v : Value) (n : Nat) (xs : List Value) (hs : a.eval s = v) (hown : w.ownsRow base e 1 v n xs)
    (b off m c : Nat) (news : List Value) (hx : a.eval x = .slice (some ⟨b, off, none⟩) m c) (hl : news.length = m) (hra : RowAt w b off news) (h1 : ∀ u ∈ news, u.oneCell' = true) (h63 : n + m ≤ maxLen) (hbytes : (n + m) * bytes ≤ 140737488355328) (hbase : base ≤ w.heap.size) (N : Nat) (hN : n + m = N)
    (h : ∀ sa sc w', w'.ownsRow base e 1 (.slice sa N sc) N (xs ++ news) → w.grownBy w' v.ownBlock → K (a.put o.dst (.slice sa N sc)) w') :
    if Region.wanted o (yielded ops a.tmps) = true then Oper.wp P o a w K Q else R := by
  have hw : Region.wanted o (yielded ops a.tmps) = true := by simp [Region.wanted, hgd]
  rw [if_pos hw]
  obtain ⟨i, hi, hz, hsz, hby⟩ := info_parts E.hi
  refine wp_append_own w s x t ho base e i z 1 bytes E.ht hi hz hsz hby E.hz (by decide) v n xs hs hown ⟨b, off, none⟩ m c news hx (by rw [hl, Nat.mul_one]) ?_ h1 h63 hbytes hbase ?_
  · intro j u' hj
    have hjl : j < news.length := by
      rcases Nat.lt_or_ge j news.length with h | h
      · exact h
      · rw [List.getElem?_eq_none h] at hj; cases hj
    have hadd : (⟨b, off, none⟩ : Addr).add j = ⟨b, off + j, none⟩ := by unfold Addr.add; split <;> simp_all
    rw [List.getElem?_eq_getElem hjl] at hj
    rw [hadd, hra.2 j hjl, hj]
  · intro v' w' h1 h2 _
    obtain ⟨sa, sc, rfl⟩ := owns_shape h1
    subst hN
    exact h sa sc w' h1 h2
theorem owns_lit0 {W : World} {e base g : Nat} (h : W.heap[g]? = some (.cells #[] e (0, 0))) (hb : base ≤ g) : W.ownsRow base e 1 (.slice (some ⟨g, 0, none⟩) 0 0) 0 [] :=
  ⟨by simp, .inr ⟨g, 0, #[], rfl, hb, h, Nat.le_refl _, Nat.zero_le _, by simp, by simp⟩⟩
theorem box_cell {W : World} {g e : Nat} {v : Value} {m : Nat × Nat} (h : W.heap[g]? = some (.cells #[v] e m)) : W.cell? ⟨g, 0, none⟩ = some v := by
  simpa using cell_block h 0 (by simp)
theorem other_kept {W : World} {g o g' : Nat} {u v : Value} (h : W.cell? ⟨g, o, none⟩ = some v) (hne : g < g') : (W.setCell ⟨g', 0, none⟩ u).cell? ⟨g, o, none⟩ = some v :=
  (World.cell?_setCell_other W _ _ _ (fun e => by injection e; omega)).trans h
theorem heap_drew {W : World} {g : Nat} {o : Obj} (h : W.heap[g]? = some o) : W.drew.heap[g]? = some o := h
theorem first_kept (w : World) (o o' : Obj) : ((w.alloc o).alloc o').heap[w.heap.size]? = some o := block_kept (heap_alloc_new w o) (World.grownBy_alloc _ _ none) (by simp)
theorem new_second (w : World) (o o' : Obj) : ((w.alloc o).alloc o').heap[w.heap.size + 1]? = some o' := by
  have := heap_alloc_new (w.alloc o) o'
  rwa [alloc_size] at this
theorem RowAt.take {w : World} {b off : Nat} {xs : List Value} (h : RowAt w b off xs) (k : Nat) : RowAt w b off (xs.take k) :=
  ⟨h.1, fun i hi => by rw [List.length_take] at hi; rw [h.2 i (by omega), List.getElem_take]⟩
theorem RowAt.drop {w : World} {b off : Nat} {xs : List Value} (h : RowAt w b off xs) (k : Nat) : RowAt w b (off + k) (xs.drop k) :=
  ⟨h.1, fun i hi => by rw [List.length_drop] at hi; rw [Nat.add_assoc, h.2 (k + i) (by omega), List.getElem_drop]⟩

def Weak (w6 : World) (k : Nat) (bs : List (List Int)) (s12 : Value) (wx : World) : Prop :=
  ∃ (g n : Nat) (sb : Option Addr) (sd : Nat), n = (strs (without bs (1 + k))).length ∧ s12 = .pointer (some ⟨g, 0, none⟩) ∧ wx.heap[g]? = some (.cells #[.slice sb n sd] 36 (0, 0)) ∧ Row wx.heap.size wx (.slice sb n sd) (strs (without bs (1 + k))) ∧ w6.grownBy wx none
theorem weak_fin {w6 W : World} {k g n : Nat} {bs : List (List Int)} {sb : Option Addr} {sd : Nat} (hb : W.heap[g]? = some (.cells #[.slice none 0 0] 36 (0, 0))) (hw : w6.grownBy W none) (hg : w6.heap.size ≤ g)
    (hown : W.ownsRow w6.heap.size 9 1 (.slice sb n sd) n (strs (bs.take (1 + k)) ++ strs (bs.drop (1 + k + 1)))) : Weak w6 k bs (.pointer (some ⟨g, 0, none⟩)) (W.setCell ⟨g, 0, none⟩ (.slice sb n sd)) := by
  have e : strs (without bs (1 + k)) = strs (bs.take (1 + k)) ++ strs (bs.drop (1 + k + 1)) := by simp [strs, without]
  have hk := grownBy_setCell W ⟨g, 0, none⟩ (.slice sb n sd)
  have ho := hown.kept hk (.inr (owns_ne hown hb (by decide)))
  refine ⟨g, n, sb, sd, ?_, rfl, heap_setCell_same W g 0 _ _ _ hb, ?_, grown_far hw hk (fun x h => by simp at h; omega)⟩
  · rw [e]; have := ho.1; omega
  · rw [e]; exact Row.of_owns ho

theorem weak_new {w6 W : World} {k n : Nat} {bs : List (List Int)} {sb : Option Addr} {sd : Nat} (hw : w6.grownBy W none)
    (hown : W.ownsRow w6.heap.size 9 1 (.slice sb n sd) n (strs (bs.take (1 + k)) ++ strs (bs.drop (1 + k + 1)))) : Weak w6 k bs (.pointer (some ⟨W.heap.size, 0, none⟩)) (W.alloc (.cells #[.slice sb n sd] 36)) := by
  have e : strs (without bs (1 + k)) = strs (bs.take (1 + k)) ++ strs (bs.drop (1 + k + 1)) := by simp [strs, without]
  refine ⟨W.heap.size, n, sb, sd, ?_, rfl, heap_alloc_new W _, ?_, grown_alloc hw _⟩
  · rw [e]; have := hown.1; omega
  · rw [e]; exact Row.of_owns (hown.alloc _)

set_option maxRecDepth 100000 in
set_option maxHeartbeats 1000000 in
theorem weaker_walk (w : World) (v0 v1 : Value) (at_ : Int) (z0 z1 : List Int) (h0 : Row w.heap.size w v0 (z0.map (Value.int .i64))) (h1 : Row w.heap.size w v1 (z1.map (Value.int .i64))) (hL : SomeLen w) :
    Calls Try.prog 5 #[v0, v1, .int .i64 at_] w fun e w' => e = .returned (.bool true) ∧ w.grownBy w' none := by
  go_enter Try.func5, Try.ntmps5
  go_wp2_with fail
  refine (new_any w.heap.size w v0 z0 h0 (Nat.le_refl _)).mono ?_
  rintro e w1 ⟨rfl, hT1, hg1⟩
  have hs1 := hT1.lt
  go_wp2_with fail
  refine (next_any w.heap.size w.heap.size w1 2 (by omega) hT1).mono ?_
  rintro e w2 ⟨r, rfl, hr0, hr3, hT2, hg2⟩
  replace hr3 := hr3 (by omega)
  have gw2 : w.grownBy w2 none := grown_far hg1 hg2 (by simp)
  go_wp2_with fail
  refine (pattern_any w.heap.size w.heap.size w2 (1 + r) (by omega) (by omega) hT2).mono ?_
  rintro e w3 ⟨pv, bs, rfl, hrow, hgood, hT3, hg3⟩
  have gw3 : w.grownBy w3 none := grown_far gw2 hg3 (by simp)
  obtain ⟨b, off, cap, rfl, hc1, hc2, hra⟩ := hrow.found (by have := hgood.2.1; simp [strs]; exact List.length_pos_iff.2 this)
  rw [strs_length] at *
  clear hT1 hg1 hT2 hg2 hT3 hg3
  go_wp2_with fail
  have gA : w3.grownBy (w3.alloc (.cells #[.slice (some ⟨b, off, none⟩) bs.length cap] 36)) none := World.grownBy_alloc _ _ _
  have hs3 := gw3.size
  refine (new_any w.heap.size _ v1 z1 ((h1.kept gw3 (by simp)).kept gA (by simp)) (by rw [alloc_size]; omega)).mono ?_
  rintro e w4 ⟨rfl, hT4, hg4⟩
  rw [alloc_size] at hT4 ⊢
  have hs4 := hT4.lt
  have bp := block_kept (heap_alloc_new w3 (.cells #[.slice (some ⟨b, off, none⟩) bs.length cap] 36)) hg4 (by simp)
  have ra4 := (hra.kept gA (by simp)).kept hg4 (by simp)
  have gw4 : w.grownBy w4 none := grownBy_trans' (grownBy_trans' gw3 gA) hg4
  have hbs4 : bs.length ≤ 4 := hgood.1
  have hb3 : b < w3.heap.size := hra.1
  have hcm' : cap ≤ 9223372036854775807 := by unfold maxLen at hc2; omega
  have HC2 := Lib.hid hc2
  have HG := Lib.hid hgood
  clear hra gA hg4 hc2 h0 h1 hgood
  go_wp2_with fail
  refine (word_any w.heap.size (w3.heap.size + 1) w4 (1 + r) 12 (by omega) (by omega) (by omega) (by omega) hT4).mono ?_
  rintro e w5 ⟨l, rfl, hl, hok, hT5, hg5⟩
  have bp5 := block_kept bp hg5 (by simp)
  have ra5 := ra4.kept hg5 (by simp; omega)
  have gw5 := grown_far gw4 hg5 (by simp; omega)
  have hs5 := hg5.size
  have hcp := cell_block bp5 0 (by simp)
  simp only [List.getElem_toArray, List.getElem_cons_zero] at hcp
  have BP5 := Lib.hid bp5
  have hlt35 : w3.heap.size < w5.heap.size := by omega
  have hL5 := hL.kept gw5 (by simp)
  have HL := Lib.hid hL5
  have em : strs bs = (bs.map strOfNums).map Value.string := by simp [strs]
  have hsz1 : ∀ i (h : i < (bs.map strOfNums).length), (bs.map strOfNums)[i].size ≤ 140737488351232 := by
    intro i h
    rw [List.length_map] at h
    have := (HG.out.2.2 i h).1
    rw [List.getElem_map, strOfNums_size]; omega
  have RA5 := Lib.hid ra5
  obtain ⟨m, hm⟩ : ∃ m, m = patMatch (bs.map strOfNums) (strOfNums l) := ⟨_, rfl⟩
  have HM := Lib.hid hm
  have HM1 : Hid (Calls Try.prog 19 #[.agg #[.slice (some ⟨b, off, none⟩) bs.length cap], .string (strOfNums l)] w5 fun e w' => e = .returned (.bool m) ∧ w5.grownBy w' none) := by
    have ra := RA5.out
    rw [em] at ra
    have := match_any b off cap (bs.map strOfNums) (strOfNums l) w5 (by rw [List.length_map]; exact hc1) HC2.out ra hsz1 (by rw [strOfNums_size]; omega) HL.out
    rw [List.length_map, ← HM.out] at this
    exact this
  clear bp ra4 gw4 hg5 hT4 hT5 bp5 hm em ra5 hL5 hsz1
  by_cases h3 : bs.length < 3
  · go_wp2_with fail
    refine (known_any w5 HL.out).mono ?_
    rintro e w6 ⟨rfl, hg6⟩
    go_wp2
    go_ret
    exact ⟨rfl, grownBy_trans' gw5 hg6⟩
  go_wp2_with fail
  refine HM1.out.mono ?_
  rintro e w6 ⟨rfl, hg6⟩
  have gw6 := grownBy_trans' gw5 hg6
  have L6 := HL.out.kept hg6 (by simp)
  have bp6 := block_kept BP5.out hg6 (by simp)
  have ra6 := RA5.out.kept hg6 (by simp)
  have hcp6 := cell_block bp6 0 (by simp)
  simp only [List.getElem_toArray, List.getElem_cons_zero] at hcp6
  have BP6 := Lib.hid bp6
  clear hg6 bp6
  cases m
  · go_wp2_with fail
    refine (known_any w6 L6).mono ?_
    rintro e w7 ⟨rfl, hg7⟩
    go_wp2
    go_ret
    exact ⟨rfl, grownBy_trans' gw6 hg7⟩
  go_wp2_with fail
  refine (mod_any _ _ _ (by omega)).mono ?_
  rintro e w7 ⟨rfl, rfl⟩
  have hk0 := modI_nonneg at_ ((bs.length : Int) - 2)
  have hk1 := modI_lt at_ ((bs.length : Int) - 2) (by omega)
  obtain ⟨k, hk⟩ : ∃ k : Nat, (k : Int) = modI at_ ((bs.length : Int) - 2) := ⟨(modI at_ ((bs.length : Int) - 2)).toNat, by omega⟩
  rw [← hk] at hk0 hk1 ⊢
  clear hk
  have hkn : k + 2 < bs.length := by omega
  have ew1 : IntKind.i64.wrap (1 + (k : Int) + 1) = 1 + (k : Int) + 1 := IntWalk.i64_in _ (by omega)
  have et1 : (1 + (k : Int)).toNat = 1 + k := by omega
  have et2 : (1 + (k : Int) + 1).toNat = 1 + k + 1 := by omega
  have eb1 : 0 ≤ 1 + (k : Int) := by omega
  have eb2 : 1 + (k : Int) ≤ cap := by omega
  have eb3 : 0 ≤ 1 + (k : Int) + 1 := by omega
  have eb4 : 1 + (k : Int) + 1 ≤ bs.length := by omega
  have hcne : ¬ cap = 1 + k + 1 := by omega
  have RA6 := Lib.hid ra6
  have hlt36 : w3.heap.size < w6.heap.size := lt_of_block BP6.out
  have HCP : Hid (∀ W, w6.grownBy W none → W.cell? ⟨w3.heap.size, 0, none⟩ = some (.slice (some ⟨b, off, none⟩) bs.length cap)) := by
    intro W hW
    have q := cell_block (block_kept BP6.out hW (by simp)) 0 (by simp)
    simpa using q
  have HA1 : Hid (∀ W, w6.grownBy W none → RowAt W b off (strs (bs.take (1 + k)))) := by
    intro W hW
    have := (RA6.out.kept hW (by simp)).take (1 + k)
    simpa [strs, List.map_take] using this
  have HA2 : Hid (∀ W, w6.grownBy W none → RowAt W b (off + (1 + k + 1)) (strs (bs.drop (1 + k + 1)))) := by
    intro W hW
    have := (RA6.out.kept hW (by simp)).drop (1 + k + 1)
    simpa [strs, List.map_drop] using this
  have HO : Hid (∀ l' : List (List Int), ∀ u ∈ strs l', u.oneCell' = true) := by
    intro l' u hu
    simp only [strs, List.mem_map] at hu
    obtain ⟨x, _, rfl⟩ := hu
    rfl
  clear ra6
  go_upto_region 8 with fail
  go_cut [12] (fun s12 wx => Weak w6 k bs s12 wx)
  case first =>
    go_region_held3 (fun w' => w'.cell? ⟨w3.heap.size, 0, none⟩ = some (.slice (some ⟨b, off, none⟩) bs.length cap))
      (first | go_keep | exact HCP.out _ hG7 | exact HCP.out _ hG8 | exact other_kept hcp8 (by omega) | fail)
      (first | (refine step_appN ?g1 (.tmp 43) (.tmp 47) 34 ?g2 elem_str w6.heap.size (.slice (some ⟨w6.heap.size, 0, none⟩) 0 0) 0 [] ?g3 ?g4 b off (1 + k) cap (strs (bs.take (1 + k))) ?g5 ?g6 ?g7 ?g8 ?g9 ?g10 ?g11 (1 + k) ?g12 ?_; (case g1 => rfl); (case g2 => rfl); (case g3 => rfl); (case g4 => first | exact owns_lit0 (heap_alloc_new w6 _) (Nat.le_refl _) | exact owns_lit0 (first_kept w6 _ _) (Nat.le_refl _) | exact owns_lit0 (new_second w6 _ _) (Nat.le_succ _)); (case g5 => rfl); (case g6 => (simp [strs]; omega)); (case g7 => first | exact HA1.out _ (grownBy_same (World.grownBy_alloc w6 _ none) rfl rfl rfl rfl) | exact HA1.out _ (grownBy_same (grown_alloc (World.grownBy_alloc w6 _ none) _) rfl rfl rfl rfl)); (case g8 => exact HO.out _); (case g9 => (unfold maxLen; omega)); (case g10 => omega); (case g11 => (simp <;> omega)); (case g12 => omega); intro sa sc w7 hown7 hg7; rw [List.nil_append] at hown7; (have hG7 : w6.grownBy w7 none := by refine grown_far ?_ hg7 (by simp [Value.ownBlock]); first | exact grownBy_same (World.grownBy_alloc w6 _ none) rfl rfl rfl rfl | exact grownBy_same (grown_alloc (World.grownBy_alloc w6 _ none) _) rfl rfl rfl rfl); have hcp7 := HCP.out _ hG7; have hlt37 : w3.heap.size < w7.heap.size := Nat.lt_of_lt_of_le hlt36 hG7.size; (try have hbx7 := block_kept (heap_drew (first_kept w6 (.cells #[.slice none 0 0] 36) _)) hg7 (by simp [Value.ownBlock])); (try have hbx7 := block_kept (heap_drew (new_second w6 _ (.cells #[.slice none 0 0] 36))) hg7 (by simp [Value.ownBlock]))) | (refine step_appN ?g1 (.tmp 43) (.tmp 47) 34 ?g2 elem_str w6.heap.size (.slice (some ⟨w6.heap.size + 1, 0, none⟩) 0 0) 0 [] ?g3 ?g4 b off (1 + k) cap (strs (bs.take (1 + k))) ?g5 ?g6 ?g7 ?g8 ?g9 ?g10 ?g11 (1 + k) ?g12 ?_; (case g1 => rfl); (case g2 => rfl); (case g3 => rfl); (case g4 => first | exact owns_lit0 (heap_alloc_new w6 _) (Nat.le_refl _) | exact owns_lit0 (first_kept w6 _ _) (Nat.le_refl _) | exact owns_lit0 (new_second w6 _ _) (Nat.le_succ _)); (case g5 => rfl); (case g6 => (simp [strs]; omega)); (case g7 => first | exact HA1.out _ (grownBy_same (World.grownBy_alloc w6 _ none) rfl rfl rfl rfl) | exact HA1.out _ (grownBy_same (grown_alloc (World.grownBy_alloc w6 _ none) _) rfl rfl rfl rfl)); (case g8 => exact HO.out _); (case g9 => (unfold maxLen; omega)); (case g10 => omega); (case g11 => (simp <;> omega)); (case g12 => omega); intro sa sc w7 hown7 hg7; rw [List.nil_append] at hown7; (have hG7 : w6.grownBy w7 none := by refine grown_far ?_ hg7 (by simp [Value.ownBlock]); first | exact grownBy_same (World.grownBy_alloc w6 _ none) rfl rfl rfl rfl | exact grownBy_same (grown_alloc (World.grownBy_alloc w6 _ none) _) rfl rfl rfl rfl); have hcp7 := HCP.out _ hG7; have hlt37 : w3.heap.size < w7.heap.size := Nat.lt_of_lt_of_le hlt36 hG7.size; (try have hbx7 := block_kept (heap_drew (first_kept w6 (.cells #[.slice none 0 0] 36) _)) hg7 (by simp [Value.ownBlock])); (try have hbx7 := block_kept (heap_drew (new_second w6 _ (.cells #[.slice none 0 0] 36))) hg7 (by simp [Value.ownBlock]))) | (refine step_appN ?g1 (.tmp 48) (.tmp 53) 34 ?g2 elem_str w6.heap.size (.slice sa (1 + k) sc) (1 + k) (strs (bs.take (1 + k))) ?g3 ?g4 b (off + (1 + k + 1)) (bs.length - (1 + k + 1)) (cap - (1 + k + 1)) (strs (bs.drop (1 + k + 1))) ?g5 ?g6 ?g7 ?g8 ?g9 ?g10 ?g11 (bs.length - 1) ?g12 ?_; (case g1 => rfl); (case g2 => rfl); (case g3 => rfl); (case g4 => first | exact hown7 | exact hown7.alloc _); (case g5 => rfl); (case g6 => (simp [strs])); (case g7 => first | exact HA2.out _ hG7 | exact HA2.out _ (grown_alloc hG7 _)); (case g8 => exact HO.out _); (case g9 => (unfold maxLen; omega)); (case g10 => omega); (case g11 => (have := hG7.size; simp <;> omega)); (case g12 => omega); intro sb sd w8 hown8 hg8; (have hG8 : w6.grownBy w8 none := grown_far (by first | exact hG7 | exact grown_alloc hG7 _) hg8 (fun x e => by have := (hown7.lt x e).1; omega)); have hcp8 := HCP.out _ hG8; (try have hbx8 := block_kept hbx7 hg8 (owns_ne hown7 hbx7 (by decide))); (try have hbx8 := block_kept (heap_alloc_new w7 (.cells #[.slice none 0 0] 36)) hg8 (fun e => by have := (hown7.lt _ e).2; omega)); (try have hbc8 := box_cell hbx8); (try have hbf8 := frozen_block hbx8 0)) | fail)
    all_goals (go_wp2_with fail; go_meet; first | exact weak_fin hbx8 hG8 (by first | omega | (have := hG7.size; omega)) hown8 | exact weak_new hG8 hown8)
  case rest =>
    obtain ⟨g, n, sb, sd, hn, rfl, hbx, hrow, hgx⟩ := hcut
    have hm2 := weaker_plain (by omega) HG.out hok (by omega) (show 0 < 1 + k by omega) (by omega) HM.out.symm
    have hln : n = bs.length - 1 := by rw [hn, strs_length]; simp [without]; omega
    have hL9 := L6.kept hgx (by simp)
    have gwx := grownBy_trans' gw6 hgx
    have hcx := box_cell hbx
    obtain ⟨bq, oq, cq, hvq, hcq1, hcq2, hrq⟩ := hrow.found (by omega)
    simp only [Value.slice.injEq] at hvq
    obtain ⟨rfl, -, rfl⟩ := hvq
    have em2 : strs (without bs (1 + k)) = ((without bs (1 + k)).map strOfNums).map Value.string := by simp [strs]
    have hl2 : ((without bs (1 + k)).map strOfNums).length = n := by rw [hn]; simp [strs]
    have hg2 := goodBlocks_without (1 + k) (by omega) (by omega) HG.out
    have hsz2 : ∀ i (h : i < ((without bs (1 + k)).map strOfNums).length), ((without bs (1 + k)).map strOfNums)[i].size ≤ 140737488351232 := by
      intro i h
      rw [List.length_map] at h
      have := (hg2.2.2 i h).1
      rw [List.getElem_map, strOfNums_size]; omega
    rw [em2] at hrq
    have HM2 := Lib.hid (match_any bq oq sd ((without bs (1 + k)).map strOfNums) (strOfNums l) wc (by rw [hl2, hn]; exact hcq1) hcq2 hrq hsz2 (by rw [strOfNums_size]; omega) hL9)
    have HL2 := Lib.hid hl2; have HMM := Lib.hid hm2
    clear hm2 hl2 em2 hsz2 hrq hcq1 hcq2 hn hbx hrow hln hg2
    go_wp2_with fail
    have HM3 := HM2.out
    rw [HL2.out, HMM.out] at HM3
    refine HM3.mono ?_
    rintro e w7 ⟨rfl, hg7⟩
    go_wp2_with fail
    refine (known_any w7 (hL9.kept hg7 (by simp))).mono ?_
    rintro e w8 ⟨rfl, hg8⟩
    go_wp2
    go_ret
    exact ⟨rfl, grownBy_trans' gwx (grownBy_trans' hg7 hg8)⟩
end Go.Proofs.Ytgbfaggnnfoamaa
