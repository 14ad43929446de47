/- Part 19 of the proof: ClosePlain, Gen. -/
import Derived.Test.YtdjhoadoiknaoaaDoorZw18
set_option linter.unusedVariables false
set_option linter.unusedSimpArgs false
namespace Go.Proofs.YtdjhoadoiknaoaaDoor
theorem filter_le {α : Type} {p q : α → Bool} : ∀ (l : List α), (∀ a ∈ l, p a = true → q a = true) → (l.filter p).length ≤ (l.filter q).length
  | [], _ => Nat.le_refl _
  | a :: l, h => by
    have ih := filter_le l (fun b hb => h b (List.mem_cons_of_mem _ hb))
    have ha := h a (by simp)
    simp only [List.filter_cons]
    split <;> split <;> simp_all <;> omega
theorem filter_lt {α : Type} {p q : α → Bool} : ∀ (l : List α), (∀ a ∈ l, p a = true → q a = true) → (∃ a ∈ l, p a = false ∧ q a = true) → (l.filter p).length < (l.filter q).length
  | [], _, ⟨a, ha, _⟩ => by simp at ha
  | a :: l, h, ⟨b, hb, hp, hq⟩ => by
    have hl := filter_le l (fun b hb => h b (List.mem_cons_of_mem _ hb))
    have ha := h a (by simp)
    rcases List.mem_cons.1 hb with rfl | hb
    · simp only [List.filter_cons, hp, hq]
      simp; omega
    · have ih := filter_lt l (fun b hb => h b (List.mem_cons_of_mem _ hb)) ⟨b, hb, hp, hq⟩
      simp only [List.filter_cons]
      split <;> split <;> simp_all <;> omega
def gap (n : Nat) (l : List Nat) : Nat := ((List.range (2 ^ n)).filter fun s => !under l s).length
theorem gap_le (n : Nat) (l : List Nat) : gap n l ≤ 2 ^ n := by
  have := List.length_filter_le (fun s => !under l s) (List.range (2 ^ n))
  rw [List.length_range] at this
  exact this
section
variable {n : Nat} {tb : Nat → Nat → Nat} {l : List Nat}
theorem under_round (ht : Tb n tb) (hl : ∀ b ∈ l, b < 2 ^ n) {s : Nat} (h : under l s = true) : under (roundSets n tb l) s = true := by
  rw [roundSets, under_maxOf (roundList_lt ht hl)]
  obtain ⟨b, hb, hs⟩ := under_iff.1 h
  exact under_iff.2 ⟨b, mem_roundList.2 (.inl hb), hs⟩
theorem round_lt {s : Nat} (h : s ∈ roundSets n tb l) : s < 2 ^ n := maxOf_lt h
theorem round_max (ht : Tb n tb) (hl : ∀ b ∈ l, b < 2 ^ n) : maxOf n (roundSets n tb l) = roundSets n tb l := maxOf_max (roundList_lt ht hl)
theorem gap_round (ht : Tb n tb) (hl : ∀ b ∈ l, b < 2 ^ n) (hm : maxOf n l = l) (hne : roundSets n tb l ≠ l) : gap n (roundSets n tb l) < gap n l := by
  unfold gap
  apply filter_lt
  · intro s _ h
    cases hu : under l s with
    | false => rfl
    | true => rw [under_round ht hl hu] at h; exact h
  · apply Classical.byContradiction
    intro hno
    apply hne
    have he : ∀ s, under (roundList n tb l) s = under l s := by
      intro s
      rw [← under_maxOf (roundList_lt ht hl)]
      show under (roundSets n tb l) s = _
      cases hu : under l s with
      | true => exact under_round ht hl hu
      | false =>
        cases hr : under (roundSets n tb l) s with
        | false => rfl
        | true => exact absurd ⟨s, List.mem_range.2 (under_lt (fun b hb => round_lt hb) hr), by rw [hr]; rfl, by rw [hu]; rfl⟩ hno
    have : maxOf n (roundList n tb l) = maxOf n l := by
      unfold maxOf topB
      congr 1
      funext s
      rw [he]
      congr 1
      congr 1
      funext x
      rw [he]
    exact this.trans hm
def roundsGo (n : Nat) (tb : Nat → Nat → Nat) : Nat → List Nat × Bool → List Nat × Bool
  | 0, f => f
  | k + 1, f => if f.2 then f else roundsGo n tb k (roundSets n tb f.1, decide (roundSets n tb f.1 = f.1))
def closeFrom (n : Nat) (tb : Nat → Nat → Nat) (l : List Nat) : List Nat := (roundsGo n tb (2 ^ n + 1) (l, false)).1
theorem roundsGo_done (k : Nat) (l : List Nat) : roundsGo n tb k (l, true) = (l, true) := by
  cases k <;> simp [roundsGo]
theorem roundsGo_step (k : Nat) (l : List Nat) : roundsGo n tb (k + 1) (l, false) = roundsGo n tb k (roundSets n tb l, decide (roundSets n tb l = l)) := by simp [roundsGo]
theorem roundsGo_add (i j : Nat) (f : List Nat × Bool) : roundsGo n tb (i + j) f = roundsGo n tb j (roundsGo n tb i f) := by
  induction i generalizing f with
  | zero => simp [roundsGo]
  | succ i ih =>
    rw [Nat.succ_add]
    obtain ⟨l, d⟩ := f
    cases d with
    | true => rw [roundsGo_done, roundsGo_done, roundsGo_done]
    | false => rw [roundsGo_step, roundsGo_step, ih]
def FamOk (n : Nat) (f : List Nat × Bool) : Prop := (∀ b ∈ f.1, b < 2 ^ n) ∧ maxOf n f.1 = f.1
theorem famOk_round (ht : Tb n tb) {l : List Nat} {d e : Bool} (h : FamOk n (l, d)) : FamOk n (roundSets n tb l, e) := ⟨fun _ hb => round_lt hb, round_max ht h.1⟩
theorem roundsGo_end (ht : Tb n tb) : ∀ (k : Nat) (l : List Nat), FamOk n (l, false) → gap n l < k → (roundsGo n tb k (l, false)).2 = true
  | 0, l, _, h => by omega
  | k + 1, l, hf, h => by
    rw [roundsGo_step]
    by_cases e : roundSets n tb l = l
    · rw [e, decide_eq_true rfl, roundsGo_done]
    · rw [decide_eq_false e]
      exact roundsGo_end ht k _ (famOk_round ht hf) (by have : gap n (roundSets n tb l) < gap n l := gap_round ht hf.1 hf.2 e; omega)
theorem roundsGo_true {k : Nat} {f : List Nat × Bool} (h : (roundsGo n tb k f).2 = true) (j : Nat) : roundsGo n tb (k + j) f = roundsGo n tb k f := by
  rw [roundsGo_add]
  generalize roundsGo n tb k f = g at h
  obtain ⟨l, d⟩ := g
  simp only at h
  subst h
  exact roundsGo_done _ _
theorem roundsGo_stop (ht : Tb n tb) {l : List Nat} (hf : FamOk n (l, false)) {k : Nat} (h : (roundsGo n tb k (l, false)).2 = true) : (roundsGo n tb k (l, false)).1 = closeFrom n tb l := by
  have h1 := roundsGo_end ht (2 ^ n + 1) l hf (by have := gap_le n l; omega)
  unfold closeFrom
  rcases Nat.le_total k (2 ^ n + 1) with hk | hk
  · obtain ⟨j, e⟩ : ∃ j, 2 ^ n + 1 = k + j := ⟨2 ^ n + 1 - k, by omega⟩
    rw [e, roundsGo_true h]
  · obtain ⟨j, rfl⟩ : ∃ j, k = 2 ^ n + 1 + j := ⟨k - (2 ^ n + 1), by omega⟩
    rw [roundsGo_true h1]
end
end Go.Proofs.YtdjhoadoiknaoaaDoor
namespace Go.Proofs.YtdjhoadoiknaoaaDoor
open Go.RowKit
def genL (t : List (List Int)) (im : List Int) : List Nat := 2 ^ (identI t).toNat :: im.map fun x => 2 ^ x.toNat
theorem genL_length (t : List (List Int)) (im : List Int) : (genL t im).length = im.length + 1 := by simp [genL]
theorem genL_lt {t : List (List Int)} {im : List Int} (h : Good t im) : ∀ b ∈ genL t im, b < 2 ^ t.length := by
  intro b hb
  obtain ⟨e, he, hel, _⟩ := h.ident
  rcases List.mem_cons.1 hb with rfl | hb
  · rw [he]; exact Nat.pow_lt_pow_right (by omega) hel
  · obtain ⟨x, hx, rfl⟩ := List.mem_map.1 hb
    obtain ⟨i, hi, rfl⟩ := List.getElem_of_mem hx
    have := inB_iff.1 h.inb i hi
    simp only [List.getD, List.getElem?_eq_getElem hi, Option.getD_some] at this
    exact Nat.pow_lt_pow_right (by omega) (by omega)
def genTo (t : List (List Int)) (im : List Int) (k : Nat) : List Nat := 2 ^ (identI t).toNat :: (im.take k).map fun x => 2 ^ x.toNat
theorem genTo_succ {t : List (List Int)} {im : List Int} {k : Nat} (hk : k < im.length) : genTo t im (k + 1) = genTo t im k ++ [2 ^ (im.getD k 0).toNat] := by
  simp only [genTo, getD_take_snoc (d := 0) hk, List.map_append, List.map_cons, List.map_nil, List.cons_append]
theorem genTo_full {t : List (List Int)} {im : List Int} : genTo t im im.length = genL t im := by simp [genTo, genL]
def Gens (w : World) (t : List (List Int)) (im : List Int) (e : Ending) (w' : World) : Prop :=
  ∃ (sa : Option Addr) (sc : Nat), e = .returned (.slice sa (genL t im).length sc) ∧ w'.ownsRow w.heap.size 3 1 (.slice sa (genL t im).length sc) (genL t im).length (nats (genL t im)) ∧ w.grownBy w' none
set_option maxHeartbeats 800000 in
theorem generators_any (B : Nat) (w : World) (v iv : Value) (t : List (List Int)) (im : List Int) (hB : B ≤ w.heap.size) (h : Mat B w v t) (hi : Row B w iv (ints im)) (hg : Good t im) :
    Calls Tryd.prog 60 #[v, iv] w (Gens w t im) := by
  have HI := Lib.hid hi; have HGD := Lib.hid hg
  obtain ⟨e0, he, hel, _⟩ := hg.ident
  have hle := hg.le
  have h0 := hg.im0
  have h6 := hg.im6
  have hid := identity_any B w v t hB h
  rw [identE_valid hg.valid] at hid
  rw [he] at hid
  have HID := Lib.hid hid
  have hsh := shl_eq (m := e0) (by omega)
  have hsh' := shl_eq' (m := e0) (by omega)
  obtain ⟨M, hM⟩ : ∃ M, M = 2 ^ e0 := ⟨_, rfl⟩
  rw [← hM] at hsh hsh'
  have hg0 : Hid (genTo t im 0 = [M]) := Lib.hid (by simp [genTo, he, hM])
  have hM4 : M ≤ 4096 := by rw [hM]; have := pow_le (show e0 ≤ 12 by omega); omega
  obtain ⟨ib, io, ic, rfl, _, _, _, _⟩ := hi.some_ (by rw [ints_length]; exact h0)
  rw [ints_length]
  clear h hi hg he hid hM
  go_enter Tryd.func60, Tryd.ntmps60
  go_wp2_with fail
  refine HID.out.mono ?_
  rintro e w1 ⟨rfl, hg1⟩
  have hown0 : (w1.alloc (.cells #[.int .i64 (M : Int)] 3)).ownsRow w.heap.size 3 1 (.slice (some ⟨w1.heap.size, 0, none⟩) 1 1) 1 (nats [M]) :=
    ownsRow_base (World.ownsRow_lit w1 #[.int .i64 (M : Int)] 1 (Nat.le_refl _) (by unfold maxLen; omega) (by simp)) hg1.size
  have HOWN0 := Lib.hid hown0
  have hgA := Lib.hid (grown_alloc hg1 (.cells #[.int .i64 (M : Int)] 3))
  clear hown0
  go_wp2
  go_loopg [5, 14] im.length (fun g ov i wr => ∃ (k : Nat) (sa : Option Addr) (sc : Nat), g + k = im.length ∧ i = .int .i64 k ∧ ov = .slice sa (k + 1) sc ∧ wr.ownsRow w.heap.size 3 1 (.slice sa (k + 1) sc) (k + 1) (nats (genTo t im k)) ∧ w.grownBy wr none)
  case atStart => exact ⟨0, some ⟨w1.heap.size, 0, none⟩, 1, rfl, rfl, rfl, by rw [hg0.out]; exact HOWN0.out, hgA.out⟩
  case round =>
    clear HOWN0 hgA
    obtain ⟨k, sa, sc, hg, rfl, rfl, hown, hgr⟩ := hrel
    have HG := Lib.hid hg; have HOWN := Lib.hid hown; clear hg hown
    by_cases hk : k < im.length
    · have hk' : (k : Int) < im.length := by omega
      obtain ⟨ib', io', ic', e, _, _, _, hra⟩ := (HI.out.kept hgr (by simp)).some_ (by rw [ints_length]; exact h0)
      simp only [Value.slice.injEq, Option.some.injEq, Addr.mk.injEq, and_true] at e
      obtain ⟨⟨rfl, rfl⟩, -, -⟩ := e
      have ck := hra.int k hk
      have hin := inB_iff.1 HGD.out.inb k hk
      obtain ⟨x, hx⟩ : ∃ x : Nat, (x : Int) = im.getD k 0 := ⟨(im.getD k 0).toNat, by omega⟩
      rw [← hx] at ck hin
      have hxl : x < t.length := by omega
      have hsx := shl_eq (m := x) (by omega)
      have hsx' := shl_eq' (m := x) (by omega)
      obtain ⟨X, hX⟩ : ∃ X, X = 2 ^ x := ⟨_, rfl⟩
      rw [← hX] at hsx hsx'
      have hgt : Hid (genTo t im (k + 1) = genTo t im k ++ [X]) := Lib.hid (by rw [genTo_succ hk, ← hx, hX]; rfl)
      clear hra hx hX hin
      go_wp2_with (at_builtin; refine app1 rfl _ _ _ rfl elem_int w.heap.size _ (k + 1) (nats (genTo t im k)) rfl HOWN.out _ rfl rfl ?c1 ?c2 ?c3 ?_)
      case c1 => unfold maxLen; omega
      case c2 => omega
      case c3 => exact hgr.size
      intro sa' sc' w3 hown3 hg3 hlt3
      have HO3 := Lib.hid hown3; have HG3 := Lib.hid hg3
      clear hown3 hg3
      go_wp2
      go_roundg (im.length - (k + 1))
      case measure => have := HG.out; omega
      case rel =>
        refine ⟨k + 1, sa', sc', by omega, by go_num, rfl, ?_, grown_far hgr HG3.out (fun q e => (HOWN.out.lt q e).1)⟩
        rw [hgt.out, nats_snoc]
        first | exact HO3.out | (have h1 := HO3.out; rw [hsx] at h1; exact h1) | (have h1 := HO3.out; rw [hsx'] at h1; exact h1)
    · have hkn : k = im.length := by have := HG.out; omega
      have hgf : Hid (genTo t im k = genL t im ∧ (genL t im).length = k + 1) := Lib.hid ⟨by rw [hkn, genTo_full], by rw [genL_length, hkn]⟩
      clear hkn
      go_wp2
      go_ret
      refine ⟨sa, sc, by rw [hgf.out.2]; rfl, ?_, hgr⟩
      rw [hgf.out.2, ← hgf.out.1]
      exact HOWN.out
set_option maxHeartbeats 800000 in
theorem begin40_any (B : Nat) (w : World) (v iv : Value) (t : List (List Int)) (im : List Int) (hB : B ≤ w.heap.size) (h : Mat B w v t) (hi : Row B w iv (ints im)) (hg : Good t im) :
    Calls Tryd.prog 63 #[v, iv] w (Gens w t im) := by
  have HI := Lib.hid hi; have HGD := Lib.hid hg
  obtain ⟨e0, he, hel, _⟩ := hg.ident
  have hle := hg.le
  have h0 := hg.im0
  have h6 := hg.im6
  have hid := identity14_any B w v t h (valid_of hg.valid).1
  rw [he] at hid
  have HID := Lib.hid hid
  have hsh := shl_eq (m := e0) (by omega)
  have hsh' := shl_eq' (m := e0) (by omega)
  obtain ⟨M, hM⟩ : ∃ M, M = 2 ^ e0 := ⟨_, rfl⟩
  rw [← hM] at hsh hsh'
  have hg0 : Hid (genTo t im 0 = [M]) := Lib.hid (by simp [genTo, he, hM])
  have hM4 : M ≤ 4096 := by rw [hM]; have := pow_le (show e0 ≤ 12 by omega); omega
  obtain ⟨ib, io, ic, rfl, _, _, _, _⟩ := hi.some_ (by rw [ints_length]; exact h0)
  rw [ints_length]
  clear h hi hg he hid hM
  go_enter Tryd.func63, Tryd.ntmps63
  go_wp2_with fail
  refine HID.out.mono ?_
  rintro e w ⟨rfl, rfl⟩
  have hg1 := grownBy_refl w none
  have hown0 : (w.alloc (.cells #[.int .i64 (M : Int)] 3)).ownsRow w.heap.size 3 1 (.slice (some ⟨w.heap.size, 0, none⟩) 1 1) 1 (nats [M]) :=
    ownsRow_base (World.ownsRow_lit w #[.int .i64 (M : Int)] 1 (Nat.le_refl _) (by unfold maxLen; omega) (by simp)) hg1.size
  have HOWN0 := Lib.hid hown0
  have hgA := Lib.hid (grown_alloc hg1 (.cells #[.int .i64 (M : Int)] 3))
  clear hown0
  go_wp2
  go_loopg [5, 15] im.length (fun g ov i wr => ∃ (k : Nat) (sa : Option Addr) (sc : Nat), g + k = im.length ∧ i = .int .i64 k ∧ ov = .slice sa (k + 1) sc ∧ wr.ownsRow w.heap.size 3 1 (.slice sa (k + 1) sc) (k + 1) (nats (genTo t im k)) ∧ w.grownBy wr none)
  case atStart => exact ⟨0, some ⟨w.heap.size, 0, none⟩, 1, rfl, rfl, rfl, by rw [hg0.out]; exact HOWN0.out, hgA.out⟩
  case round =>
    clear HOWN0 hgA
    obtain ⟨k, sa, sc, hg, rfl, rfl, hown, hgr⟩ := hrel
    have HG := Lib.hid hg; have HOWN := Lib.hid hown; clear hg hown
    by_cases hk : k < im.length
    · have hk' : (k : Int) < im.length := by omega
      obtain ⟨ib', io', ic', e, _, _, _, hra⟩ := (HI.out.kept hgr (by simp)).some_ (by rw [ints_length]; exact h0)
      simp only [Value.slice.injEq, Option.some.injEq, Addr.mk.injEq, and_true] at e
      obtain ⟨⟨rfl, rfl⟩, -, -⟩ := e
      have ck := hra.int k hk
      have hin := inB_iff.1 HGD.out.inb k hk
      obtain ⟨x, hx⟩ : ∃ x : Nat, (x : Int) = im.getD k 0 := ⟨(im.getD k 0).toNat, by omega⟩
      rw [← hx] at ck hin
      have hxl : x < t.length := by omega
      have hsx := shl_eq (m := x) (by omega)
      have hsx' := shl_eq' (m := x) (by omega)
      obtain ⟨X, hX⟩ : ∃ X, X = 2 ^ x := ⟨_, rfl⟩
      rw [← hX] at hsx hsx'
      have hgt : Hid (genTo t im (k + 1) = genTo t im k ++ [X]) := Lib.hid (by rw [genTo_succ hk, ← hx, hX]; rfl)
      clear hra hx hX hin
      go_wp2_with (at_builtin; refine app1 rfl _ _ _ rfl elem_int w.heap.size _ (k + 1) (nats (genTo t im k)) rfl HOWN.out _ rfl rfl ?c1 ?c2 ?c3 ?_)
      case c1 => unfold maxLen; omega
      case c2 => omega
      case c3 => exact hgr.size
      intro sa' sc' w3 hown3 hg3 hlt3
      have HO3 := Lib.hid hown3; have HG3 := Lib.hid hg3
      clear hown3 hg3
      go_wp2
      go_roundg (im.length - (k + 1))
      case measure => have := HG.out; omega
      case rel =>
        refine ⟨k + 1, sa', sc', by omega, by go_num, rfl, ?_, grown_far hgr HG3.out (fun q e => (HOWN.out.lt q e).1)⟩
        rw [hgt.out, nats_snoc]
        first | exact HO3.out | (have h1 := HO3.out; rw [hsx] at h1; exact h1) | (have h1 := HO3.out; rw [hsx'] at h1; exact h1)
    · have hkn : k = im.length := by have := HG.out; omega
      have hgf : Hid (genTo t im k = genL t im ∧ (genL t im).length = k + 1) := Lib.hid ⟨by rw [hkn, genTo_full], by rw [genL_length, hkn]⟩
      clear hkn
      go_wp2
      go_ret
      refine ⟨sa, sc, by rw [hgf.out.2]; rfl, ?_, hgr⟩
      rw [hgf.out.2, ← hgf.out.1]
      exact HOWN.out
end Go.Proofs.YtdjhoadoiknaoaaDoor
