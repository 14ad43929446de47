/- Part 20 of the proof: MaxRef. -/
import Derived.Test.YtdjhoadoiknaoaaDoorZw19
import Derived.Deep.DeepCutAuto
import Derived.Deep.CutBlock
set_option linter.unusedVariables false
set_option linter.unusedSimpArgs false
namespace Go.Proofs.YtdjhoadoiknaoaaDoor
open Go.RowKit
attribute [local go_sem ↓] Go.wp_at_zero Go.wp_at_succ
structure MaxSo (l : List Nat) (k : Nat) (o : List Nat) : Prop where
  sorted : o.Pairwise (· < ·)
  mem : ∀ a, a ∈ o ↔ a ∈ l.take k ∧ mostIn l a
theorem MaxSo.le {l : List Nat} {k : Nat} {o : List Nat} (h : MaxSo l k o) {N : Nat} (hl : ∀ b ∈ l, b < N) : o.length ≤ N := by
  have h2 : ∀ a ∈ o, a < N := fun a ha => hl a (List.mem_of_mem_take ((h.mem a).1 ha).1)
  have h1 := h.sorted
  clear h
  have key : ∀ (o : List Nat) (lo : Nat), o.Pairwise (· < ·) → (∀ a ∈ o, lo ≤ a ∧ a < N) → o.length ≤ N - lo := by
    intro o
    induction o with
    | nil => intro lo _ _; exact Nat.zero_le _
    | cons a o ih =>
      intro lo hs hb
      have hs' := List.pairwise_cons.1 hs
      have h1 := hb a (by simp)
      have := ih (a + 1) hs'.2 (fun b hb' => ⟨hs'.1 b hb', (hb b (by simp [hb'])).2⟩)
      simp only [List.length_cons]
      omega
  have := key o 0 h1 (fun a ha => ⟨Nat.zero_le _, h2 a ha⟩)
  omega
theorem MaxSo.skip {l : List Nat} {k : Nat} {o : List Nat} (h : MaxSo l k o) (hk : k < l.length) (hm : mostIn l (l.getD k 0) → l.getD k 0 ∈ o) : MaxSo l (k + 1) o := by
  refine ⟨h.sorted, fun a => ?_⟩
  rw [h.mem a, getD_take_snoc (d := 0) hk, List.mem_append, List.mem_singleton]
  constructor
  · rintro ⟨h1, h2⟩; exact ⟨.inl h1, h2⟩
  · rintro ⟨h1 | rfl, h2⟩
    · exact ⟨h1, h2⟩
    · exact (h.mem _).1 (hm h2)
def FromQ (o : List Nat) (a q : Nat) : Prop := ∀ i, q ≤ i → i < o.length → a ≤ o.getD i 0
theorem sorted_lt {o : List Nat} (h : o.Pairwise (· < ·)) {i j : Nat} (hij : i < j) (hj : j < o.length) : o.getD i 0 < o.getD j 0 := by
  have := List.pairwise_iff_getElem.1 h i j (by omega) hj hij
  simpa [List.getD, List.getElem?_eq_getElem (show i < o.length by omega), List.getElem?_eq_getElem hj] using this
theorem MaxSo.insert {l : List Nat} {k q : Nat} {o : List Nat} (h : MaxSo l k o) (hk : k < l.length) (hm : mostIn l (l.getD k 0)) (hq : q ≤ o.length) (hf : FromQ o (l.getD k 0) q) (hb : q = 0 ∨ o.getD (q - 1) 0 < l.getD k 0) (hne : q = o.length ∨ o.getD q 0 ≠ l.getD k 0) :
    MaxSo l (k + 1) (o.take q ++ [l.getD k 0] ++ o.drop q) := by
  obtain ⟨a, ha⟩ : ∃ a, a = l.getD k 0 := ⟨_, rfl⟩
  rw [← ha] at hm hf hb hne ⊢
  have hlow : ∀ x ∈ o.take q, x < a := by
    intro x hx
    obtain ⟨i, hi, rfl⟩ := List.getElem_of_mem hx
    rw [List.length_take] at hi
    rw [List.getElem_take]
    rcases hb with h0 | h0
    · omega
    · have e : o[i] = o.getD i 0 := by simp [List.getD, List.getElem?_eq_getElem (show i < o.length by omega)]
      rw [e]
      rcases Nat.lt_or_ge i (q - 1) with h1 | h1
      · have := sorted_lt h.sorted h1 (by omega); omega
      · have : i = q - 1 := by omega
        rw [this]; exact h0
  have hhi : ∀ x ∈ o.drop q, a < x := by
    intro x hx
    obtain ⟨i, hi, rfl⟩ := List.getElem_of_mem hx
    rw [List.length_drop] at hi
    rw [List.getElem_drop]
    have e : ∀ j (hj : j < o.length), o[j] = o.getD j 0 := fun j hj => by simp [List.getD, List.getElem?_eq_getElem hj]
    rw [e _ (by omega)]
    have h1 := hf q (Nat.le_refl _) (by omega)
    have h2 : a < o.getD q 0 := by
      rcases hne with h3 | h3
      · omega
      · omega
    rcases Nat.eq_zero_or_pos i with h3 | h3
    · subst h3; exact h2
    · have := sorted_lt h.sorted (show q < q + i by omega) (by omega); omega
  have hs := h.sorted
  rw [← List.take_append_drop q o, List.pairwise_append] at hs
  refine ⟨?_, fun x => ?_⟩
  · rw [List.append_assoc, List.pairwise_append]
    refine ⟨hs.1, ?_, ?_⟩
    · rw [List.singleton_append, List.pairwise_cons]
      exact ⟨hhi, hs.2.1⟩
    · intro x hx y hy
      rw [List.singleton_append, List.mem_cons] at hy
      rcases hy with rfl | hy
      · exact hlow x hx
      · have := hlow x hx; have := hhi y hy; omega
  · rw [getD_take_snoc (d := 0) hk, ← ha, List.mem_append (s := l.take k), List.mem_singleton]
    have hx := h.mem x
    rw [← List.take_append_drop q o, List.mem_append] at hx
    simp only [List.mem_append, List.mem_singleton]
    constructor
    · rintro ((h1 | h1) | h1)
      · have := hx.1 (.inl h1); exact ⟨.inl this.1, this.2⟩
      · subst h1; exact ⟨.inr rfl, hm⟩
      · have := hx.1 (.inr h1); exact ⟨.inl this.1, this.2⟩
    · rintro ⟨h1 | h1, h2⟩
      · rcases hx.2 ⟨h1, h2⟩ with h3 | h3
        · exact .inl (.inl h3)
        · exact .inr h3
      · exact .inl (.inr h1)
def MostTo (l : List Nat) (a j : Nat) : Prop := ∀ b ∈ l.take j, a = b ∨ a &&& b ≠ a
open Classical in
noncomputable def mostTo (l : List Nat) (a j : Nat) : Bool := decide (MostTo l a j)
theorem mostTo_iff {l : List Nat} {a j : Nat} : mostTo l a j = true ↔ MostTo l a j := by simp [mostTo]
theorem mostTo_succ {l : List Nat} {a j : Nat} (hj : j < l.length) : mostTo l a (j + 1) = (mostTo l a j && decide (a = l.getD j 0 ∨ a &&& l.getD j 0 ≠ a)) := by
  rw [Bool.eq_iff_iff, mostTo_iff, Bool.and_eq_true, mostTo_iff, decide_eq_true_eq]
  unfold MostTo
  rw [getD_take_snoc (d := 0) hj]
  constructor
  · intro h
    exact ⟨fun b hb => h b (List.mem_append_left _ hb), h _ (by simp)⟩
  · rintro ⟨h1, h2⟩ b hb
    rcases List.mem_append.1 hb with hb | hb
    · exact h1 b hb
    · simp only [List.mem_singleton] at hb; subst hb; exact h2
theorem mostTo_full {l : List Nat} {a : Nat} : mostTo l a l.length = true ↔ mostIn l a := by
  rw [mostTo_iff]; simp only [MostTo, List.take_length, mostIn]
theorem getD_memN {l : List Nat} {i : Nat} (hi : i < l.length) : l.getD i 0 ∈ l := by
  simp only [List.getD, List.getElem?_eq_getElem hi]; exact List.getElem_mem hi
theorem slices_of {w : World} {base ob n sc q : Nat} {o : List Nat} (h : w.ownsRow base 3 1 (.slice (some ⟨ob, 0, none⟩) n sc) n (nats o)) (hn : n = o.length) (hq : q ≤ n) :
    (∀ W, w.grownBy W none → Row w.heap.size W (.slice (some ⟨ob, 0, none⟩) q sc) (nats (o.take q))) ∧ (∀ W, w.grownBy W none → Row w.heap.size W (.slice (some ⟨ob, q, none⟩) (n - q) (sc - q)) (nats (o.drop q))) ∧ n ≤ sc ∧ sc ≤ maxLen := by
  subst hn
  rcases h.2 with ⟨h', _⟩ | ⟨g, cap, cur, h1, hb, hg, hnc, hcm, _⟩
  · simp at h'
  simp only [Value.slice.injEq, Option.some.injEq, Addr.mk.injEq, and_true, true_and] at h1
  obtain ⟨rfl, rfl⟩ := h1
  have ha := (Arr.of_owns h).row
  refine ⟨fun W hW => .inr ⟨ob, 0, sc, by simp [nats]; omega, ha.1, by simp [nats]; omega, hcm, ?_⟩, fun W hW => .inr ⟨ob, q, sc - q, by simp [nats], ha.1, by simp [nats]; omega, by omega, ?_⟩, hnc, hcm⟩
  · have := (ha.kept hW (by simp)).take q
    simpa [nats, List.map_take] using this
  · have := (ha.kept hW (by simp)).drop q
    rw [Nat.zero_add] at this
    simpa [nats, List.map_drop] using this
theorem row_nil0 {B : Nat} {w : World} {a : Option Addr} {c n : Nat} {xs : List Value} (hn : n = 0) (hx : xs = []) : Row B w (.slice a n c) xs := by
  subst hn; subst hx; exact .inl ⟨_, _, rfl, rfl⟩
def MaxRef (w : World) (l : List Nat) (n : Nat) (e : Ending) (w' : World) : Prop :=
  ∃ (sa : Option Addr) (sc : Nat), e = .returned (.slice sa (maxOf n l).length sc) ∧ w'.ownsRow w.heap.size 3 1 (.slice sa (maxOf n l).length sc) (maxOf n l).length (nats (maxOf n l)) ∧ w.grownBy w' none
set_option maxRecDepth 100000 in
set_option maxHeartbeats 2000000 in
theorem maxref_any (B : Nat) (w : World) (lv : Value) (l : List Nat) (n : Nat) (hn : n ≤ 12) (hB : B ≤ w.heap.size) (hl : Row B w lv (nats l)) (hlt : ∀ b ∈ l, b < 2 ^ n) :
    Calls Tryd.prog 62 #[lv] w (MaxRef w l n) := by
  have hlm := hl.len_le
  rw [nats_length] at hlm
  unfold maxLen at hlm
  obtain ⟨la, lc, rfl⟩ := hl.shape
  rw [nats_length]
  obtain ⟨N, hN⟩ : ∃ N, N = 2 ^ n := ⟨_, rfl⟩
  have hN4 : N ≤ 4096 := by have := pow_le hn; omega
  have HN := Lib.hid hN; have HL := Lib.hid hl; have HLT := Lib.hid hlt
  clear hN hl hlt
  go_enter Tryd.func62, Tryd.ntmps62
  go_wp2
  go_loopg [3, 12] l.length (fun g ov i wr => ∃ (k : Nat) (sa : Option Addr) (sc : Nat) (o : List Nat), g + k = l.length ∧ i = .int .i64 k ∧ ov = .slice sa o.length sc ∧ wr.ownsRow w.heap.size 3 1 (.slice sa o.length sc) o.length (nats o) ∧ Hid (o.length = 0 → sa = none ∧ sc = 0) ∧ Hid (MaxSo l k o) ∧ w.grownBy wr none)
  case atStart => exact ⟨0, none, 0, [], rfl, rfl, rfl, World.ownsRow_nil _ _ _ _, Lib.hid (fun _ => ⟨rfl, rfl⟩), Lib.hid ⟨by simp, by simp⟩, grownBy_refl _ _⟩
  case round =>
    obtain ⟨k, sa, sc, o, hg, rfl, rfl, hown, hnil, hso, hgr⟩ := hrel
    have HG := Lib.hid hg; have HOWN := Lib.hid hown
    have hol := hso.out.le HLT.out
    rw [← HN.out] at hol
    clear hg hown
    by_cases hk : k < l.length
    · have hk' : (k : Int) < l.length := by omega
      obtain ⟨lb, lo, lcc, e, _, _, _, hra⟩ := HL.out.some_ (by rw [nats_length]; omega)
      simp only [Value.slice.injEq] at e
      obtain ⟨rfl, -, -⟩ := e
      obtain ⟨lb', lo', lcc', e, _, _, _, hra⟩ := (HL.out.kept hgr (by simp)).some_ (by rw [nats_length]; omega)
      simp only [Value.slice.injEq, Option.some.injEq, Addr.mk.injEq, and_true] at e
      obtain ⟨⟨rfl, rfl⟩, -, -⟩ := e
      have ck := hra.nat k hk
      have hLR := Lib.hid hra
      obtain ⟨a, ha⟩ : ∃ a, a = l.getD k 0 := ⟨_, rfl⟩
      have haN : a < N := by rw [ha, HN.out]; exact getD_lt HLT.out hk
      rw [← ha] at ck
      have HA := Lib.hid ha
      clear hra ha
      go_wp2
      go_loopg [6, 18] l.length (fun g mv i wr' => ∃ (j : Nat) (c : Bool), g + j = l.length ∧ i = .int .i64 j ∧ mv = .bool c ∧ Hid (c = mostTo l a j) ∧ wr = wr')
      case atStart => exact ⟨0, true, rfl, rfl, rfl, Lib.hid (by simp [mostTo, MostTo]), rfl⟩
      case round =>
        obtain ⟨j, c, hg, rfl, rfl, hc, rfl⟩ := hrel
        have HGJ := Lib.hid hg
        clear hg
        by_cases hj : j < l.length
        · have hj' : (j : Int) < l.length := by omega
          have cj := hLR.out.nat j hj
          obtain ⟨b, hb⟩ : ∃ b, b = l.getD j 0 := ⟨_, rfl⟩
          have hbN : b < N := by rw [hb, HN.out]; exact getD_lt HLT.out hj
          rw [← hb] at cj
          have hst : Hid (mostTo l a (j + 1) = (c && decide (a = b ∨ a &&& b ≠ a))) := Lib.hid (by rw [mostTo_succ hj, hc.out, ← hb])
          clear hb
          cases c
          · go_wp2
            go_roundg (l.length - (j + 1))
            case measure => have := HGJ.out; omega
            case rel => exact ⟨j + 1, false, by omega, by go_num, rfl, Lib.hid (by rw [hst.out]; rfl), rfl⟩
          · by_cases hab : a = b
            · have e1 : ((a : Int) == (b : Int)) = true := by rw [hab]; simp
              have HAB := Lib.hid hab
              clear hab
              go_wp2
              go_roundg (l.length - (j + 1))
              case measure => have := HGJ.out; omega
              case rel => exact ⟨j + 1, true, by omega, by go_num, rfl, Lib.hid (by rw [hst.out]; simp [HAB.out]), rfl⟩
            · have e1 : ((a : Int) == (b : Int)) = false := by rw [beq_eq_false_iff_ne]; omega
              have e4 : bits .and .i64 (a : Int) (b : Int) = ((a &&& b : Nat) : Int) := i64_and_nat a b (by omega) (by omega)
              obtain ⟨X, hX⟩ : ∃ X, X = a &&& b := ⟨_, rfl⟩
              rw [← hX] at e4
              by_cases hxa : X = a
              · have e2 : ((X : Int) != (a : Int)) = false := by rw [hxa]; simp
                have hf : Hid (decide (a = b ∨ a &&& b ≠ a) = false) := Lib.hid (by rw [decide_eq_false_iff_not, ← hX]; omega)
                clear hxa hX hab
                go_wp2
                go_roundg (l.length - (j + 1))
                case measure => have := HGJ.out; omega
                case rel => exact ⟨j + 1, false, by omega, by go_num, rfl, Lib.hid (by rw [hst.out, hf.out]; rfl), rfl⟩
              · have e2 : ((X : Int) != (a : Int)) = true := by rw [bne_iff_ne]; omega
                have hf : Hid (decide (a = b ∨ a &&& b ≠ a) = true) := Lib.hid (by rw [decide_eq_true_eq, ← hX]; exact .inr hxa)
                clear hxa hX hab
                go_wp2
                go_roundg (l.length - (j + 1))
                case measure => have := HGJ.out; omega
                case rel => exact ⟨j + 1, true, by omega, by go_num, rfl, Lib.hid (by rw [hst.out, hf.out]; rfl), rfl⟩
        · have hmi : Hid (c = true ↔ mostIn l a) := by
            have hjl : j = l.length := by have := HGJ.out; omega
            have := hc.out
            rw [hjl] at this
            rw [this]
            exact Lib.hid mostTo_full
          clear hc
          go_upto_block 4 with fail
          go_cut [9] (fun s9 wx => ∃ q : Nat, s9 = .int .i64 q ∧ q ≤ o.length ∧ Hid (FromQ o a q) ∧ Hid (q = 0 ∨ o.getD (q - 1) 0 < a) ∧ wr = wx)
          case first =>
            go_wp2_with fail
            go_loopg [9] (o.length + 1) (fun g qv wr' => ∃ q : Nat, g = q + 1 ∧ qv = .int .i64 q ∧ q ≤ o.length ∧ Hid (FromQ o a q) ∧ wr = wr')
            case atStart => exact ⟨o.length, rfl, rfl, Nat.le_refl _, Lib.hid (fun i h1 h2 => by omega), rfl⟩
            case round =>
              obtain ⟨q, hg, rfl, hq, hfq, rfl⟩ := hrel
              have HGQ := Lib.hid hg
              clear hg
              by_cases hq0 : 0 < q
              · obtain ⟨ob, rfl, hoc1, hoc2, harr⟩ := owns_some HOWN.out (by omega)
                have cq := harr.nat (q - 1) (by omega)
                obtain ⟨y, hy⟩ : ∃ y, y = o.getD (q - 1) 0 := ⟨_, rfl⟩
                rw [← hy] at cq
                have HY := Lib.hid hy
                have e3 : ((q : Int) - 1).toNat = q - 1 := by omega
                have hqi : (q : Int) - 1 < o.length := by omega
                have hqj : 0 ≤ (q : Int) - 1 := by omega
                clear harr hy
                by_cases hge : a ≤ y
                · go_wp2
                  go_roundg q
                  case measure => have := HGQ.out; omega
                  case rel =>
                    refine ⟨q - 1, by omega, by simp; omega, by omega, Lib.hid (fun i h1 h2 => ?_), rfl⟩
                    rcases Nat.lt_or_ge i q with h3 | h3
                    · have : i = q - 1 := by omega
                      rw [this, ← HY.out]; omega
                    · exact hfq.out i h3 h2
                · go_wp2
                  go_meet
                  exact ⟨q, rfl, hq, hfq, Lib.hid (.inr (by rw [← HY.out]; omega)), rfl⟩
              · have hq0' : (q : Int) ≤ 0 := by omega
                go_wp2
                go_meet
                exact ⟨q, rfl, hq, hfq, Lib.hid (.inl (by omega)), rfl⟩
          case rest =>
            obtain ⟨q, rfl, hq, hfq, hbk, rfl⟩ := hcut
            cases c
            · have HSK : Hid (mostIn l a → a ∈ o) := Lib.hid (fun h => by have := hmi.out.2 h; cases this)
              go_wp2
              go_roundg (l.length - (k + 1))
              case measure => have := HG.out; omega
              case rel => exact ⟨k + 1, sa, sc, o, by omega, by go_num, rfl, HOWN.out, hnil, Lib.hid (hso.out.skip hk (by rw [← HA.out]; exact HSK.out)), hgr⟩
            · have hmm : Hid (mostIn l a) := Lib.hid (hmi.out.1 rfl)
              by_cases hql : q = o.length
              · have e1 : ((q : Int) == (o.length : Int)) = true := by rw [hql]; simp
                have hne : Hid (q = o.length ∨ o.getD q 0 ≠ a) := Lib.hid (.inl hql)
                by_cases ho0 : o.length = 0
                · obtain ⟨rfl, rfl⟩ := hnil.out ho0
                  have ho : o = [] := List.eq_nil_of_length_eq_zero ho0
                  subst ho
                  have hq00 : q = 0 := by simpa using hql
                  subst hq00
                  clear hql ho0
                  have HRA : Hid (∀ W, wr.grownBy W none → Row wr.heap.size W (.slice none 0 0) (nats (List.take 0 ([] : List Nat)))) := Lib.hid (fun W _ => row_nil0 rfl rfl)
                  have HRB : Hid (∀ W, wr.grownBy W none → Row wr.heap.size W (.slice none 0 0) (nats (List.drop 0 ([] : List Nat)))) := Lib.hid (fun W _ => row_nil0 rfl rfl)
                  have HR1 : Hid (∀ W, wr.grownBy W none → Row wr.heap.size W (.slice none 0 0) (nats (List.take 0 ([] : List Nat)))) := HRA
                  have HR2 : Hid (∀ W, wr.grownBy W none → Row wr.heap.size W (.slice none 0 0) (nats (List.drop 0 ([] : List Nat)))) := HRB
                  clear HRA HRB
                  go_upto_region 15 with fail
                  go_region_held3 (fun _ => True) (first | trivial | go_keep) (first | (refine step_appR rfl (.tmp 66) (.tmp 69) 22 rfl elem_int wr.heap.size (.slice (some ⟨wr.heap.size, 0, none⟩) 0 0) 0 [] rfl ?g4 _ (nats (List.take 0 ([] : List Nat))) rfl ?g6 (nats_one _) 0 ?g8 ?g9 ?g10 ?g11 ?_; (case g4 => first | exact owns_lit0 (heap_alloc_new wr _) (Nat.le_refl _) | exact owns_lit0 (first_kept wr _ _) (Nat.le_refl _) | exact owns_lit0 (new_second wr _ _) (Nat.le_succ _)); (case g6 => first | exact ⟨_, HR1.out _ (grownBy_same (World.grownBy_alloc wr _ none) rfl rfl rfl rfl)⟩ | exact ⟨_, HR1.out _ (grownBy_same (grown_alloc (World.grownBy_alloc wr _ none) _) rfl rfl rfl rfl)⟩); (case g8 => (simp [nats] <;> omega)); (case g9 => (unfold maxLen; omega)); (case g10 => omega); (case g11 => first | omega | (simp <;> omega)); intro s1 c1 w7 hown7 hg7; rw [List.nil_append] at hown7; (have hG7 : wr.grownBy w7 none := by refine grown_far ?_ hg7 (by simp [Value.ownBlock]); first | exact grownBy_same (World.grownBy_alloc wr _ none) rfl rfl rfl rfl | exact grownBy_same (grown_alloc (World.grownBy_alloc wr _ none) _) rfl rfl rfl rfl); (try have hb7 := block_kept (heap_drew (first_kept wr (.cells #[.int .i64 (a : Int)] 3) _)) hg7 (by simp [Value.ownBlock])); (try have hb7 := block_kept (heap_drew (new_second wr _ (.cells #[.int .i64 (a : Int)] 3))) hg7 (by simp [Value.ownBlock]))) | (refine step_appR rfl (.tmp 66) (.tmp 69) 22 rfl elem_int wr.heap.size (.slice (some ⟨wr.heap.size + 1, 0, none⟩) 0 0) 0 [] rfl ?g4 _ (nats (List.take 0 ([] : List Nat))) rfl ?g6 (nats_one _) 0 ?g8 ?g9 ?g10 ?g11 ?_; (case g4 => first | exact owns_lit0 (heap_alloc_new wr _) (Nat.le_refl _) | exact owns_lit0 (first_kept wr _ _) (Nat.le_refl _) | exact owns_lit0 (new_second wr _ _) (Nat.le_succ _)); (case g6 => first | exact ⟨_, HR1.out _ (grownBy_same (World.grownBy_alloc wr _ none) rfl rfl rfl rfl)⟩ | exact ⟨_, HR1.out _ (grownBy_same (grown_alloc (World.grownBy_alloc wr _ none) _) rfl rfl rfl rfl)⟩); (case g8 => (simp [nats] <;> omega)); (case g9 => (unfold maxLen; omega)); (case g10 => omega); (case g11 => first | omega | (simp <;> omega)); intro s1 c1 w7 hown7 hg7; rw [List.nil_append] at hown7; (have hG7 : wr.grownBy w7 none := by refine grown_far ?_ hg7 (by simp [Value.ownBlock]); first | exact grownBy_same (World.grownBy_alloc wr _ none) rfl rfl rfl rfl | exact grownBy_same (grown_alloc (World.grownBy_alloc wr _ none) _) rfl rfl rfl rfl); (try have hb7 := block_kept (heap_drew (first_kept wr (.cells #[.int .i64 (a : Int)] 3) _)) hg7 (by simp [Value.ownBlock])); (try have hb7 := block_kept (heap_drew (new_second wr _ (.cells #[.int .i64 (a : Int)] 3))) hg7 (by simp [Value.ownBlock]))) | (refine step_appR rfl (.tmp 70) (.tmp 72) 22 rfl elem_int wr.heap.size (.slice s1 0 c1) 0 (nats (List.take 0 ([] : List Nat))) rfl ?h4 _ [.int .i64 (a : Int)] rfl ?h6 ?h7 (0 + 1) ?h8 ?h9 ?h10 ?h11 ?_; (case h4 => first | exact hown7 | exact hown7.alloc _); (case h6 => first | exact ⟨_, row_one hb7⟩ | exact ⟨_, row_one (heap_alloc_new w7 _)⟩); (case h7 => (intro u hu; simp at hu; subst hu; rfl)); (case h8 => first | rfl | simp); (case h9 => (unfold maxLen; omega)); (case h10 => omega); (case h11 => (have := hG7.size; first | omega | (simp <;> omega))); intro s2 c2 w8 hown8 hg8; (have hG8 : wr.grownBy w8 none := grown_far (by first | exact hG7 | exact grown_alloc hG7 _) hg8 (fun x e => (hown7.lt x e).1))) | (refine step_appR rfl (.tmp 73) (.tmp 76) 22 rfl elem_int wr.heap.size (.slice s2 (0 + 1) c2) (0 + 1) (nats (List.take 0 ([] : List Nat)) ++ [.int .i64 (a : Int)]) rfl ?i4 _ (nats (List.drop 0 ([] : List Nat))) rfl ?i6 (nats_one _) (0 + 1) ?i8 ?i9 ?i10 ?i11 ?_; (case i4 => exact hown8); (case i6 => exact ⟨_, HR2.out _ hG8⟩); (case i8 => (simp [nats] <;> omega)); (case i9 => (unfold maxLen; omega)); (case i10 => omega); (case i11 => exact hG8.size); intro s3 c3 w9 hown9 hg9; (have hG9 : wr.grownBy w9 none := grown_far hG8 hg9 (fun x e => (hown8.lt x e).1))) | fail)
                  all_goals
                    have HO9 : Hid (w9.ownsRow wr.heap.size 3 1 (.slice s3 (0 + 1) c3) (0 + 1) (nats (List.take 0 ([] : List Nat) ++ [a] ++ List.drop 0 ([] : List Nat)))) := by
                      have h1 := hown9
                      rw [nats_append, nats_snoc]
                      exact Lib.hid h1
                    have HG9 := Lib.hid hG9
                    clear hown7 hg7 hG7 hown8 hg8 hG8 hown9 hg9 hG9 HR1 HR2
                    (try clear hb7)
                    go_wp2
                    go_roundg (l.length - (k + 1))
                    case measure => have := HG.out; omega
                    case rel =>
                      have hlen : (List.take 0 ([] : List Nat) ++ [a] ++ List.drop 0 ([] : List Nat)).length = 0 + 1 := by simp <;> omega
                      refine ⟨k + 1, s3, c3, List.take 0 ([] : List Nat) ++ [a] ++ List.drop 0 ([] : List Nat), by omega, by go_num, by rw [hlen], ?_, Lib.hid (fun h => by omega), Lib.hid ?_, grownBy_trans' hgr HG9.out⟩
                      · rw [hlen]; exact ownsRow_base HO9.out hgr.size
                      · have := hso.out.insert hk (by rw [← HA.out]; exact hmm.out) hq (by rw [← HA.out]; exact hfq.out) (.inl rfl) (by rw [← HA.out]; exact hne.out)
                        rw [← HA.out] at this
                        exact this
                · obtain ⟨ob, rfl, hoc1, hoc2, harr⟩ := owns_some HOWN.out (by omega)
                  have hsl := Lib.hid (slices_of (q := q) HOWN.out rfl hq)
                  have hnc := hsl.out.2.2.1
                  have hscm := hsl.out.2.2.2
                  unfold maxLen at hscm
                  have hqc : (q : Int) ≤ sc := by omega
                  have hq0n : 0 ≤ (q : Int) := by omega
                  have hqn : (q : Int) ≤ o.length := by omega
                  clear harr hql
                  by_cases hcq : sc = q
                  · subst sc
                    have HRA := Lib.hid hsl.out.1
                    have HRB : Hid (∀ W, wr.grownBy W none → Row wr.heap.size W (.slice (some ⟨ob, 0, none⟩) 0 0) (nats (o.drop q))) := Lib.hid (fun W _ => row_nil0 rfl (by rw [List.drop_eq_nil_of_le (by omega)]; rfl))
                    clear hsl
                    have HR1 : Hid (∀ W, wr.grownBy W none → Row wr.heap.size W (.slice (some ⟨ob, 0, none⟩) q q) (nats (o.take q))) := HRA
                    have HR2 : Hid (∀ W, wr.grownBy W none → Row wr.heap.size W (.slice (some ⟨ob, 0, none⟩) 0 0) (nats (o.drop q))) := HRB
                    clear HRA HRB
                    go_upto_region 15 with fail
                    go_region_held3 (fun _ => True) (first | trivial | go_keep) (first | (refine step_appR rfl (.tmp 66) (.tmp 69) 22 rfl elem_int wr.heap.size (.slice (some ⟨wr.heap.size, 0, none⟩) 0 0) 0 [] rfl ?g4 _ (nats (o.take q)) rfl ?g6 (nats_one _) q ?g8 ?g9 ?g10 ?g11 ?_; (case g4 => first | exact owns_lit0 (heap_alloc_new wr _) (Nat.le_refl _) | exact owns_lit0 (first_kept wr _ _) (Nat.le_refl _) | exact owns_lit0 (new_second wr _ _) (Nat.le_succ _)); (case g6 => first | exact ⟨_, HR1.out _ (grownBy_same (World.grownBy_alloc wr _ none) rfl rfl rfl rfl)⟩ | exact ⟨_, HR1.out _ (grownBy_same (grown_alloc (World.grownBy_alloc wr _ none) _) rfl rfl rfl rfl)⟩); (case g8 => (simp [nats] <;> omega)); (case g9 => (unfold maxLen; omega)); (case g10 => omega); (case g11 => first | omega | (simp <;> omega)); intro s1 c1 w7 hown7 hg7; rw [List.nil_append] at hown7; (have hG7 : wr.grownBy w7 none := by refine grown_far ?_ hg7 (by simp [Value.ownBlock]); first | exact grownBy_same (World.grownBy_alloc wr _ none) rfl rfl rfl rfl | exact grownBy_same (grown_alloc (World.grownBy_alloc wr _ none) _) rfl rfl rfl rfl); (try have hb7 := block_kept (heap_drew (first_kept wr (.cells #[.int .i64 (a : Int)] 3) _)) hg7 (by simp [Value.ownBlock])); (try have hb7 := block_kept (heap_drew (new_second wr _ (.cells #[.int .i64 (a : Int)] 3))) hg7 (by simp [Value.ownBlock]))) | (refine step_appR rfl (.tmp 66) (.tmp 69) 22 rfl elem_int wr.heap.size (.slice (some ⟨wr.heap.size + 1, 0, none⟩) 0 0) 0 [] rfl ?g4 _ (nats (o.take q)) rfl ?g6 (nats_one _) q ?g8 ?g9 ?g10 ?g11 ?_; (case g4 => first | exact owns_lit0 (heap_alloc_new wr _) (Nat.le_refl _) | exact owns_lit0 (first_kept wr _ _) (Nat.le_refl _) | exact owns_lit0 (new_second wr _ _) (Nat.le_succ _)); (case g6 => first | exact ⟨_, HR1.out _ (grownBy_same (World.grownBy_alloc wr _ none) rfl rfl rfl rfl)⟩ | exact ⟨_, HR1.out _ (grownBy_same (grown_alloc (World.grownBy_alloc wr _ none) _) rfl rfl rfl rfl)⟩); (case g8 => (simp [nats] <;> omega)); (case g9 => (unfold maxLen; omega)); (case g10 => omega); (case g11 => first | omega | (simp <;> omega)); intro s1 c1 w7 hown7 hg7; rw [List.nil_append] at hown7; (have hG7 : wr.grownBy w7 none := by refine grown_far ?_ hg7 (by simp [Value.ownBlock]); first | exact grownBy_same (World.grownBy_alloc wr _ none) rfl rfl rfl rfl | exact grownBy_same (grown_alloc (World.grownBy_alloc wr _ none) _) rfl rfl rfl rfl); (try have hb7 := block_kept (heap_drew (first_kept wr (.cells #[.int .i64 (a : Int)] 3) _)) hg7 (by simp [Value.ownBlock])); (try have hb7 := block_kept (heap_drew (new_second wr _ (.cells #[.int .i64 (a : Int)] 3))) hg7 (by simp [Value.ownBlock]))) | (refine step_appR rfl (.tmp 70) (.tmp 72) 22 rfl elem_int wr.heap.size (.slice s1 q c1) q (nats (o.take q)) rfl ?h4 _ [.int .i64 (a : Int)] rfl ?h6 ?h7 (q + 1) ?h8 ?h9 ?h10 ?h11 ?_; (case h4 => first | exact hown7 | exact hown7.alloc _); (case h6 => first | exact ⟨_, row_one hb7⟩ | exact ⟨_, row_one (heap_alloc_new w7 _)⟩); (case h7 => (intro u hu; simp at hu; subst hu; rfl)); (case h8 => first | rfl | simp); (case h9 => (unfold maxLen; omega)); (case h10 => omega); (case h11 => (have := hG7.size; first | omega | (simp <;> omega))); intro s2 c2 w8 hown8 hg8; (have hG8 : wr.grownBy w8 none := grown_far (by first | exact hG7 | exact grown_alloc hG7 _) hg8 (fun x e => (hown7.lt x e).1))) | (refine step_appR rfl (.tmp 73) (.tmp 76) 22 rfl elem_int wr.heap.size (.slice s2 (q + 1) c2) (q + 1) (nats (o.take q) ++ [.int .i64 (a : Int)]) rfl ?i4 _ (nats (o.drop q)) rfl ?i6 (nats_one _) (o.length + 1) ?i8 ?i9 ?i10 ?i11 ?_; (case i4 => exact hown8); (case i6 => exact ⟨_, HR2.out _ hG8⟩); (case i8 => (simp [nats] <;> omega)); (case i9 => (unfold maxLen; omega)); (case i10 => omega); (case i11 => exact hG8.size); intro s3 c3 w9 hown9 hg9; (have hG9 : wr.grownBy w9 none := grown_far hG8 hg9 (fun x e => (hown8.lt x e).1))) | fail)
                    all_goals
                      have HO9 : Hid (w9.ownsRow wr.heap.size 3 1 (.slice s3 (o.length + 1) c3) (o.length + 1) (nats (o.take q ++ [a] ++ o.drop q))) := by
                        have h1 := hown9
                        rw [nats_append, nats_snoc]
                        exact Lib.hid h1
                      have HG9 := Lib.hid hG9
                      clear hown7 hg7 hG7 hown8 hg8 hG8 hown9 hg9 hG9 HR1 HR2
                      (try clear hb7)
                      go_wp2
                      go_roundg (l.length - (k + 1))
                      case measure => have := HG.out; omega
                      case rel =>
                        have hlen : (o.take q ++ [a] ++ o.drop q).length = o.length + 1 := by simp <;> omega
                        refine ⟨k + 1, s3, c3, o.take q ++ [a] ++ o.drop q, by omega, by go_num, by rw [hlen], ?_, Lib.hid (fun h => by omega), Lib.hid ?_, grownBy_trans' hgr HG9.out⟩
                        · rw [hlen]; exact ownsRow_base HO9.out hgr.size
                        · have := hso.out.insert hk (by rw [← HA.out]; exact hmm.out) hq (by rw [← HA.out]; exact hfq.out) (by rw [← HA.out]; exact hbk.out) (by rw [← HA.out]; exact hne.out)
                          rw [← HA.out] at this
                          exact this
                  · have HRA := Lib.hid hsl.out.1
                    have HRB := Lib.hid hsl.out.2.1
                    clear hsl
                    have HR1 : Hid (∀ W, wr.grownBy W none → Row wr.heap.size W (.slice (some ⟨ob, 0, none⟩) q sc) (nats (o.take q))) := HRA
                    have HR2 : Hid (∀ W, wr.grownBy W none → Row wr.heap.size W (.slice (some ⟨ob, q, none⟩) (o.length - q) (sc - q)) (nats (o.drop q))) := HRB
                    clear HRA HRB
                    go_upto_region 15 with fail
                    go_region_held3 (fun _ => True) (first | trivial | go_keep) (first | (refine step_appR rfl (.tmp 66) (.tmp 69) 22 rfl elem_int wr.heap.size (.slice (some ⟨wr.heap.size, 0, none⟩) 0 0) 0 [] rfl ?g4 _ (nats (o.take q)) rfl ?g6 (nats_one _) q ?g8 ?g9 ?g10 ?g11 ?_; (case g4 => first | exact owns_lit0 (heap_alloc_new wr _) (Nat.le_refl _) | exact owns_lit0 (first_kept wr _ _) (Nat.le_refl _) | exact owns_lit0 (new_second wr _ _) (Nat.le_succ _)); (case g6 => first | exact ⟨_, HR1.out _ (grownBy_same (World.grownBy_alloc wr _ none) rfl rfl rfl rfl)⟩ | exact ⟨_, HR1.out _ (grownBy_same (grown_alloc (World.grownBy_alloc wr _ none) _) rfl rfl rfl rfl)⟩); (case g8 => (simp [nats] <;> omega)); (case g9 => (unfold maxLen; omega)); (case g10 => omega); (case g11 => first | omega | (simp <;> omega)); intro s1 c1 w7 hown7 hg7; rw [List.nil_append] at hown7; (have hG7 : wr.grownBy w7 none := by refine grown_far ?_ hg7 (by simp [Value.ownBlock]); first | exact grownBy_same (World.grownBy_alloc wr _ none) rfl rfl rfl rfl | exact grownBy_same (grown_alloc (World.grownBy_alloc wr _ none) _) rfl rfl rfl rfl); (try have hb7 := block_kept (heap_drew (first_kept wr (.cells #[.int .i64 (a : Int)] 3) _)) hg7 (by simp [Value.ownBlock])); (try have hb7 := block_kept (heap_drew (new_second wr _ (.cells #[.int .i64 (a : Int)] 3))) hg7 (by simp [Value.ownBlock]))) | (refine step_appR rfl (.tmp 66) (.tmp 69) 22 rfl elem_int wr.heap.size (.slice (some ⟨wr.heap.size + 1, 0, none⟩) 0 0) 0 [] rfl ?g4 _ (nats (o.take q)) rfl ?g6 (nats_one _) q ?g8 ?g9 ?g10 ?g11 ?_; (case g4 => first | exact owns_lit0 (heap_alloc_new wr _) (Nat.le_refl _) | exact owns_lit0 (first_kept wr _ _) (Nat.le_refl _) | exact owns_lit0 (new_second wr _ _) (Nat.le_succ _)); (case g6 => first | exact ⟨_, HR1.out _ (grownBy_same (World.grownBy_alloc wr _ none) rfl rfl rfl rfl)⟩ | exact ⟨_, HR1.out _ (grownBy_same (grown_alloc (World.grownBy_alloc wr _ none) _) rfl rfl rfl rfl)⟩); (case g8 => (simp [nats] <;> omega)); (case g9 => (unfold maxLen; omega)); (case g10 => omega); (case g11 => first | omega | (simp <;> omega)); intro s1 c1 w7 hown7 hg7; rw [List.nil_append] at hown7; (have hG7 : wr.grownBy w7 none := by refine grown_far ?_ hg7 (by simp [Value.ownBlock]); first | exact grownBy_same (World.grownBy_alloc wr _ none) rfl rfl rfl rfl | exact grownBy_same (grown_alloc (World.grownBy_alloc wr _ none) _) rfl rfl rfl rfl); (try have hb7 := block_kept (heap_drew (first_kept wr (.cells #[.int .i64 (a : Int)] 3) _)) hg7 (by simp [Value.ownBlock])); (try have hb7 := block_kept (heap_drew (new_second wr _ (.cells #[.int .i64 (a : Int)] 3))) hg7 (by simp [Value.ownBlock]))) | (refine step_appR rfl (.tmp 70) (.tmp 72) 22 rfl elem_int wr.heap.size (.slice s1 q c1) q (nats (o.take q)) rfl ?h4 _ [.int .i64 (a : Int)] rfl ?h6 ?h7 (q + 1) ?h8 ?h9 ?h10 ?h11 ?_; (case h4 => first | exact hown7 | exact hown7.alloc _); (case h6 => first | exact ⟨_, row_one hb7⟩ | exact ⟨_, row_one (heap_alloc_new w7 _)⟩); (case h7 => (intro u hu; simp at hu; subst hu; rfl)); (case h8 => first | rfl | simp); (case h9 => (unfold maxLen; omega)); (case h10 => omega); (case h11 => (have := hG7.size; first | omega | (simp <;> omega))); intro s2 c2 w8 hown8 hg8; (have hG8 : wr.grownBy w8 none := grown_far (by first | exact hG7 | exact grown_alloc hG7 _) hg8 (fun x e => (hown7.lt x e).1))) | (refine step_appR rfl (.tmp 73) (.tmp 76) 22 rfl elem_int wr.heap.size (.slice s2 (q + 1) c2) (q + 1) (nats (o.take q) ++ [.int .i64 (a : Int)]) rfl ?i4 _ (nats (o.drop q)) rfl ?i6 (nats_one _) (o.length + 1) ?i8 ?i9 ?i10 ?i11 ?_; (case i4 => exact hown8); (case i6 => exact ⟨_, HR2.out _ hG8⟩); (case i8 => (simp [nats] <;> omega)); (case i9 => (unfold maxLen; omega)); (case i10 => omega); (case i11 => exact hG8.size); intro s3 c3 w9 hown9 hg9; (have hG9 : wr.grownBy w9 none := grown_far hG8 hg9 (fun x e => (hown8.lt x e).1))) | fail)
                    all_goals
                      have HO9 : Hid (w9.ownsRow wr.heap.size 3 1 (.slice s3 (o.length + 1) c3) (o.length + 1) (nats (o.take q ++ [a] ++ o.drop q))) := by
                        have h1 := hown9
                        rw [nats_append, nats_snoc]
                        exact Lib.hid h1
                      have HG9 := Lib.hid hG9
                      clear hown7 hg7 hG7 hown8 hg8 hG8 hown9 hg9 hG9 HR1 HR2
                      (try clear hb7)
                      go_wp2
                      go_roundg (l.length - (k + 1))
                      case measure => have := HG.out; omega
                      case rel =>
                        have hlen : (o.take q ++ [a] ++ o.drop q).length = o.length + 1 := by simp <;> omega
                        refine ⟨k + 1, s3, c3, o.take q ++ [a] ++ o.drop q, by omega, by go_num, by rw [hlen], ?_, Lib.hid (fun h => by omega), Lib.hid ?_, grownBy_trans' hgr HG9.out⟩
                        · rw [hlen]; exact ownsRow_base HO9.out hgr.size
                        · have := hso.out.insert hk (by rw [← HA.out]; exact hmm.out) hq (by rw [← HA.out]; exact hfq.out) (by rw [← HA.out]; exact hbk.out) (by rw [← HA.out]; exact hne.out)
                          rw [← HA.out] at this
                          exact this
              · have e1 : ((q : Int) == (o.length : Int)) = false := by rw [beq_eq_false_iff_ne]; omega
                obtain ⟨ob, rfl, hoc1, hoc2, harr⟩ := owns_some HOWN.out (by omega)
                have cq2 := harr.nat q (by omega)
                obtain ⟨y2, hy2⟩ : ∃ y, y = o.getD q 0 := ⟨_, rfl⟩
                rw [← hy2] at cq2
                have hq' : (q : Int) < o.length := by omega
                by_cases hya : y2 = a
                · have e2 : ((y2 : Int) != (a : Int)) = false := by rw [hya]; simp
                  have HSK : Hid (mostIn l a → a ∈ o) := Lib.hid (fun _ => by rw [← hya, hy2]; exact getD_memN (by omega))
                  clear harr hy2 hya
                  go_wp2
                  go_roundg (l.length - (k + 1))
                  case measure => have := HG.out; omega
                  case rel => exact ⟨k + 1, some ⟨ob, 0, none⟩, sc, o, by omega, by go_num, rfl, HOWN.out, hnil, Lib.hid (hso.out.skip hk (by rw [← HA.out]; exact HSK.out)), hgr⟩
                · have e2 : ((y2 : Int) != (a : Int)) = true := by rw [bne_iff_ne]; omega
                  have hne : Hid (q = o.length ∨ o.getD q 0 ≠ a) := Lib.hid (.inr (by rw [← hy2]; exact hya))
                  clear harr hy2 hya
                  have hsl := Lib.hid (slices_of (q := q) HOWN.out rfl hq)
                  have hnc := hsl.out.2.2.1
                  have hscm := hsl.out.2.2.2
                  unfold maxLen at hscm
                  have hqc : (q : Int) ≤ sc := by omega
                  have hq0n : 0 ≤ (q : Int) := by omega
                  have hqn : (q : Int) ≤ o.length := by omega
                  have hcq : ¬ sc = q := by omega
                  have HRA := Lib.hid hsl.out.1
                  have HRB := Lib.hid hsl.out.2.1
                  clear hsl hql
                  have HR1 : Hid (∀ W, wr.grownBy W none → Row wr.heap.size W (.slice (some ⟨ob, 0, none⟩) q sc) (nats (o.take q))) := HRA
                  have HR2 : Hid (∀ W, wr.grownBy W none → Row wr.heap.size W (.slice (some ⟨ob, q, none⟩) (o.length - q) (sc - q)) (nats (o.drop q))) := HRB
                  clear HRA HRB
                  go_upto_region 15 with fail
                  go_region_held3 (fun _ => True) (first | trivial | go_keep) (first | (refine step_appR rfl (.tmp 66) (.tmp 69) 22 rfl elem_int wr.heap.size (.slice (some ⟨wr.heap.size, 0, none⟩) 0 0) 0 [] rfl ?g4 _ (nats (o.take q)) rfl ?g6 (nats_one _) q ?g8 ?g9 ?g10 ?g11 ?_; (case g4 => first | exact owns_lit0 (heap_alloc_new wr _) (Nat.le_refl _) | exact owns_lit0 (first_kept wr _ _) (Nat.le_refl _) | exact owns_lit0 (new_second wr _ _) (Nat.le_succ _)); (case g6 => first | exact ⟨_, HR1.out _ (grownBy_same (World.grownBy_alloc wr _ none) rfl rfl rfl rfl)⟩ | exact ⟨_, HR1.out _ (grownBy_same (grown_alloc (World.grownBy_alloc wr _ none) _) rfl rfl rfl rfl)⟩); (case g8 => (simp [nats] <;> omega)); (case g9 => (unfold maxLen; omega)); (case g10 => omega); (case g11 => first | omega | (simp <;> omega)); intro s1 c1 w7 hown7 hg7; rw [List.nil_append] at hown7; (have hG7 : wr.grownBy w7 none := by refine grown_far ?_ hg7 (by simp [Value.ownBlock]); first | exact grownBy_same (World.grownBy_alloc wr _ none) rfl rfl rfl rfl | exact grownBy_same (grown_alloc (World.grownBy_alloc wr _ none) _) rfl rfl rfl rfl); (try have hb7 := block_kept (heap_drew (first_kept wr (.cells #[.int .i64 (a : Int)] 3) _)) hg7 (by simp [Value.ownBlock])); (try have hb7 := block_kept (heap_drew (new_second wr _ (.cells #[.int .i64 (a : Int)] 3))) hg7 (by simp [Value.ownBlock]))) | (refine step_appR rfl (.tmp 66) (.tmp 69) 22 rfl elem_int wr.heap.size (.slice (some ⟨wr.heap.size + 1, 0, none⟩) 0 0) 0 [] rfl ?g4 _ (nats (o.take q)) rfl ?g6 (nats_one _) q ?g8 ?g9 ?g10 ?g11 ?_; (case g4 => first | exact owns_lit0 (heap_alloc_new wr _) (Nat.le_refl _) | exact owns_lit0 (first_kept wr _ _) (Nat.le_refl _) | exact owns_lit0 (new_second wr _ _) (Nat.le_succ _)); (case g6 => first | exact ⟨_, HR1.out _ (grownBy_same (World.grownBy_alloc wr _ none) rfl rfl rfl rfl)⟩ | exact ⟨_, HR1.out _ (grownBy_same (grown_alloc (World.grownBy_alloc wr _ none) _) rfl rfl rfl rfl)⟩); (case g8 => (simp [nats] <;> omega)); (case g9 => (unfold maxLen; omega)); (case g10 => omega); (case g11 => first | omega | (simp <;> omega)); intro s1 c1 w7 hown7 hg7; rw [List.nil_append] at hown7; (have hG7 : wr.grownBy w7 none := by refine grown_far ?_ hg7 (by simp [Value.ownBlock]); first | exact grownBy_same (World.grownBy_alloc wr _ none) rfl rfl rfl rfl | exact grownBy_same (grown_alloc (World.grownBy_alloc wr _ none) _) rfl rfl rfl rfl); (try have hb7 := block_kept (heap_drew (first_kept wr (.cells #[.int .i64 (a : Int)] 3) _)) hg7 (by simp [Value.ownBlock])); (try have hb7 := block_kept (heap_drew (new_second wr _ (.cells #[.int .i64 (a : Int)] 3))) hg7 (by simp [Value.ownBlock]))) | (refine step_appR rfl (.tmp 70) (.tmp 72) 22 rfl elem_int wr.heap.size (.slice s1 q c1) q (nats (o.take q)) rfl ?h4 _ [.int .i64 (a : Int)] rfl ?h6 ?h7 (q + 1) ?h8 ?h9 ?h10 ?h11 ?_; (case h4 => first | exact hown7 | exact hown7.alloc _); (case h6 => first | exact ⟨_, row_one hb7⟩ | exact ⟨_, row_one (heap_alloc_new w7 _)⟩); (case h7 => (intro u hu; simp at hu; subst hu; rfl)); (case h8 => first | rfl | simp); (case h9 => (unfold maxLen; omega)); (case h10 => omega); (case h11 => (have := hG7.size; first | omega | (simp <;> omega))); intro s2 c2 w8 hown8 hg8; (have hG8 : wr.grownBy w8 none := grown_far (by first | exact hG7 | exact grown_alloc hG7 _) hg8 (fun x e => (hown7.lt x e).1))) | (refine step_appR rfl (.tmp 73) (.tmp 76) 22 rfl elem_int wr.heap.size (.slice s2 (q + 1) c2) (q + 1) (nats (o.take q) ++ [.int .i64 (a : Int)]) rfl ?i4 _ (nats (o.drop q)) rfl ?i6 (nats_one _) (o.length + 1) ?i8 ?i9 ?i10 ?i11 ?_; (case i4 => exact hown8); (case i6 => exact ⟨_, HR2.out _ hG8⟩); (case i8 => (simp [nats] <;> omega)); (case i9 => (unfold maxLen; omega)); (case i10 => omega); (case i11 => exact hG8.size); intro s3 c3 w9 hown9 hg9; (have hG9 : wr.grownBy w9 none := grown_far hG8 hg9 (fun x e => (hown8.lt x e).1))) | fail)
                  all_goals
                    have HO9 : Hid (w9.ownsRow wr.heap.size 3 1 (.slice s3 (o.length + 1) c3) (o.length + 1) (nats (o.take q ++ [a] ++ o.drop q))) := by
                      have h1 := hown9
                      rw [nats_append, nats_snoc]
                      exact Lib.hid h1
                    have HG9 := Lib.hid hG9
                    clear hown7 hg7 hG7 hown8 hg8 hG8 hown9 hg9 hG9 HR1 HR2
                    (try clear hb7)
                    go_wp2
                    go_roundg (l.length - (k + 1))
                    case measure => have := HG.out; omega
                    case rel =>
                      have hlen : (o.take q ++ [a] ++ o.drop q).length = o.length + 1 := by simp <;> omega
                      refine ⟨k + 1, s3, c3, o.take q ++ [a] ++ o.drop q, by omega, by go_num, by rw [hlen], ?_, Lib.hid (fun h => by omega), Lib.hid ?_, grownBy_trans' hgr HG9.out⟩
                      · rw [hlen]; exact ownsRow_base HO9.out hgr.size
                      · have := hso.out.insert hk (by rw [← HA.out]; exact hmm.out) hq (by rw [← HA.out]; exact hfq.out) (by rw [← HA.out]; exact hbk.out) (by rw [← HA.out]; exact hne.out)
                        rw [← HA.out] at this
                        exact this
    · have hfin : Hid (o = maxOf n l) := by
        have hkl : k = l.length := by have := HG.out; omega
        have h1 := hso.out
        rw [hkl] at h1
        exact Lib.hid (eq_maxOf HLT.out h1.sorted (fun a => by rw [h1.mem a, List.take_length]))
      go_wp2
      go_ret
      refine ⟨sa, sc, by rw [← hfin.out]; rfl, ?_, hgr⟩
      rw [← hfin.out]
      exact HOWN.out
end Go.Proofs.YtdjhoadoiknaoaaDoor
