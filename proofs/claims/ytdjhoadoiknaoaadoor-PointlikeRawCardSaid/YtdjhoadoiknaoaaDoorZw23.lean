/- Part 23 of the proof: Round2. -/
import Derived.Test.YtdjhoadoiknaoaaDoorZw22
set_option linter.unusedVariables false
set_option linter.unusedSimpArgs false
namespace Go.Proofs.YtdjhoadoiknaoaaDoor
open Go.RowKit
def RowO (F C B : Nat) (w : World) (v : Value) (xs : List Value) : Prop :=
  (∃ a cap, v = .slice a 0 cap ∧ xs = []) ∨ ∃ b off cap, v = .slice (some ⟨b, off, none⟩) xs.length cap ∧ (b < F ∨ C ≤ b) ∧ b < B ∧ xs.length ≤ cap ∧ cap ≤ maxLen ∧ RowAt w b off xs
section
variable {F C B : Nat} {w w' : World} {v : Value} {xs : List Value}
theorem RowO.row (h : RowO F C B w v xs) : Row B w v xs := by
  rcases h with h | ⟨b, off, cap, h1, h2, h3, h4, h5, h6⟩
  · exact .inl h
  · exact .inr ⟨b, off, cap, h1, h3, h4, h5, h6⟩
theorem RowO.of_owns {base e n : Nat} (h : w.ownsRow base e 1 v n xs) (hC : C ≤ base) : RowO F C w.heap.size w v xs := by
  have hl : xs.length = n := by have := h.1; omega
  rcases h.2 with ⟨rfl, rfl⟩ | ⟨g, cap, cur, rfl, hb, hg, hnc, hcm, hcs, htake⟩
  · exact .inl ⟨_, _, rfl, List.eq_nil_of_length_eq_zero hl⟩
  · exact .inr ⟨g, 0, cap, by rw [hl], .inr (by omega), lt_of_block hg, by omega, hcm, (Arr.of_owns h).row⟩
theorem RowO.mono {B' : Nat} (h : RowO F C B w v xs) (hB : B ≤ B') : RowO F C B' w v xs := by
  rcases h with h | ⟨b, off, cap, h1, h2, h3, h4⟩
  · exact .inl h
  · exact .inr ⟨b, off, cap, h1, h2, by omega, h4⟩
theorem RowO.kept {row : Option Nat} (h : RowO F C B w v xs) (hg : w.grownBy w' row) (hr : ∀ k, row = some k → (F ≤ k ∧ k < C) ∨ B ≤ k) : RowO F C B w' v xs := by
  rcases h with h | ⟨b, off, cap, h1, h2, h3, h4, h5, h6⟩
  · exact .inl h
  · exact .inr ⟨b, off, cap, h1, h2, h3, h4, h5, h6.kept hg (fun e => by have := hr b e; omega)⟩
theorem RowAt.below {S b off : Nat} (h : RowAt w b off xs) (hb : Below S w w') (hs : b < S) : RowAt w' b off xs :=
  ⟨Nat.lt_of_lt_of_le h.1 hb.size, fun i hi => (World.cell?_of_block (hb.block b hs)).trans (h.2 i hi)⟩
theorem RowO.below {S : Nat} (h : RowO F C B w v xs) (hb : Below S w w') (hs : B ≤ S) : RowO F C B w' v xs := by
  rcases h with h | ⟨b, off, cap, h1, h2, h3, h4, h5, h6⟩
  · exact .inl h
  · exact .inr ⟨b, off, cap, h1, h2, h3, h4, h5, h6.below hb (by omega)⟩
theorem TabOk.below {S : Nat} (h : TabOk w) (hb : Below S w w') (hs : 1 < S) : TabOk w' :=
  ⟨Nat.lt_of_lt_of_le h.1 hb.size, fun j hj => (World.cell?_of_block (hb.block _ hs)).trans (h.2 j hj)⟩
end
theorem SetsAt.below {F C S p go g0 n k kh : Nat} {w w' : World} {tb : Nat → Nat → Nat} {gr : Nat → Nat} {om : List Nat} (h : SetsAt F C w p go g0 n k kh tb gr om) (hb : Below S w w') (hs : C ≤ S) : SetsAt F C w' p go g0 n k kh tb gr om := by
  have key : ∀ q, q < C → w'.heap[q]? = w.heap[q]? := fun q hq => hb.block q (by omega)
  have ka : ∀ {q e xs}, Arr w q e xs → q < C → Arr w' q e xs := fun ha hq => by
    obtain ⟨cur, rest, h1, h2⟩ := ha
    exact ⟨cur, rest, (key _ hq).trans h1, h2⟩
  exact ⟨(key p h.lop.2).trans h.box, ka h.rows h.log.2, fun x hx => ka (h.rowc x hx) (h.lor x hx).2, ka h.oms h.loo.2, h.oml, h.omok, h.ne, h.lop, h.log, h.loo, h.lor⟩
theorem SetsOk.below {F C S p go n : Nat} {w w' : World} {tb : Nat → Nat → Nat} (h : SetsOk F C w p go n tb) (hb : Below S w w') (hs : C ≤ S) : SetsOk F C w' p go n tb := by
  obtain ⟨g0, gr, om, h⟩ := h
  exact ⟨g0, gr, om, h.below hb hs⟩
theorem SetsOk.go_lt {F C p go n : Nat} {w : World} {tb : Nat → Nat → Nat} (h : SetsOk F C w p go n tb) : F ≤ go ∧ go < C := by
  obtain ⟨g0, gr, om, h⟩ := h
  exact h.loo
theorem Rs.kept {w0 w w' : World} {bi bm g n M N go : Nat} {mv : Value} {bs : List Bool} {lst : List Nat} (h : Rs w0 w bi bm g n M N mv bs lst (some go)) (hg : w.grownBy w' (some go)) (hgo : go < w0.heap.size) : Rs w0 w' bi bm g n M N mv bs lst (some go) := by
  have hlo := h.lo
  have ne : ∀ q, w0.heap.size ≤ q → (some go : Option Nat) ≠ some q := fun q hq e => by have : go = q := Option.some.inj e; omega
  exact ⟨block_kept h.box1 hg (ne _ hlo.1), block_kept h.box2 hg (ne _ hlo.2.1), ownsRow_kept h.own hg (fun k e => by have : go = k := Option.some.inj e; omega), h.shape, h.arr.kept hg (ne _ hlo.2.2), h.len, h.cnt, h.mem, h.lt, hlo, grownBy_trans' h.fr hg⟩
theorem Rs.quiet {w0 w : World} {bi bm g n M N go : Nat} {mv : Value} {bs : List Bool} {lst : List Nat} (h : Rs w0 w bi bm g n M N mv bs lst (some go)) (m : Nat) (hgo : go < w0.heap.size) : Rs w0 (w.drewN m) bi bm g n M N mv bs lst (some go) :=
  h.kept (grownBy_drewN w m _) hgo
def RMem (n : Nat) (tb : Nat → Nat → Nat) (l : List Nat) (k j : Nat) (lst : List Nat) : Prop :=
  ∀ y, y ∈ lst ↔ y ∈ l ∨ (∃ a ∈ l.take k, (∃ b ∈ l, prodSet n tb a b = y) ∨ omegaSet n tb a = y) ∨ (∃ b ∈ l.take j, prodSet n tb (l.getD k 0) b = y)
theorem RMem.prod {n : Nat} {tb : Nat → Nat → Nat} {l : List Nat} {k j : Nat} {lst lst' : List Nat} (h : RMem n tb l k j lst) (hj : j < l.length) (h' : ∀ y, y ∈ lst' ↔ y ∈ lst ∨ y = prodSet n tb (l.getD k 0) (l.getD j 0)) : RMem n tb l k (j + 1) lst' := by
  intro y
  rw [h' y, h y, getD_take_snoc (d := 0) hj]
  constructor
  · rintro ((h | h | ⟨b, hb, h⟩) | h)
    · exact .inl h
    · exact .inr (.inl h)
    · exact .inr (.inr ⟨b, List.mem_append_left _ hb, h⟩)
    · exact .inr (.inr ⟨l.getD j 0, by simp, h.symm⟩)
  · rintro (h | h | ⟨b, hb, h⟩)
    · exact .inl (.inl h)
    · exact .inl (.inr (.inl h))
    · rcases List.mem_append.1 hb with hb | hb
      · exact .inl (.inr (.inr ⟨b, hb, h⟩))
      · simp only [List.mem_singleton] at hb
        subst hb
        exact .inr h.symm
theorem RMem.omega {n : Nat} {tb : Nat → Nat → Nat} {l : List Nat} {k : Nat} {lst lst' : List Nat} (h : RMem n tb l k l.length lst) (hk : k < l.length) (h' : ∀ y, y ∈ lst' ↔ y ∈ lst ∨ y = omegaSet n tb (l.getD k 0)) : RMem n tb l (k + 1) 0 lst' := by
  intro y
  rw [h' y, h y, getD_take_snoc (d := 0) hk, List.take_length]
  constructor
  · rintro ((h | ⟨a, ha, h⟩ | ⟨b, hb, h⟩) | h)
    · exact .inl h
    · exact .inr (.inl ⟨a, List.mem_append_left _ ha, h⟩)
    · exact .inr (.inl ⟨l.getD k 0, by simp, .inl ⟨b, hb, h⟩⟩)
    · exact .inr (.inl ⟨l.getD k 0, by simp, .inr h.symm⟩)
  · rintro (h | ⟨a, ha, h⟩ | ⟨b, hb, h⟩)
    · exact .inl (.inl h)
    · rcases List.mem_append.1 ha with ha | ha
      · exact .inl (.inr (.inl ⟨a, ha, h⟩))
      · simp only [List.mem_singleton] at ha
        subst ha
        rcases h with ⟨b, hb, h⟩ | h
        · exact .inl (.inr (.inr ⟨b, hb, h⟩))
        · exact .inr h.symm
    · simp at hb
theorem RMem.start {n : Nat} {tb : Nat → Nat → Nat} {l : List Nat} : RMem n tb l 0 0 l := by intro y; simp
theorem RMem.end_ {n : Nat} {tb : Nat → Nat → Nat} {l : List Nat} {lst : List Nat} (h : RMem n tb l l.length 0 lst) : ∀ y, y ∈ lst ↔ y ∈ roundList n tb l := by
  intro y
  rw [h y, mem_roundList, List.take_length]
  simp
def RoundOk (F C : Nat) (w : World) (p go n : Nat) (tb : Nat → Nat → Nat) (l : List Nat) (e : Ending) (w' : World) : Prop :=
  ∃ (sa : Option Addr) (sc : Nat), e = .returned (.agg #[.slice sa (roundSets n tb l).length sc, .bool (decide (roundSets n tb l = l))]) ∧ w'.ownsRow w.heap.size 3 1 (.slice sa (roundSets n tb l).length sc) (roundSets n tb l).length (nats (roundSets n tb l)) ∧
    SetsOk F C w' p go n tb ∧ w.grownBy w' (some go)
theorem natsI (l : List Nat) : nats l = (l.map fun (x : Nat) => (x : Int)).map (Value.int .i64) := by simp [nats]
theorem cast_inj {l m : List Nat} : ((l.map fun (x : Nat) => (x : Int)) == (m.map fun (x : Nat) => (x : Int))) = decide (l = m) := by
  rw [Bool.eq_iff_iff, beq_iff_eq, decide_eq_true_eq]
  constructor
  · intro h
    have := congrArg (List.map Int.toNat) h
    simpa [List.map_map, Function.comp_def] using this
  · rintro rfl; rfl
theorem round_ne {n : Nat} {tb : Nat → Nat → Nat} {l : List Nat} (ht : Tb n tb) (hl : ∀ b ∈ l, b < 2 ^ n) (h0 : 0 < l.length) : 0 < (roundSets n tb l).length := by
  obtain ⟨a, ha⟩ := List.exists_mem_of_length_pos h0
  obtain ⟨b, hb, _⟩ := exists_max (roundList_lt ht hl) _ a (Nat.le_refl _) (mem_roundList.2 (.inl ha))
  exact List.length_pos_of_mem hb
theorem maxOf_le (n : Nat) (l : List Nat) : (maxOf n l).length ≤ 2 ^ n := by
  have := maxTo_le n l (2 ^ n)
  rwa [maxTo_full] at this
set_option maxRecDepth 100000 in
set_option maxHeartbeats 2000000 in
theorem round_any (F C B : Nat) (w : World) (p go n : Nat) (tb : Nat → Nat → Nat) (fv : Value) (d : Bool) (l : List Nat) (h : SetsOk F C w p go n tb) (ht : Tb n tb) (hn : n ≤ 12) (hl : RowO F C B w fv (nats l)) (h0 : 0 < l.length) (hlt : ∀ b ∈ l, b < 2 ^ n) (hll : l.length ≤ 1000000) (hB : B ≤ w.heap.size) (hC : C ≤ w.heap.size) (hgF : 1 < F) (hT : TabOk w) :
    Calls Tryd.prog 49 #[.pointer (some ⟨p, 0, none⟩), .agg #[fv, .bool d]] w (RoundOk F C w p go n tb l) := by
  have hsh := shl_eq (m := n) (by omega)
  obtain ⟨N, hN⟩ : ∃ N, N = 2 ^ n := ⟨_, rfl⟩
  have hN4 : N ≤ 4096 := by have := pow_le hn; omega
  rw [← hN] at hsh
  obtain ⟨fb0, fo0, fc0, rfl, _, _, _, _⟩ := hl.row.some_ (by rw [nats_length]; exact h0)
  rw [nats_length]
  have HN := Lib.hid hN; have H := Lib.hid h; have HL := Lib.hid hl; have HLT := Lib.hid hlt; have HT := Lib.hid hT; have HTB := Lib.hid ht
  clear h hl hlt hN hT ht
  go_enter Tryd.func49, Tryd.ntmps49
  go_upto_region 1 with fail
  obtain ⟨wA, hWA⟩ : ∃ wA, wA = (w.alloc (.cells #[.slice (some ⟨fb0, fo0, none⟩) l.length fc0, .bool d] 49)).alloc (.cells #[.slice none 0 0, .bool false] 49) := ⟨_, rfl⟩
  have hfb : wA.heap[w.heap.size]? = some (.cells #[.slice (some ⟨fb0, fo0, none⟩) l.length fc0, .bool d] 49 (0, 0)) := by
    rw [hWA]; exact block_kept (heap_alloc_new w _) (World.grownBy_alloc _ _ none) (by simp)
  have hrb : wA.heap[w.heap.size + 1]? = some (.cells #[.slice none 0 0, .bool false] 49 (0, 0)) := by
    have := heap_alloc_new (w.alloc (.cells #[.slice (some ⟨fb0, fo0, none⟩) l.length fc0, .bool d] 49)) (.cells #[.slice none 0 0, .bool false] 49)
    rw [alloc_size] at this
    rw [hWA]; exact this
  have hgA : w.grownBy wA none := by rw [hWA]; exact grown_alloc (World.grownBy_alloc w _ none) _
  have hzA : wA.heap.size = w.heap.size + 2 := by rw [hWA, alloc_size, alloc_size]
  rw [← hWA]
  have HFB := Lib.hid hfb; have HRB := Lib.hid hrb; have HGA := Lib.hid hgA; have HZA := Lib.hid hzA
  have c0 := (H.out.kept hgA (by simp)).c0
  have hzA' : w.heap.size + 1 < wA.heap.size := by omega
  clear hWA hfb hrb hgA hzA
  go_upto_region 2 with (at_make; refine make1 rfl _ _ _ rfl elem_bool rfl _ _ _ _ N rfl rfl hsh hsh ?b1 ?b2 ?_; (case b1 => omega); (case b2 => (unfold maxLen; omega)); intro w1 ha1 hg1 hz1)
  rw [← bls_replicate] at ha1
  obtain ⟨w2, hW2⟩ : ∃ w2, w2 = w1.alloc (.cells #[.slice (some ⟨wA.heap.size, 0, none⟩) N N] 25) := ⟨_, rfl⟩
  have hg2 : w1.grownBy w2 none := by rw [hW2]; exact World.grownBy_alloc _ _ _
  have hbi : w2.heap[w1.heap.size]? = some (.cells #[.slice (some ⟨wA.heap.size, 0, none⟩) N N] 25 (0, 0)) := by rw [hW2]; exact heap_alloc_new w1 _
  have hz2 : w1.heap.size < w2.heap.size := lt_of_block hbi
  rw [← hW2]
  have hgA2 := grownBy_trans' hg1 hg2
  have cf := cell_block (block_kept HFB.out hgA2 (by simp)) 0 (by simp)
  simp only [List.getElem_toArray, List.getElem_cons_zero] at cf
  have HA2 := Lib.hid (ha1.kept hg2 (by simp)); have HBI := Lib.hid hbi; have HGA2 := Lib.hid hgA2
  have hlw := HL.out.kept (grownBy_trans' HGA.out hgA2) (by simp)
  have hrow := hlw.row
  rcases hlw with ⟨_, _, e, e2⟩ | ⟨b1, o1, c1, e, hb1, hb2, hb3, hb4, hra⟩
  · exfalso
    have := congrArg List.length e2
    rw [nats_length, List.length_nil] at this
    omega
  simp only [Value.slice.injEq, Option.some.injEq, Addr.mk.injEq, and_true, nats_length] at e
  obtain ⟨⟨rfl, rfl⟩, -, rfl⟩ := e
  rw [nats_length] at hb3
  have hcl := Tryd.slices_Clone_int fb0 fo0 l.length fc0 (l.map fun (x : Nat) => (x : Int)) w2 (by simp) (by omega) (fun j hj => by
    have hj' : j < l.length := by simpa using hj
    have := hra.nat j hj'
    rw [this]; simp [List.getD, hj'])
  have HCL := Lib.hid hcl
  clear hW2 hg2 hbi hgA2 ha1 hg1 hcl hra hrow
  go_wp2_with fail
  refine HCL.out.mono ?_
  rintro e w3 ⟨v', rfl, hown, hnn, hbel⟩
  rw [show ((l.map fun (x : Nat) => (x : Int)).take l.length).map (Value.int .i64) = nats l by rw [List.take_of_length_le (by simp), natsI]] at hown
  obtain ⟨sa0, sc0, rfl⟩ := owns_shape hown
  have hgB0 := grown_of_below (row := none) hbel
  have HOWN := Lib.hid hown; have HG23 := Lib.hid hgB0
  clear hown hbel hgB0 hnn cf
  go_upto_region 3 with fail
  obtain ⟨wB, hWB⟩ : ∃ wB, wB = w3.alloc (.cells #[.slice sa0 l.length sc0] 22) := ⟨_, rfl⟩
  have hg3B : w3.grownBy wB none := by rw [hWB]; exact World.grownBy_alloc _ _ _
  have hbm : wB.heap[w3.heap.size]? = some (.cells #[.slice sa0 l.length sc0] 22 (0, 0)) := by rw [hWB]; exact heap_alloc_new w3 _
  have hown2 : wB.ownsRow w2.heap.size 3 1 (.slice sa0 l.length sc0) l.length (nats l) := by rw [hWB]; exact HOWN.out.alloc _
  rw [← hWB]
  have hgAB := grownBy_trans' (grownBy_trans' HGA2.out HG23.out) hg3B
  have hg2B := grownBy_trans' HG23.out hg3B
  have hz23 := HG23.out.size
  have hgow := H.out.go_lt
  have hgoA : go < wA.heap.size := by omega
  have hRS : Rs wA wB w1.heap.size w3.heap.size wA.heap.size n l.length N (.slice sa0 l.length sc0) (List.replicate N false) l (some go) := by
    refine ⟨block_kept HBI.out hg2B (by simp), hbm, ownsRow_base hown2 (by omega), ⟨_, _, rfl⟩, HA2.out.kept hg2B (by simp), by simp, by simp, fun x hx hb => ?_, fun x hx => by rw [HN.out]; exact HLT.out x hx, ⟨by omega, by omega, Nat.le_refl _⟩, grownBy_weak hgAB⟩
    simp [List.getD, List.getElem?_replicate, hx] at hb
  have HRS := Lib.hid hRS
  have hgw := grownBy_trans' HGA.out hgAB
  have HSW := Lib.hid (H.out.kept hgw (by simp)); have HLW := Lib.hid (HL.out.kept hgw (by simp)); have HFW := Lib.hid (block_kept HFB.out hgAB (by simp)); have HRW := Lib.hid (block_kept HRB.out hgAB (by simp)); have HTW := Lib.hid (HT.out.kept hgw (by simp))
  have HBE := Lib.hid (grownBy_weak (row := some go) hgw)
  have hg1lt : 1 < w.heap.size := HT.out.1
  clear hWB hg3B hbm hown2 hgAB hg2B hRS hgw HOWN HG23 HBI HA2 HGA2 HFB HRB
  have cf := cell_block HFW.out 0 (by simp)
  simp only [List.getElem_toArray, List.getElem_cons_zero] at cf
  go_wp2
  go_loopg [26] l.length (fun gh i wr => ∃ (k : Nat) (mv : Value) (bs : List Bool) (lst : List Nat), gh + k = l.length ∧ i = .int .i64 k ∧ Rs wA wr w1.heap.size w3.heap.size wA.heap.size n l.length N mv bs lst (some go) ∧ SetsOk F C wr p go n tb ∧ w.grownBy wr (some go) ∧ TabOk wr ∧ wr.heap[w.heap.size]? = some (.cells #[.slice (some ⟨fb0, fo0, none⟩) l.length fc0, .bool d] 49 (0, 0)) ∧ wr.heap[w.heap.size + 1]? = some (.cells #[.slice none 0 0, .bool false] 49 (0, 0)) ∧ RMem n tb l k 0 lst)
  case atStart => exact ⟨0, _, _, l, rfl, rfl, HRS.out, HSW.out, HBE.out, HTW.out, HFW.out, HRW.out, RMem.start⟩
  case round =>
    clear HRS HSW HLW HFW HRW HTW HBE cf
    obtain ⟨k, mv, bs, lst, hg, rfl, hrs, hs, hgr, hT, hfb, hrb, hmem⟩ := hrel
    have HG := Lib.hid hg; have HRS := Lib.hid hrs; have HSK := Lib.hid hs; have HTK := Lib.hid hT; have HFK := Lib.hid hfb; have HRK := Lib.hid hrb; have HM := Lib.hid hmem
    have cf := cell_block hfb 0 (by simp)
    simp only [List.getElem_toArray, List.getElem_cons_zero] at cf
    clear hg hrs hs hT hfb hrb hmem
    by_cases hk : k < l.length
    · have hk' : (k : Int) < l.length := by omega
      have hlk := HL.out.kept hgr (by simp; omega)
      rcases hlk with ⟨_, _, e, e2⟩ | ⟨b1, o1, c1, e, _, _, _, _, hra⟩
      · exfalso
        have := congrArg List.length e2
        rw [nats_length, List.length_nil] at this
        omega
      simp only [Value.slice.injEq, Option.some.injEq, Addr.mk.injEq, and_true, nats_length] at e
      obtain ⟨⟨rfl, rfl⟩, -, rfl⟩ := e
      have ck := hra.nat k hk
      obtain ⟨a, ha⟩ : ∃ a, a = l.getD k 0 := ⟨_, rfl⟩
      have haN : a < 2 ^ n := by rw [ha]; exact getD_lt HLT.out hk
      rw [← ha] at ck
      have HAK := Lib.hid ha
      clear hra ha
      go_wp2
      go_loopg [33] l.length (fun gh i wr => ∃ (j : Nat) (mv : Value) (bs : List Bool) (lst : List Nat), gh + j = l.length ∧ i = .int .i64 j ∧ Rs wA wr w1.heap.size w3.heap.size wA.heap.size n l.length N mv bs lst (some go) ∧ SetsOk F C wr p go n tb ∧ w.grownBy wr (some go) ∧ TabOk wr ∧ wr.heap[w.heap.size]? = some (.cells #[.slice (some ⟨fb0, fo0, none⟩) l.length fc0, .bool d] 49 (0, 0)) ∧ wr.heap[w.heap.size + 1]? = some (.cells #[.slice none 0 0, .bool false] 49 (0, 0)) ∧ RMem n tb l k j lst)
      case atStart => exact ⟨0, mv, bs, lst, rfl, rfl, HRS.out, HSK.out, hgr, HTK.out, HFK.out, HRK.out, HM.out⟩
      case round =>
        clear HRS HSK HTK HFK HRK HM hgr cf ck
        obtain ⟨j, mv, bs, lst, hg, rfl, hrs, hs, hgr, hT, hfb, hrb, hmem⟩ := hrel
        have HGJ := Lib.hid hg; have HRS := Lib.hid hrs; have HSK := Lib.hid hs; have HTK := Lib.hid hT; have HFK := Lib.hid hfb; have HRK := Lib.hid hrb; have HM := Lib.hid hmem
        clear hg hrs hs hT hfb hrb hmem
        by_cases hj : j < l.length
        · have hj' : (j : Int) < l.length := by omega
          have hlk := HL.out.kept hgr (by simp; omega)
          rcases hlk with ⟨_, _, e, e2⟩ | ⟨b1, o1, c1, e, _, _, _, _, hra⟩
          · exfalso
            have := congrArg List.length e2
            rw [nats_length, List.length_nil] at this
            omega
          simp only [Value.slice.injEq, Option.some.injEq, Addr.mk.injEq, and_true, nats_length] at e
          obtain ⟨⟨rfl, rfl⟩, -, rfl⟩ := e
          have cj := hra.nat j hj
          obtain ⟨b, hb⟩ : ∃ b, b = l.getD j 0 := ⟨_, rfl⟩
          have hbN : b < 2 ^ n := by rw [hb]; exact getD_lt HLT.out hj
          rw [← hb] at cj
          have HBJ := Lib.hid hb
          clear hra hb
          go_wp2_with fail
          refine (product_any F C wr p go n tb a b HSK.out HTB.out.lt hn haN hbN HTK.out).mono ?_
          rintro e w4 ⟨rfl, m, rfl⟩
          have hpN : prodSet n tb a b < N := by rw [HN.out]; exact prodSet_lt HTB.out.lt _ _
          go_wp2_with fail
          refine (radd_any wA _ w1.heap.size w3.heap.size wA.heap.size n l.length N (prodSet n tb a b) mv bs lst (some go) hpN hN4 hll (HRS.out.quiet m hgoA)).mono ?_
          rintro e w5 ⟨rfl, bs5, mv5, lst5, hrs5, hm5, hb5⟩
          have hdr := grownBy_drewN wr m (some go)
          have hs5 := Lib.hid ((HSK.out.kept (grownBy_drewN wr m none) (by simp)).below hb5 (by omega))
          have ht5 := Lib.hid (TabOk.below (HTK.out.of_heap (w' := wr.drewN m) rfl) hb5 (by omega))
          have hf5 := Lib.hid ((hb5.block w.heap.size (by omega)).trans HFK.out)
          have hr5 := Lib.hid ((hb5.block (w.heap.size + 1) (by omega)).trans HRK.out)
          have hgr5 : Hid (w.grownBy w5 (some go)) := by
            have h1 := hrs5.fr
            exact Lib.hid (grownBy_trans' (grownBy_weak HGA.out) h1)
          have hmem5 := Lib.hid (HM.out.prod hj (lst' := lst5) (fun y => by rw [← HAK.out, ← HBJ.out]; exact hm5 y))
          have HRS5 := Lib.hid hrs5
          clear hm5 hb5 hrs5 hdr cj
          go_wp2
          go_roundg (l.length - (j + 1))
          case measure => have := HGJ.out; omega
          case rel => exact ⟨j + 1, mv5, bs5, lst5, by omega, by go_num, HRS5.out, hs5.out, hgr5.out, ht5.out, hf5.out, hr5.out, hmem5.out⟩
        · have hjl : j = l.length := by have := HGJ.out; omega
          have HJL := Lib.hid hjl
          clear hjl
          go_wp2_with fail
          refine (omega_any F C wr p go n tb a HSK.out HTB.out hn haN HTK.out).mono ?_
          rintro e w4 ⟨rfl, hs4, hg4⟩
          have hoN : omegaSet n tb a < N := by rw [HN.out]; exact omegaSet_lt HTB.out haN
          have hrs4 := HRS.out.kept hg4 hgoA
          have ht4 := Lib.hid (HTK.out.kept hg4 (fun e => by have : go = 1 := Option.some.inj e; have := HSK.out.go_lt; omega))
          have hf4 := Lib.hid (block_kept HFK.out hg4 (fun e => by have : go = w.heap.size := Option.some.inj e; omega))
          have hr4 := Lib.hid (block_kept HRK.out hg4 (fun e => by have : go = w.heap.size + 1 := Option.some.inj e; omega))
          have HS4 := Lib.hid hs4
          clear hs4 hg4
          go_wp2_with fail
          refine (radd_any wA w4 w1.heap.size w3.heap.size wA.heap.size n l.length N (omegaSet n tb a) mv bs lst (some go) hoN hN4 hll hrs4).mono ?_
          rintro e w5 ⟨rfl, bs5, mv5, lst5, hrs5, hm5, hb5⟩
          have hs5 := Lib.hid (HS4.out.below hb5 (by omega))
          have ht5 := Lib.hid (ht4.out.below hb5 (by omega))
          have hf5 := Lib.hid ((hb5.block w.heap.size (by omega)).trans hf4.out)
          have hr5 := Lib.hid ((hb5.block (w.heap.size + 1) (by omega)).trans hr4.out)
          have hgr5 : Hid (w.grownBy w5 (some go)) := Lib.hid (grownBy_trans' (grownBy_weak HGA.out) hrs5.fr)
          have hmem5 := Lib.hid (RMem.omega (by have := HM.out; rw [HJL.out] at this; exact this) hk (lst' := lst5) (fun y => by rw [← HAK.out]; exact hm5 y))
          have HRS5 := Lib.hid hrs5
          clear hm5 hb5 hrs5 hrs4
          go_wp2
          go_roundg (l.length - (k + 1))
          case measure => have := HG.out; omega
          case rel => exact ⟨k + 1, mv5, bs5, lst5, by omega, by go_num, HRS5.out, hs5.out, hgr5.out, ht5.out, hf5.out, hr5.out, hmem5.out⟩
    · have hkl : k = l.length := by have := HG.out; omega
      have hmx : Hid (maxOf n lst = roundSets n tb l) := by
        have := HM.out
        rw [hkl] at this
        exact Lib.hid (maxOf_congr this.end_)
      clear hkl
      have cm := cell_block HRS.out.box2 0 (by simp)
      simp only [List.getElem_toArray, List.getElem_cons_zero] at cm
      have hzr := hgr.size
      have hzA3 := HRS.out.fr.size
      go_wp2_with fail
      refine (maximal_any F C wr p go n tb mv wr.heap.size lst HSK.out hn (Row.of_owns HRS.out.own) (fun b hb => by rw [← HN.out]; exact HRS.out.lt b hb) (Nat.le_refl _)).mono ?_
      rintro e w4 ⟨sa4, sc4, rfl, hown4, hg4⟩
      rw [hmx.out] at hown4 ⊢
      have hR1 := maxOf_le n lst
      rw [hmx.out, ← HN.out] at hR1
      have hR0 := round_ne HTB.out HLT.out h0
      obtain ⟨R, hR⟩ : ∃ R, R = roundSets n tb l := ⟨_, rfl⟩
      rw [← hR] at hown4 hR1 hR0 ⊢
      have HRR := Lib.hid hR
      obtain ⟨kb, rfl, hsc1, hsc2, harr4⟩ := owns_some hown4 hR0
      have hgr4 := grown_far hgr hg4 (by simp)
      have hf4 := block_kept HFK.out hg4 (by simp)
      have hr4 := block_kept HRK.out hg4 (by simp)
      have cf4 := cell_block hf4 0 (by simp)
      simp only [List.getElem_toArray, List.getElem_cons_zero] at cf4
      have hlk := HL.out.kept hgr4 (by simp; omega)
      rcases hlk with ⟨_, _, e, e2⟩ | ⟨b1, o1, c1, e, _, _, _, _, hra⟩
      · exfalso
        have := congrArg List.length e2
        rw [nats_length, List.length_nil] at this
        omega
      simp only [Value.slice.injEq, Option.some.injEq, Addr.mk.injEq, and_true, nats_length] at e
      obtain ⟨⟨rfl, rfl⟩, -, rfl⟩ := e
      have heq := Tryd.slices_Equal_int kb 0 R.length sc4 fb0 fo0 l.length fc0 (R.map fun (x : Nat) => (x : Int)) (l.map fun (x : Nat) => (x : Int)) w4 (by simp) (by simp) (by omega) (by omega)
        (fun j hj => by
          have hj' : j < R.length := by simpa using hj
          rw [Nat.zero_add, harr4.nat j hj']; simp [List.getD, hj'])
        (fun j hj => by
          have hj' : j < l.length := by simpa using hj
          rw [hra.nat j hj']; simp [List.getD, hj'])
      rw [List.take_of_length_le (by simp), List.take_of_length_le (by simp), cast_inj] at heq
      have HEQ := Lib.hid heq; have HO4 := Lib.hid hown4; have HS4 := Lib.hid (HSK.out.kept hg4 (by simp)); have HR4 := Lib.hid hr4
      have cr0 := cell_block hr4 0 (by simp)
      have cr1 := cell_block hr4 1 (by simp)
      have fr0 := frozen_block hr4 0
      have fr1 := frozen_block hr4 1
      simp only [List.getElem_toArray, List.getElem_cons_zero, List.getElem_cons_succ] at cr0 cr1
      have hz4 := hg4.size
      clear hmx heq hown4 hr4 hf4 hra harr4 hR cm
      go_wp2_with fail
      refine HEQ.out.mono ?_
      rintro e w5 ⟨rfl, m, rfl⟩
      go_wp2
      have hg5 : w4.grownBy (((w4.drewN m).setCell ⟨w.heap.size + 1, 0, none⟩ (.slice (some ⟨kb, 0, none⟩) R.length sc4)).setCell ⟨w.heap.size + 1, 1, none⟩ (.bool (decide (R = l)))) (some (w.heap.size + 1)) :=
        grownBy_trans' (grownBy_trans' (grownBy_drewN w4 m _) (grownBy_setCell (w4.drewN m) ⟨w.heap.size + 1, 0, none⟩ _)) (grownBy_setCell ((w4.drewN m).setCell ⟨w.heap.size + 1, 0, none⟩ (.slice (some ⟨kb, 0, none⟩) R.length sc4)) ⟨w.heap.size + 1, 1, none⟩ _)
      refine bodyPost_ret (v := .agg #[.slice (some ⟨kb, 0, none⟩) R.length sc4, .bool (decide (R = l))]) (by simp [results, Tryd.results49, go_sem, cr0, cr1]) rfl ?_
      rw [HRR.out] at *
      exact ⟨some ⟨kb, 0, none⟩, sc4, rfl, ownsRow_base (ownsRow_kept HO4.out hg5 (fun q e => by have : w.heap.size + 1 = q := Option.some.inj e; omega)) (by omega), HS4.out.kept hg5 (fun q e => by have : w.heap.size + 1 = q := Option.some.inj e; omega), grown_far hgr4 hg5 (fun q e => by have : w.heap.size + 1 = q := Option.some.inj e; omega)⟩
end Go.Proofs.YtdjhoadoiknaoaaDoor
