/- Part 12 of the proof: Round, Shelf. -/
import Derived.Test.YtdjhoadoiknaoaaDoorSp11
import Derived.Shelf.Slices.Equal
import Derived.Ground.Names2Prog
import Derived.Shelf.Slices.Clone
import Derived.Shelf.Slices.Empties2
import Derived.Test.YtdjhoadoiknaoaaDoorProg
set_option linter.unusedVariables false
set_option linter.unusedSimpArgs false
namespace Go.Proofs.YtdjhoadoiknaoaaDoor
open Go.RowKit
structure Rs (w0 w : World) (bi bm g n M N : Nat) (mv : Value) (bs : List Bool) (lst : List Nat) (row : Option Nat) : Prop where
  box1 : w.heap[bi]? = some (.cells #[.slice (some ⟨g, 0, none⟩) N N] 25 (0, 0))
  box2 : w.heap[bm]? = some (.cells #[mv] 22 (0, 0))
  own : w.ownsRow w0.heap.size 3 1 mv lst.length (nats lst)
  shape : ∃ sa sc, mv = .slice sa lst.length sc
  arr : Arr w g 4 (bls bs)
  len : bs.length = N
  cnt : lst.length ≤ M + bs.count true
  mem : ∀ x, x < N → bs.getD x false = true → x ∈ lst
  lt : ∀ x ∈ lst, x < N
  lo : w0.heap.size ≤ bi ∧ w0.heap.size ≤ bm ∧ w0.heap.size ≤ g
  fr : w0.grownBy w row
theorem Rs.len_le {w0 w : World} {bi bm g n M N : Nat} {mv : Value} {bs : List Bool} {lst : List Nat} {row : Option Nat} (h : Rs w0 w bi bm g n M N mv bs lst row) : lst.length ≤ M + N := by
  have h1 := h.cnt
  have h2 : bs.count true ≤ bs.length := List.count_le_length
  have := h.len
  omega
def RAdded (w0 w : World) (bi bm g n M N : Nat) (lst : List Nat) (row : Option Nat) (x : Nat) (e : Ending) (w' : World) : Prop :=
  e = .returned (.tuple #[]) ∧ ∃ bs' mv' lst', Rs w0 w' bi bm g n M N mv' bs' lst' row ∧ (∀ y, y ∈ lst' ↔ y ∈ lst ∨ y = x) ∧ Below w0.heap.size w w'
theorem count_set_true' {bs : List Bool} {x : Nat} (hx : x < bs.length) (h : bs.getD x false = false) : (bs.set x true).count true = bs.count true + 1 := by
  rw [List.count_set hx]
  have : bs[x] = false := by simpa [List.getD, List.getElem?_eq_getElem hx] using h
  simp [this]
set_option maxHeartbeats 400000 in
theorem radd_any (w0 w : World) (bi bm g n M N x : Nat) (mv : Value) (bs : List Bool) (lst : List Nat) (row : Option Nat) (hx : x < N) (hn : N ≤ 4096) (hM : M ≤ 1000000) (h : Rs w0 w bi bm g n M N mv bs lst row) :
    Calls Tryd.prog 89 #[.int .i64 (x : Int), .pointer (some ⟨bi, 0, none⟩), .pointer (some ⟨bm, 0, none⟩)] w (RAdded w0 w bi bm g n M N lst row x) := by
  have H := Lib.hid h
  have hml := h.len_le
  obtain ⟨sa, sc, rfl⟩ := h.shape
  have ci := cell_block h.box1 0 (by simp)
  have cx := h.arr.bool x (by rw [h.len]; exact hx)
  have fx := h.arr.frozen x
  simp only [List.getElem_toArray, List.getElem_cons_zero] at ci
  have hx' : (x : Int) < N := by omega
  clear h
  cases hb : bs.getD x false
  · rw [hb] at cx
    have HB := Lib.hid hb; clear hb
    have hset := H.out.arr.bool_set x (by rw [H.out.len]; exact hx) true
    have hgs1 := grownBy_setCell w ⟨g, x, none⟩ (.bool true)
    go_enter Tryd.func89, Tryd.ntmps89
    go_upto_region 2 with fail
    generalize hW : w.setCell ⟨g, x, none⟩ (.bool true) = w1 at hset hgs1
    have HW := Lib.hid hW
    have hlo := H.out.lo
    have hg1 := grown_far H.out.fr hgs1 (by simp; omega)
    have hb2 := H.out.box2
    have hown := H.out.own
    have hb2' := block_kept hb2 hgs1 (fun e => by
      have := Option.some.inj e
      exact (H.out.arr.type_ne hb2 (by decide)) this)
    have hb1' := block_kept H.out.box1 hgs1 (fun e => (H.out.arr.type_ne H.out.box1 (by decide)) (Option.some.inj e))
    have hown' := hown.kept hgs1 (.inr (fun e => by
      obtain ⟨cur, rest, hh, _⟩ := H.out.arr
      exact owns_ne hown hh (by decide) e))
    have cm := cell_block hb2' 0 (by simp)
    simp only [List.getElem_toArray, List.getElem_cons_zero] at cm
    have HB1 := Lib.hid hb1'; have HB2 := Lib.hid hb2'; have HSET := Lib.hid hset; have HGS := Lib.hid hgs1
    clear hW ci cx fx hset hgs1 hb2 hown hb1' hb2'
    go_wp2_with (at_builtin; refine app1 rfl _ _ _ rfl elem_int w0.heap.size _ lst.length (nats lst) rfl hown' _ rfl rfl ?c1 ?c2 ?c3 ?_)
    case c1 => unfold maxLen; omega
    case c2 => omega
    case c3 => exact hg1.size
    intro sa' sc' w3 hown3 hg3 hlt3
    have hne2 := owns_ne hown' HB2.out (by decide)
    have hb23 := block_kept HB2.out hg3 hne2
    have hf3 := frozen_block hb23 0
    have hc3 := cell_block hb23 0 (by simp)
    simp only [List.getElem_toArray, List.getElem_cons_zero] at hc3
    have hb13 := block_kept HB1.out hg3 (owns_ne hown' HB1.out (by decide))
    have hset3 := HSET.out.kept hg3 (by
      obtain ⟨cur, rest, hh, _⟩ := HSET.out
      exact owns_ne hown' hh (by decide))
    have hg03 := grown_far hg1 hg3 (fun k e => (hown'.lt k e).1)
    have hlow := fun k e => (hown'.lt k e).1
    have H13 := Lib.hid hb13; have H23 := Lib.hid hb23; have HS3 := Lib.hid hset3; have HO3 := Lib.hid hown3; have HG3 := Lib.hid hg3; have HLOW := Lib.hid hlow
    clear hb13 hb23 hset3 hown3 hg3 hown' cm hlow
    go_wp2
    go_end0
    have hgs := grownBy_setCell w3 ⟨bm, 0, none⟩ (.slice sa' (lst.length + 1) sc')
    have hz1 := HGS.out.size
    refine ⟨rfl, bs.set x true, .slice sa' (lst.length + 1) sc', lst ++ [x], ⟨?_, heap_setCell_same w3 bm 0 _ _ _ H23.out, ?_, ⟨sa', sc', by simp⟩, ?_, by rw [List.length_set]; exact H.out.len, ?_, fun y hy hyb => ?_, fun y hy => ?_, hlo, grown_far hg03 hgs (by simp; omega)⟩, fun y => by simp, ⟨?_, ?_, ?_, Nat.le_trans hz1 (Nat.le_trans HG3.out.size hgs.size), fun k hk => ?_⟩⟩
    · refine block_kept H13.out hgs (fun e => ?_)
      have e' := Option.some.inj e
      have h1 := H13.out
      rw [← e', H23.out] at h1
      simp at h1
    · rw [List.length_append, nats_snoc]
      exact HO3.out.kept hgs (.inr (owns_ne HO3.out H23.out (by decide)))
    · exact HS3.out.kept hgs (fun e => (HS3.out.type_ne H23.out (by decide)) (Option.some.inj e).symm)
    · rw [List.length_append, count_set_true' (by rw [H.out.len]; exact hx) HB.out]
      have := H.out.cnt
      simp; omega
    · rw [List.mem_append]
      by_cases e : x = y
      · subst e; exact .inr (by simp)
      · rw [getD_set_ne _ _ _ _ _ e] at hyb
        exact .inl (H.out.mem y hy hyb)
    · rcases List.mem_append.1 hy with hy | hy
      · exact H.out.lt y hy
      · simp at hy; omega
    · exact hgs.os.trans (HG3.out.os.trans HGS.out.os)
    · exact hgs.tape.trans (HG3.out.tape.trans HGS.out.tape)
    · exact hgs.output.trans (HG3.out.output.trans HGS.out.output)
    · have hs0 := H.out.fr.size
      exact (hgs.block k (by have := HG3.out.size; omega) (fun e => by have : k = bm := Option.some.inj e; omega)).trans ((HG3.out.block k (by omega) (fun e => by have := HLOW.out k e.symm; omega)).trans (HGS.out.block k (by omega) (fun e => by have : k = g := Option.some.inj e; omega)))
  · rw [hb] at cx
    have HB := Lib.hid hb; clear hb
    go_enter Tryd.func89, Tryd.ntmps89
    go_wp2
    go_end0
    refine ⟨rfl, bs, _, lst, H.out, fun y => ⟨.inl, fun h => h.elim id (fun e => by rw [e]; exact H.out.mem x hx HB.out)⟩, Below.refl _ _⟩
end Go.Proofs.YtdjhoadoiknaoaaDoor

namespace Go.Proofs
open Go.Shelf
def Tryd.lays111_ren : Go.Shelf.Ren := ⟨fun | 111 => 90 | n => n, fun | 28 => 22 | 3 => 3 | 4 => 4 | 0 => 0 | n => n, fun | n => n⟩
theorem Tryd.lays111 : Go.Proofs.Lays.n111 Tryd.prog Tryd.lays111_ren := {
  mixed := by kernel_rfl
  f111 := Tryd.func90.trans (congrArg some (by kernel_rfl))
  t0 := Tryd.underlying0
  a0 := Tryd.isAgg0
  z0 := Tryd.sizeOf0
  v0 := Tryd.zeroValue0
  t3 := Tryd.underlying3
  a3 := Tryd.isAgg3
  z3 := Tryd.sizeOf3
  v3 := Tryd.zeroValue3
  t4 := Tryd.underlying4
  a4 := Tryd.isAgg4
  z4 := Tryd.sizeOf4
  v4 := Tryd.zeroValue4
  t28 := Tryd.underlying22
  a28 := Tryd.isAgg22
  z28 := Tryd.sizeOf22
  v28 := Tryd.zeroValue22 }
open Go.RowKit Go.Lib in
theorem Tryd.slices_Equal_int (b1 o1 n c b2 o2 m d : Nat) (xs ys : List Int) (w : World) (hx : n ≤ xs.length) (hy : m ≤ ys.length) (hbig : n ≤ 9223372036854775807) (hbig2 : m ≤ 9223372036854775807) (hc1 : ∀ j, j < xs.length → w.cell? ⟨b1, o1 + j, none⟩ = some (.int .i64 (xs.getD j 0))) (hc2 : ∀ j, j < ys.length → w.cell? ⟨b2, o2 + j, none⟩ = some (.int .i64 (ys.getD j 0))) :
    Calls Tryd.prog 90 #[.slice (some ⟨b1, o1, none⟩) n c, .slice (some ⟨b2, o2, none⟩) m d] w fun e w' => e = .returned (.bool (xs.take n == ys.take m)) ∧ ∃ q, w' = w.drewN q := Any.slices_Equal_int Tryd.lays111 b1 o1 n c b2 o2 m d xs ys w hx hy hbig hbig2 hc1 hc2
def Tryd.laysNm215_ren : Go.Shelf.Ren := ⟨fun | 15 => 65 | n => n, fun | 22 => 22 | 3 => 3 | 4 => 4 | n => n, fun | n => n⟩
theorem Tryd.laysNm215 : Go.Proofs.Lays2.n15 Tryd.prog Tryd.laysNm215_ren := {
  mixed := by kernel_rfl
  f15 := Tryd.func65.trans (congrArg some (by kernel_rfl))
  t3 := Tryd.underlying3
  a3 := Tryd.isAgg3
  z3 := Tryd.sizeOf3
  v3 := Tryd.zeroValue3
  t4 := Tryd.underlying4
  a4 := Tryd.isAgg4
  z4 := Tryd.sizeOf4
  v4 := Tryd.zeroValue4
  t22 := Tryd.underlying22
  a22 := Tryd.isAgg22
  z22 := Tryd.sizeOf22
  v22 := Tryd.zeroValue22
  i3 := by kernel_rfl }
open Go.RowKit Go.Lib in
theorem Tryd.slices_Clone_int (b off n c : Nat) (zs : List Int) (w : World) (hz : n ≤ zs.length) (hbig : n * 8 ≤ 140737488355328) (hc : ∀ j, j < zs.length → w.cell? ⟨b, off + j, none⟩ = some (.int .i64 (zs.getD j 0))) :
    Calls Tryd.prog 65 #[.slice (some ⟨b, off, none⟩) n c] w fun e w' => ∃ v', e = .returned v' ∧ w'.ownsRow w.heap.size 3 1 v' n ((zs.take n).map (Value.int .i64)) ∧ v' ≠ .slice none 0 0 ∧ Below w.heap.size w w' := Any.slices_Clone_int Tryd.laysNm215 b off n c zs w hz hbig hc
end Go.Proofs
