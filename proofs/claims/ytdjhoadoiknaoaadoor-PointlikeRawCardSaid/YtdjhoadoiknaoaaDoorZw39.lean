/- Part 39 of the proof: DerAdd. -/
import Derived.Test.YtdjhoadoiknaoaaDoorZw38
import Derived.StillTailTactics
set_option linter.unusedVariables false
set_option linter.unusedSimpArgs false
namespace Go.Proofs.YtdjhoadoiknaoaaDoor
open Go.RowKit
def DerF (C dp g go : Nat) (w : World) (k : Nat) : Prop := k = dp ∨ k = g ∨ k = go ∨ (C ≤ k ∧ ∃ c m, w.heap[k]? = some (.cells c 60 m))
theorem derF_trans {C dp g go : Nat} {w w' w'' : World} (h : GrownBut w w' (DerF C dp g go w)) (k : GrownBut w' w'' (DerF C dp g go w')) : GrownBut w w'' (DerF C dp g go w) where
  os := k.os.trans h.os
  tape := k.tape.trans h.tape
  output := k.output.trans h.output
  size := Nat.le_trans h.size k.size
  block := fun j hj hf => by
    have h1 := h.block j hj hf
    rw [← h1]
    refine k.block j (Nat.lt_of_lt_of_le hj h.size) fun hk => hf ?_
    rcases hk with e | e | e | ⟨hc, c, m, e⟩
    · exact .inl e
    · exact .inr (.inl e)
    · exact .inr (.inr (.inl e))
    · rw [h1] at e; exact .inr (.inr (.inr ⟨hc, c, m, e⟩))
theorem derF_of {C dp g go : Nat} {w w' : World} {row : Option Nat} (h : w.grownBy w' row) (hr : ∀ k, row = some k → DerF C dp g go w k ∨ w.heap.size ≤ k) : GrownBut w w' (DerF C dp g go w) := (GrownBut.refl w _).step h hr
structure DerAt (C : Nat) (w : World) (dp p g n : Nat) (ss : List StepV) (ix : List Nat) : Prop where
  box : ∃ sa sc, w.heap[dp]? = some (.cells #[.pointer (some ⟨p, 0, none⟩), .slice sa ss.length sc, .slice (some ⟨g, 0, none⟩) (2 ^ n) (2 ^ n)] 95 (0, 0)) ∧ w.ownsRow C 60 5 (.slice sa ss.length sc) ss.length (stepVals ss)
  arr : Arr w g 3 (nats ix)
  len : ix.length = 2 ^ n
  lo : C ≤ dp ∧ C ≤ g
theorem DerAt.grown {C dp p g n : Nat} {w w' : World} {ss : List StepV} {ix : List Nat} {row : Option Nat} (h : DerAt C w dp p g n ss ix) (hg : w.grownBy w' row) (hr : ∀ k, row = some k → k < C) : DerAt C w' dp p g n ss ix := by
  obtain ⟨sa, sc, hb, ho⟩ := h.box
  have hk : ∀ k, C ≤ k → row ≠ some k := fun k hk e => by have := hr k e; omega
  exact ⟨⟨sa, sc, block_kept hb hg (hk _ h.lo.1), ho.kept hg (by
    rcases hv : (Value.slice sa ss.length sc).ownBlock with _ | k
    · exact .inl rfl
    · exact .inr (by have := (ho.lt k hv).1; exact fun e => hk k this e.symm))⟩, h.arr.kept hg (hk _ h.lo.2), h.len, h.lo⟩
def DAddOk (C : Nat) (w : World) (dp p g n : Nat) (ss : List StepV) (ix : List Nat) (st : StepV) (x : Nat) (e : Ending) (w' : World) : Prop :=
  e = .returned (.tuple #[]) ∧ DerAt C w' dp p g n (addS ss ix st x).1 (addS ss ix st x).2 ∧ GrownBut w w' (DerF C dp g dp w)
theorem derF_below {C dp g : Nat} {w w' : World} (h : GrownBut w w' (DerF C dp g dp w)) (h1 : C ≤ dp) (h2 : C ≤ g) (h3 : C ≤ w.heap.size) : Below C w w' :=
  ⟨h.os, h.tape, h.output, h.size, fun k hk => h.block k (by omega) (fun hf => by
    rcases hf with e | e | e | ⟨e, _⟩ <;> omega)⟩
theorem GrownBut.weak {w w' : World} {F G : Nat → Prop} (h : GrownBut w w' F) (hFG : ∀ k, F k → G k) : GrownBut w w' G := ⟨h.os, h.tape, h.output, h.size, fun k hk hn => h.block k hk (fun hf => hn (hFG k hf))⟩
theorem derF_go {C dp g go : Nat} {w : World} {k : Nat} (h : DerF C dp g dp w k) : DerF C dp g go w k := by
  rcases h with e | e | e | e
  · exact .inl e
  · exact .inr (.inl e)
  · exact .inl e
  · exact .inr (.inr (.inr e))
theorem derBox_cells {w : World} {p e : Nat} {x0 x1 x2 : Value} (h : w.heap[p]? = some (.cells #[x0, x1, x2] e (0, 0))) : w.cell? ⟨p, 0, none⟩ = some x0 ∧ w.cell? ⟨p, 1, none⟩ = some x1 ∧ w.cell? ⟨p, 2, none⟩ = some x2 := by
  have c0 := cell_block h 0 (by simp)
  have c1 := cell_block h 1 (by simp)
  have c2 := cell_block h 2 (by simp)
  exact ⟨by simpa using c0, by simpa using c1, by simpa using c2⟩
structure DAft (C : Nat) (w W9 : World) (dp p g o N : Nat) (ss : List StepV) (ix : List Nat) (st : StepV) (sa8 : Option Addr) (sc8 : Nat) : Prop where
  box : W9.heap[dp]? = some (.cells #[.pointer (some ⟨p, 0, none⟩), .slice sa8 (ss.length + 1) sc8, .slice (some ⟨g, 0, none⟩) N N] 95 (0, 0))
  own : W9.ownsRow C 60 5 (.slice sa8 (ss.length + 1) sc8) (ss.length + 1) (stepVals (ss ++ [st]))
  arr : Arr W9 g 3 (nats ix)
  st_ : W9.heap[o]? = some (.cells #[.int .i64 st.op, .int .i64 st.a, .int .i64 st.b, .string st.word, .int .i64 st.set] 60 (0, 0))
  but : GrownBut w W9 (DerF C dp g dp w)
theorem daft {C : Nat} {w wb W W8 : World} {dp p g o N : Nat} {ss : List StepV} {ix : List Nat} {st : StepV} {sa sa8 : Option Addr} {sc sc8 : Nat} (hw : w.grownBy wb none)
    (hb : wb.heap[dp]? = some (.cells #[.pointer (some ⟨p, 0, none⟩), .slice sa ss.length sc, .slice (some ⟨g, 0, none⟩) N N] 95 (0, 0)))
    (ho : w.ownsRow C 60 5 (.slice sa ss.length sc) ss.length (stepVals ss)) (ha : Arr wb g 3 (nats ix)) (ho1 : w.heap.size ≤ o)
    (hs : wb.heap[o]? = some (.cells #[.int .i64 st.op, .int .i64 st.a, .int .i64 st.b, .string st.word, .int .i64 st.set] 60 (0, 0)))
    (h8 : W.grownBy W8 (Value.slice sa ss.length sc).ownBlock) (h7 : wb.grownBy W none) (hown : W8.ownsRow C 60 5 (.slice sa8 (ss.length + 1) sc8) (ss.length + 1) (stepVals ss ++ st.vals)) :
    DAft C w (W8.setCell ⟨dp, 1, none⟩ (.slice sa8 (ss.length + 1) sc8)) dp p g o N ss ix st sa8 sc8 := by
  have hoW := ownsRow_keptN (ownsRow_keptN ho hw) h7
  have hbW := block_kept hb h7 (by simp)
  have hb8 := block_kept hbW h8 (owns_ne hoW hbW (by decide))
  have ha7 := ha.kept h7 (by simp)
  have ha8 := ha7.kept h8 (by
    obtain ⟨cur, rest, hh, _⟩ := ha7
    exact owns_ne hoW hh (by decide))
  have hdg : g ≠ dp := ha8.type_ne hb8 (by decide)
  have hsl := lt_of_block hs
  have hno : (Value.slice sa ss.length sc).ownBlock ≠ some o := fun e => by
    have := (ho.lt o e).2; omega
  have hs8 := block_kept (block_kept hs h7 (by simp)) h8 hno
  have hgs := grownBy_setCell W8 ⟨dp, 1, none⟩ (.slice sa8 (ss.length + 1) sc8)
  have hod : o ≠ dp := by
    rintro rfl
    rw [hs] at hb
    simp at hb
  refine ⟨heap_setCell_same W8 dp 1 _ _ _ hb8, ?_, ha8.kept hgs (fun e => hdg (Option.some.inj e).symm), block_kept hs8 hgs (fun e => hod (Option.some.inj e).symm), ?_⟩
  · rw [stepVals_snoc]
    exact hown.kept hgs (.inr (owns_ne hown hb8 (by decide)))
  · refine ((((GrownBut.refl w _).step hw (by simp)).step h7 (by simp)).step h8 fun k hk => ?_).step hgs fun k hk => .inl (.inl (Option.some.inj hk).symm)
    rcases ho.2 with ⟨e, _⟩ | ⟨gg, cap, cur, e, hc, hg, _⟩
    · simp only [Value.slice.injEq] at e
      obtain ⟨rfl, _, _⟩ := e
      simp [Value.ownBlock] at hk
    · rw [e] at hk
      have hk : gg = k := by simpa [Value.ownBlock] using hk
      subst hk
      exact .inl (.inr (.inr (.inr ⟨hc, _, _, hg⟩)))
set_option maxRecDepth 100000 in
set_option maxHeartbeats 1000000 in
theorem dadd_any (C : Nat) (w : World) (dp p g n : Nat) (ss : List StepV) (ix : List Nat) (st : StepV) (x : Nat) (h : DerAt C w dp p g n ss ix) (hle : ss.length ≤ 4096) (hx : x < 2 ^ n) (e : st.set = (x : Int)) (hn : n ≤ 12) (hC : C ≤ w.heap.size) :
    Calls Tryd.prog 100 #[.pointer (some ⟨dp, 0, none⟩), .agg #[.int .i64 st.op, .int .i64 st.a, .int .i64 st.b, .string st.word, .int .i64 st.set]] w (DAddOk C w dp p g n ss ix st x) := by
  obtain ⟨op, sa0, sb0, wd, set0⟩ := st
  have e : set0 = (x : Int) := e
  subst e
  have hlo := h.lo
  have hlen := h.len
  obtain ⟨sa, sc, hbx, how⟩ := h.box
  have harr := h.arr
  obtain ⟨N, hN⟩ : ∃ N, N = 2 ^ n := ⟨_, rfl⟩
  have hN4 : N ≤ 4096 := by have := pow_le hn; omega
  rw [← hN] at hbx hlen hx
  have hdl := lt_of_block hbx
  have hgl := harr.lt
  obtain ⟨wb, hwb⟩ : ∃ W, W = w.alloc (.cells #[.int .i64 op, .int .i64 sa0, .int .i64 sb0, .string wd, .int .i64 (x : Int)] 60) := ⟨_, rfl⟩
  have hgb : w.grownBy wb none := by rw [hwb]; exact World.grownBy_alloc w _ none
  have hbb := heap_alloc_new w (.cells #[.int .i64 op, .int .i64 sa0, .int .i64 sb0, .string wd, .int .i64 (x : Int)] 60)
  rw [← hwb] at hbb
  obtain ⟨o, ho⟩ : ∃ o, o = w.heap.size := ⟨_, rfl⟩
  rw [← ho] at hbb
  have hop : C ≤ o := by omega
  have hzb := hgb.size
  have hbx1 := block_kept hbx hgb (by simp)
  have harr1 := harr.kept hgb (by simp)
  have how1 := ownsRow_keptN how hgb
  have HWB := Lib.hid hwb; have HO := Lib.hid ho; have HN := Lib.hid hN; have HLEN := Lib.hid hlen
  have HOW0 := Lib.hid how; have HBX := Lib.hid hbx1; have HARR := Lib.hid harr1; have HOW := Lib.hid how1; have HBB := Lib.hid hbb; have HGB := Lib.hid hgb
  have H := Lib.hid h
  clear hwb ho hN hbx harr how h hgb
  obtain ⟨d0, d1, d2⟩ := derBox_cells hbx1
  obtain ⟨b0, b1, b2, b3, b4⟩ := box5_cells hbb
  have hx' : (x : Int) < N := by omega
  have cx := harr1.nat x (by rw [hlen]; exact hx)
  obtain ⟨X, hX⟩ : ∃ X, X = ix.getD x 0 := ⟨_, rfl⟩
  rw [← hX] at cx
  have HX := Lib.hid hX
  obtain ⟨z5, by5, hE5, hby5⟩ := elem_step
  have HE5 := Lib.hid hE5
  have HOL : Hid (∀ W : World, wb.grownBy W none → W.ownsRow C 60 5 (.slice sa ss.length sc) ss.length (stepVals ss)) := Lib.hid (fun W hW => ownsRow_keptN how1 hW)
  have HB8 : Hid (∀ W W8 : World, W.grownBy W8 (Value.slice sa ss.length sc).ownBlock → wb.grownBy W none → W8.heap[dp]? = some (.cells #[.pointer (some ⟨p, 0, none⟩), .slice sa ss.length sc, .slice (some ⟨g, 0, none⟩) N N] 95 (0, 0)) ∧ W8.grownBy W8 none) := Lib.hid (fun W W8 h1 h2 => by
    have hb7 := block_kept HBX.out h2 (by simp)
    exact ⟨block_kept hb7 h1 (owns_ne (HOL.out _ h2) hb7 (by decide)), grownBy_refl _ _⟩)
  have hbyn : (ss.length + 1) * by5 ≤ 4097 * 64 := Nat.mul_le_mul (by omega) hby5
  clear hX hbx1 harr1 how1 hbb hlen hE5 hby5
  go_enter Tryd.func100, Tryd.ntmps100
  go_upto_region 1 with fail
  rw [← HWB.out, ← HO.out]
  by_cases hz : X = 0
  · have hzd : ((X : Int) == 0) = true := by rw [hz]; rfl
    have HZ : Hid (ix.getD x 0 = 0) := Lib.hid (by rw [← HX.out]; exact hz)
    clear hz
    go_quiet (fail)
    go_wp2
    have d1q := (derBox_cells (block_kept HBX.out (grown_alloc (grownBy_drewN wb (nq + 1) none) (.cells #[.int .i64 op, .int .i64 sa0, .int .i64 sb0, .string wd, .int .i64 (x : Int)] 60)) (by simp))).2.1
    go_region_law (first | (refine step_app5 rfl (.tmp 17) (.tmp 19) 56 rfl HE5.out C _ ss.length (stepVals ss) rfl (HOL.out _ (grown_alloc (grownBy_drewN wb _ none) _)) ⟨op, sa0, sb0, wd, (x : Int)⟩ wb.heap.size rfl (0, 0) (heap_alloc_new (wb.drewN _) _) ?g1 ?g2 ?g3 ?_; (case g1 => (unfold maxLen; omega)); (case g2 => omega); (case g3 => (simp; omega)); intro sa8 sc8 w8 hown8 hg8; have hbx8 := (HB8.out _ _ hg8 (grown_alloc (grownBy_drewN wb _ none) _)).1; have d81 := (derBox_cells hbx8).2.1; have f81 := frozen_block hbx8 1) | fail)
    all_goals
      have hA := daft (ss := ss) (st := ⟨op, sa0, sb0, wd, (x : Int)⟩) HGB.out HBX.out HOW0.out HARR.out (Nat.le_of_eq HO.out.symm) HBB.out hg8 (grown_alloc (grownBy_drewN wb _ none) _) hown8
      obtain ⟨w9, hw9⟩ : ∃ w9, w9 = w8.setCell ⟨dp, 1, none⟩ (.slice sa8 (ss.length + 1) sc8) := ⟨_, rfl⟩
      rw [← hw9] at hA ⊢
      have HA := Lib.hid hA
      have hcs := derBox_cells hA.box
      have p1 := hcs.2.1; have p2 := hcs.2.2
      have pc := (box5_cells hA.st_).2.2.2.2
      have pg := hA.arr.nat x (by rw [HLEN.out]; exact hx)
      have pf := hA.arr.frozen x
      clear hA hw9 hown8 hg8 hcs d1q d0 d1 d2 b0 b1 b2 b3 b4 cx hbx8 d81 f81
      go_upto_region 3 with fail
      go_still_tail 12, (by kernel_rfl)
      all_goals
        go_wp2
        go_end0
        have hc1 : ((ss.length + 1 : Nat) : Int) = (ss.length : Int) + 1 := by omega
        have hgs : w9.grownBy (w9.setCell ⟨g, x, none⟩ (.int .i64 ((ss.length : Int) + 1))).drew (some g) := grownBy_trans' (grownBy_setCell w9 ⟨g, x, none⟩ (.int .i64 ((ss.length : Int) + 1))) (grownBy_drew _ _)
        have hset := HA.out.arr.nat_set x (by rw [HLEN.out]; exact hx) (ss.length + 1)
        rw [hc1] at hset
        replace hset := hset.kept (grownBy_drew _ none) (by simp)
        have hgd := HA.out.arr.type_ne HA.out.box (by decide)
        refine ⟨rfl, ?_, HA.out.but.step hgs fun k hk => .inl (.inr (.inl (Option.some.inj hk).symm))⟩
        rw [addS_new HZ.out]
        refine ⟨⟨sa8, sc8, ?_, ?_⟩, hset, by rw [List.length_set, HLEN.out, HN.out], hlo⟩
        · rw [List.length_append, List.length_singleton, ← HN.out]
          exact block_kept HA.out.box hgs (fun e => hgd (Option.some.inj e))
        · rw [List.length_append, List.length_singleton]
          refine HA.out.own.kept hgs (.inr ?_)
          obtain ⟨cur, rest, hh, _⟩ := HA.out.arr
          exact owns_ne HA.out.own hh (by decide)
  · have hzd : ((X : Int) == 0) = false := by rw [beq_eq_false_iff_ne]; omega
    have HZ : Hid (ix.getD x 0 ≠ 0) := Lib.hid (by rw [← HX.out]; exact hz)
    clear hz
    go_quiet (fail)
    go_wp2
    go_end0
    refine ⟨rfl, ?_, (derF_of HGB.out (by simp)).step (grownBy_drewN wb _ none) (by simp)⟩
    rw [addS_old HZ.out]
    exact (H.out.grown HGB.out (by simp)).grown (grownBy_drewN wb _ none) (by simp)
end Go.Proofs.YtdjhoadoiknaoaaDoor
