/- Part 21 of the proof: Sets4, Round. -/
import Derived.Test.YtdjhoadoiknaoaaDoorZw20
set_option linter.unusedVariables false
set_option linter.unusedSimpArgs false
namespace Go.Proofs.YtdjhoadoiknaoaaDoor
open Go.RowKit
def maxTo (n : Nat) (l : List Nat) (k : Nat) : List Nat := (List.range k).filter fun s => under l s && topB n l s
theorem maxTo_full (n : Nat) (l : List Nat) : maxTo n l (2 ^ n) = maxOf n l := rfl
theorem maxTo_succ (n : Nat) (l : List Nat) (k : Nat) : maxTo n l (k + 1) = maxTo n l k ++ (if under l k && topB n l k then [k] else []) := by
  rw [maxTo, List.range_succ, List.filter_append]
  congr 1
  simp only [List.filter_cons, List.filter_nil]
theorem maxTo_le (n : Nat) (l : List Nat) (k : Nat) : (maxTo n l k).length ≤ k := by
  have := List.length_filter_le (fun s => under l s && topB n l s) (List.range k)
  rw [List.length_range] at this
  exact this
def topTo (l : List Nat) (s x : Nat) : Bool := (List.range x).all fun x => s.testBit x || !under l (s ||| 1 <<< x)
theorem topTo_succ (l : List Nat) (s x : Nat) : topTo l s (x + 1) = (topTo l s x && (s.testBit x || !under l (s ||| 1 <<< x))) := by
  simp only [topTo, List.range_succ, List.all_append, List.all_cons, List.all_nil, Bool.and_true]
def Maxed (w : World) (n : Nat) (l : List Nat) (e : Ending) (w' : World) : Prop := ∃ (sa : Option Addr) (sc : Nat), e = .returned (.slice sa (maxOf n l).length sc) ∧ w'.ownsRow w.heap.size 3 1 (.slice sa (maxOf n l).length sc) (maxOf n l).length (nats (maxOf n l)) ∧ w.grownBy w' none
set_option maxRecDepth 100000 in
set_option maxHeartbeats 1000000 in
theorem maximal_any (F C : Nat) (w : World) (p go n : Nat) (tb : Nat → Nat → Nat) (lv : Value) (B : Nat) (l : List Nat) (h : SetsOk F C w p go n tb) (hn : n ≤ 12) (hl : Row B w lv (nats l)) (hlt : ∀ b ∈ l, b < 2 ^ n) (hB : B ≤ w.heap.size) :
    Calls Tryd.prog 59 #[.pointer (some ⟨p, 0, none⟩), lv] w (Maxed w n l) := by
  obtain ⟨N, hN⟩ : ∃ N, N = 2 ^ n := ⟨_, rfl⟩
  have hN4 : N ≤ 4096 := by have := pow_le hn; omega
  have HN := Lib.hid hN; have H := Lib.hid h
  have HI := Lib.hid (inside_any F C w p go n tb lv B l h hn hl hlt hB)
  have HLT := Lib.hid hlt
  clear h hl hlt hN
  go_enter Tryd.func59, Tryd.ntmps59
  go_wp2_with fail
  refine HI.out.mono ?_
  rintro e w1 ⟨rfl, ha1, hg1⟩
  rw [← HN.out] at ha1 ⊢
  have HA1 := Lib.hid ha1
  clear ha1 HI
  have hz1 := HA1.out.lt
  go_wp2
  go_loopg [6, 15] N (fun g kv i wr => ∃ (k : Nat) (sa : Option Addr) (sc : Nat), g + k = N ∧ i = .int .i64 k ∧ kv = .slice sa (maxTo n l k).length sc ∧ wr.ownsRow w1.heap.size 3 1 (.slice sa (maxTo n l k).length sc) (maxTo n l k).length (nats (maxTo n l k)) ∧ Arr wr w.heap.size 4 (bls (underAll N l)) ∧ w.grownBy wr none ∧ w1.heap.size ≤ wr.heap.size)
  case atStart => exact ⟨0, none, 0, rfl, rfl, rfl, World.ownsRow_nil _ _ _ _, HA1.out, hg1, Nat.le_refl _⟩
  case round =>
    clear HA1 hg1
    obtain ⟨s, sa, sc, hg, rfl, rfl, hown, harr, hgr, hsz⟩ := hrel
    have HG := Lib.hid hg; have HARR := Lib.hid harr; have HOWN := Lib.hid hown
    have hml := maxTo_le n l s
    obtain ⟨L, hL⟩ : ∃ L, L = (maxTo n l s).length := ⟨_, rfl⟩
    rw [← hL] at HOWN hml ⊢
    have HL := Lib.hid hL
    clear hg harr hown hL
    by_cases hs : s < N
    · have hsN : (s : Int) < N := by omega
      have hs63 : s < 9223372036854775808 := by omega
      have cs := HARR.out.bool s (by rw [underAll_length]; exact hs)
      rw [underAll_get hs] at cs
      have c0 := (H.out.kept hgr (by simp)).c0
      cases hu : under l s
      · rw [hu] at cs
        have HU := Lib.hid hu
        clear hu
        go_wp2
        go_roundg (N - (s + 1))
        case measure => have := HG.out; omega
        case rel =>
          have hmt : maxTo n l (s + 1) = maxTo n l s := by rw [maxTo_succ, HU.out]; simp
          refine ⟨s + 1, sa, sc, by omega, by go_num, by rw [hmt, HL.out], ?_, HARR.out, hgr, hsz⟩
          rw [hmt, ← HL.out]; exact HOWN.out
      · rw [hu] at cs
        have HU := Lib.hid hu
        clear hu
        go_wp2
        go_loopg [8, 27] n (fun g gv i wr' => ∃ (x : Nat) (c : Bool), g + x = n ∧ i = .int .i64 x ∧ gv = .bool c ∧ Hid (c = topTo l s x) ∧ wr = wr')
        case atStart => exact ⟨0, true, rfl, rfl, rfl, Lib.hid rfl, rfl⟩
        case round =>
          obtain ⟨x, c, hgx, rfl, rfl, hc, rfl⟩ := hrel
          have HGX := Lib.hid hgx
          clear hgx
          by_cases hx : x < n
          · cases hbit : s.testBit x
            · have hb := bit_zero hs63 hbit
              have hsx := shl_eq (m := x) (by omega)
              have hlt := or_one_lt (show s < 2 ^ n by rw [← HN.out]; omega) hx
              rw [Nat.one_shiftLeft, ← HN.out] at hlt
              obtain ⟨M, hM⟩ : ∃ M, M = 2 ^ x := ⟨_, rfl⟩
              rw [← hM] at hsx hlt
              have hM4 : M ≤ 4096 := by rw [hM]; have := pow_le (show x ≤ 12 by omega); omega
              have e4 : bits .or .i64 (s : Int) (M : Int) = ((s ||| M : Nat) : Int) := i64_or_nat s M (by omega) (by omega)
              obtain ⟨S2, hS⟩ : ∃ S2, S2 = s ||| M := ⟨_, rfl⟩
              rw [← hS] at e4 hlt
              have hlt' : (S2 : Int) < N := by omega
              have c2 := HARR.out.bool S2 (by rw [underAll_length]; exact hlt)
              rw [underAll_get hlt] at c2
              obtain ⟨v, hv⟩ : ∃ v, v = under l S2 := ⟨_, rfl⟩
              rw [← hv] at c2
              have hcv : Hid ((c && !v) = topTo l s (x + 1)) := by
                have e : under l (s ||| 1 <<< x) = v := by rw [Nat.one_shiftLeft, ← hM, ← hS, hv]
                exact Lib.hid (by rw [topTo_succ, hbit, e, hc.out]; simp)
              have HBIT := Lib.hid hbit
              clear hbit hS hM hv
              cases v
              · go_wp2
                go_roundg (n - (x + 1))
                case measure => have := HGX.out; omega
                case rel => exact ⟨x + 1, c, by omega, by go_num, rfl, Lib.hid (by rw [← hcv.out]; simp), rfl⟩
              · go_wp2
                go_roundg (n - (x + 1))
                case measure => have := HGX.out; omega
                case rel => exact ⟨x + 1, false, by omega, by go_num, rfl, Lib.hid (by rw [← hcv.out]; simp), rfl⟩
            · have hb := bit_one hs63 hbit
              have hcv : Hid (c = topTo l s (x + 1)) := Lib.hid (by rw [topTo_succ, hbit, hc.out]; simp)
              have HBIT := Lib.hid hbit
              clear hbit
              go_wp2
              go_roundg (n - (x + 1))
              case measure => have := HGX.out; omega
              case rel => exact ⟨x + 1, c, by omega, by go_num, rfl, hcv, rfl⟩
          · have hct : Hid (c = topB n l s) := by
              have hxn : x = n := by have := HGX.out; omega
              have := hc.out
              rw [hxn] at this
              exact Lib.hid this
            cases c
            · go_wp2
              go_roundg (N - (s + 1))
              case measure => have := HG.out; omega
              case rel =>
                have hmt : maxTo n l (s + 1) = maxTo n l s := by rw [maxTo_succ, ← hct.out]; simp
                refine ⟨s + 1, sa, sc, by omega, by go_num, by rw [hmt, HL.out], ?_, HARR.out, hgr, hsz⟩
                rw [hmt, ← HL.out]; exact HOWN.out
            · go_wp2_with (at_builtin; refine app1 rfl _ _ _ rfl elem_int w1.heap.size _ L (nats (maxTo n l s)) rfl HOWN.out _ rfl rfl ?c1 ?c2 ?c3 ?_)
              case c1 => unfold maxLen; omega
              case c2 => omega
              case c3 => exact hsz
              intro sa' sc' w3 hown3 hg3 hlt3
              have HO3 := Lib.hid hown3; have HG3 := Lib.hid hg3
              clear hown3 hg3
              go_wp2
              go_roundg (N - (s + 1))
              case measure => have := HG.out; omega
              case rel =>
                have hmt : maxTo n l (s + 1) = maxTo n l s ++ [s] := by rw [maxTo_succ, ← hct.out, HU.out]; simp
                have hlen : (maxTo n l (s + 1)).length = L + 1 := by rw [hmt, List.length_append, HL.out]; rfl
                refine ⟨s + 1, sa', sc', by omega, by go_num, by rw [hlen], ?_, HARR.out.kept HG3.out (fun e => ?_), grown_far hgr HG3.out (fun q e => ?_), by omega⟩
                · rw [hlen, hmt, nats_snoc]; exact HO3.out
                · have := (HOWN.out.lt _ e).1; omega
                · have := (HOWN.out.lt q e).1; have := hgr.size; omega
    · have hsN : s = N := by have := HG.out; omega
      have hmt : Hid (maxTo n l s = maxOf n l) := by rw [hsN, HN.out]; exact Lib.hid rfl
      clear hsN
      go_wp2
      go_ret
      refine ⟨sa, sc, by rw [← hmt.out, ← HL.out]; rfl, ?_, hgr⟩
      rw [← hmt.out, ← HL.out]
      exact ownsRow_base HOWN.out (by omega)
end Go.Proofs.YtdjhoadoiknaoaaDoor
namespace Go.Proofs.YtdjhoadoiknaoaaDoor
open Go.RowKit
structure Rs (w0 w : World) (bi bm g n M N : Nat) (mv : Value) (bs : List Bool) (lst : List Nat) (row : Option Nat) : Prop where
  box1 : w.heap[bi]? = some (.cells #[.slice (some ⟨g, 0, none⟩) N N] 25 (0, 0))
  box2 : w.heap[bm]? = some (.cells #[mv] 22 (0, 0))
  own : w.ownsRow w0.heap.size 3 1 mv lst.length (nats lst)
  shape : ∃ sa sc, mv = .slice sa lst.length sc
  arr : Arr w g 4 (bls bs)
  len : bs.length = N
  cnt : lst.length ≤ M + bs.count true
  mem : ∀ x, x < N → bs.getD x false = true → x ∈ lst
  lt : ∀ x ∈ lst, x < N
  lo : w0.heap.size ≤ bi ∧ w0.heap.size ≤ bm ∧ w0.heap.size ≤ g
  fr : w0.grownBy w row
theorem Rs.len_le {w0 w : World} {bi bm g n M N : Nat} {mv : Value} {bs : List Bool} {lst : List Nat} {row : Option Nat} (h : Rs w0 w bi bm g n M N mv bs lst row) : lst.length ≤ M + N := by
  have h1 := h.cnt
  have h2 : bs.count true ≤ bs.length := List.count_le_length
  have := h.len
  omega
def RAdded (w0 w : World) (bi bm g n M N : Nat) (lst : List Nat) (row : Option Nat) (x : Nat) (e : Ending) (w' : World) : Prop :=
  e = .returned (.tuple #[]) ∧ ∃ bs' mv' lst', Rs w0 w' bi bm g n M N mv' bs' lst' row ∧ (∀ y, y ∈ lst' ↔ y ∈ lst ∨ y = x) ∧ Below w0.heap.size w w'
theorem count_set_true' {bs : List Bool} {x : Nat} (hx : x < bs.length) (h : bs.getD x false = false) : (bs.set x true).count true = bs.count true + 1 := by
  rw [List.count_set hx]
  have : bs[x] = false := by simpa [List.getD, List.getElem?_eq_getElem hx] using h
  simp [this]
set_option maxHeartbeats 400000 in
theorem radd_any (w0 w : World) (bi bm g n M N x : Nat) (mv : Value) (bs : List Bool) (lst : List Nat) (row : Option Nat) (hx : x < N) (hn : N ≤ 4096) (hM : M ≤ 1000000) (h : Rs w0 w bi bm g n M N mv bs lst row) :
    Calls Tryd.prog 89 #[.int .i64 (x : Int), .pointer (some ⟨bi, 0, none⟩), .pointer (some ⟨bm, 0, none⟩)] w (RAdded w0 w bi bm g n M N lst row x) := by
  have H := Lib.hid h
  have hml := h.len_le
  obtain ⟨sa, sc, rfl⟩ := h.shape
  have ci := cell_block h.box1 0 (by simp)
  have cx := h.arr.bool x (by rw [h.len]; exact hx)
  have fx := h.arr.frozen x
  simp only [List.getElem_toArray, List.getElem_cons_zero] at ci
  have hx' : (x : Int) < N := by omega
  clear h
  cases hb : bs.getD x false
  · rw [hb] at cx
    have HB := Lib.hid hb; clear hb
    have hset := H.out.arr.bool_set x (by rw [H.out.len]; exact hx) true
    have hgs1 := grownBy_setCell w ⟨g, x, none⟩ (.bool true)
    go_enter Tryd.func89, Tryd.ntmps89
    go_upto_region 2 with fail
    generalize hW : w.setCell ⟨g, x, none⟩ (.bool true) = w1 at hset hgs1
    have HW := Lib.hid hW
    have hlo := H.out.lo
    have hg1 := grown_far H.out.fr hgs1 (by simp; omega)
    have hb2 := H.out.box2
    have hown := H.out.own
    have hb2' := block_kept hb2 hgs1 (fun e => by
      have := Option.some.inj e
      exact (H.out.arr.type_ne hb2 (by decide)) this)
    have hb1' := block_kept H.out.box1 hgs1 (fun e => (H.out.arr.type_ne H.out.box1 (by decide)) (Option.some.inj e))
    have hown' := hown.kept hgs1 (.inr (fun e => by
      obtain ⟨cur, rest, hh, _⟩ := H.out.arr
      exact owns_ne hown hh (by decide) e))
    have cm := cell_block hb2' 0 (by simp)
    simp only [List.getElem_toArray, List.getElem_cons_zero] at cm
    have HB1 := Lib.hid hb1'; have HB2 := Lib.hid hb2'; have HSET := Lib.hid hset; have HGS := Lib.hid hgs1
    clear hW ci cx fx hset hgs1 hb2 hown hb1' hb2'
    go_wp2_with (at_builtin; refine app1 rfl _ _ _ rfl elem_int w0.heap.size _ lst.length (nats lst) rfl hown' _ rfl rfl ?c1 ?c2 ?c3 ?_)
    case c1 => unfold maxLen; omega
    case c2 => omega
    case c3 => exact hg1.size
    intro sa' sc' w3 hown3 hg3 hlt3
    have hne2 := owns_ne hown' HB2.out (by decide)
    have hb23 := block_kept HB2.out hg3 hne2
    have hf3 := frozen_block hb23 0
    have hc3 := cell_block hb23 0 (by simp)
    simp only [List.getElem_toArray, List.getElem_cons_zero] at hc3
    have hb13 := block_kept HB1.out hg3 (owns_ne hown' HB1.out (by decide))
    have hset3 := HSET.out.kept hg3 (by
      obtain ⟨cur, rest, hh, _⟩ := HSET.out
      exact owns_ne hown' hh (by decide))
    have hg03 := grown_far hg1 hg3 (fun k e => (hown'.lt k e).1)
    have hlow := fun k e => (hown'.lt k e).1
    have H13 := Lib.hid hb13; have H23 := Lib.hid hb23; have HS3 := Lib.hid hset3; have HO3 := Lib.hid hown3; have HG3 := Lib.hid hg3; have HLOW := Lib.hid hlow
    clear hb13 hb23 hset3 hown3 hg3 hown' cm hlow
    go_wp2
    go_end0
    have hgs := grownBy_setCell w3 ⟨bm, 0, none⟩ (.slice sa' (lst.length + 1) sc')
    have hz1 := HGS.out.size
    refine ⟨rfl, bs.set x true, .slice sa' (lst.length + 1) sc', lst ++ [x], ⟨?_, heap_setCell_same w3 bm 0 _ _ _ H23.out, ?_, ⟨sa', sc', by simp⟩, ?_, by rw [List.length_set]; exact H.out.len, ?_, fun y hy hyb => ?_, fun y hy => ?_, hlo, grown_far hg03 hgs (by simp; omega)⟩, fun y => by simp, ⟨?_, ?_, ?_, Nat.le_trans hz1 (Nat.le_trans HG3.out.size hgs.size), fun k hk => ?_⟩⟩
    · refine block_kept H13.out hgs (fun e => ?_)
      have e' := Option.some.inj e
      have h1 := H13.out
      rw [← e', H23.out] at h1
      simp at h1
    · rw [List.length_append, nats_snoc]
      exact HO3.out.kept hgs (.inr (owns_ne HO3.out H23.out (by decide)))
    · exact HS3.out.kept hgs (fun e => (HS3.out.type_ne H23.out (by decide)) (Option.some.inj e).symm)
    · rw [List.length_append, count_set_true' (by rw [H.out.len]; exact hx) HB.out]
      have := H.out.cnt
      simp; omega
    · rw [List.mem_append]
      by_cases e : x = y
      · subst e; exact .inr (by simp)
      · rw [getD_set_ne _ _ _ _ _ e] at hyb
        exact .inl (H.out.mem y hy hyb)
    · rcases List.mem_append.1 hy with hy | hy
      · exact H.out.lt y hy
      · simp at hy; omega
    · exact hgs.os.trans (HG3.out.os.trans HGS.out.os)
    · exact hgs.tape.trans (HG3.out.tape.trans HGS.out.tape)
    · exact hgs.output.trans (HG3.out.output.trans HGS.out.output)
    · have hs0 := H.out.fr.size
      exact (hgs.block k (by have := HG3.out.size; omega) (fun e => by have : k = bm := Option.some.inj e; omega)).trans ((HG3.out.block k (by omega) (fun e => by have := HLOW.out k e.symm; omega)).trans (HGS.out.block k (by omega) (fun e => by have : k = g := Option.some.inj e; omega)))
  · rw [hb] at cx
    have HB := Lib.hid hb; clear hb
    go_enter Tryd.func89, Tryd.ntmps89
    go_wp2
    go_end0
    refine ⟨rfl, bs, _, lst, H.out, fun y => ⟨.inl, fun h => h.elim id (fun e => by rw [e]; exact H.out.mem x hx HB.out)⟩, Below.refl _ _⟩
end Go.Proofs.YtdjhoadoiknaoaaDoor
