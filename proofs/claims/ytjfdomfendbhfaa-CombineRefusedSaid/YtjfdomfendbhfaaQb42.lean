/- Part 42 of the proof: UptoW. -/
import Derived.Test.YtjfdomfendbhfaaQb41
set_option linter.unusedVariables false
set_option linter.unusedSimpArgs false
namespace Go.Proofs.Ytjfdomfendbhfaa
open Go.RowKit
theorem stepU_app1 {P : Program} {ops : Array Oper} {o : Oper} {a : Act} {w : World} {K : Act → World → Prop} {Q : Exit → Act → World → Prop} {R : Prop} (hgd : o.guard = none) (s x : Operand) (t : TypeId)
  (ho : o.op = .call { callee := .builtin .append, args := #[s, x], argTypes := #[t, t] })
  {e : TypeId} {z : Value} {bytes : Nat} (E : ElemOk P t e z bytes) (base : Nat) (v : Value) (n : Nat) (xs : List Value) (hs : a.eval s = v) (hown : w.ownsRow base e 1 v n xs)
  (u : Value) (blk : Nat) (m : Nat × Nat) (hx : a.eval x = .slice (some ⟨blk, 0, none⟩) 1 1) (hblk : w.heap[blk]? = some (.cells #[u] e m)) (h1 : u.oneCell' = true) (h63 : n + 1 ≤ maxLen) (hbytes : (n + 1) * bytes ≤ 140737488355328) (hbase : base ≤ w.heap.size)
  (h : ∀ sa sc w', w'.ownsRow base e 1 (.slice sa (n + 1) sc) (n + 1) (xs ++ [u]) → w.grownBy w' v.ownBlock → K (a.put o.dst (.slice sa (n + 1) sc)) w') :
  if Region.wanted o (yielded ops a.tmps) = true then Oper.wp P o a w K Q else R := by
 have hw : Region.wanted o (yielded ops a.tmps) = true := by simp [Region.wanted, hgd]
 rw [if_pos hw]
 obtain ⟨i, hi, hz, hsz, hby⟩ := info_parts E.hi
 refine wp_append_own w s x t ho base e i z 1 bytes E.ht hi hz hsz hby E.hz (by decide) v n xs hs hown ⟨blk, 0, none⟩ 1 1 [u] hx rfl ?_ ?_ h63 hbytes hbase ?_
 ·intro j u' hj
  match j, hj with
  | 0, hj => simp at hj; subst hj; simpa [Addr.add] using zO hblk 0 (by simp)
 ·intro u' hu; simp at hu; subst hu; exact h1
 ·intro v' w' h1 h2 _
  obtain ⟨sa, sc, rfl⟩ := sD h1
  exact h sa sc w' h1 h2
theorem strs_cell {w : World} {kb : Nat} {l : List (List Int)} (h : Arr w kb 9 (strs l)) (i : Nat) (hi : i < l.length) : w.cell? ⟨kb, i, none⟩ = some (.string (strOfNums l[i])) := by
 rw [h.cell i (by rw [xG]; exact hi)]; simp [strs]
theorem strs_catU (u : List Int) (c : Int) : strOfNums u ++ strOfNums [c] = strOfNums (u ++ [c]) := by
 have h : (strOfNums u ++ strOfNums [c]).data.toList = (strOfNums (u ++ [c])).data.toList := by
  rw [ByteArray.data_append, Array.toList_append, strOfNums_data, strOfNums_data, strOfNums_data, List.map_append]
 have h2 := Array.toList_inj.1 h
 cases h3 : strOfNums u ++ strOfNums [c]
 cases h4 : strOfNums (u ++ [c])
 simp_all
set_option maxRecDepth 100000 in
set_option maxHeartbeats 2000000 in
theorem qF (letters n : Nat) (w : World) (h1 : 1 ≤ letters) (h6 : letters ≤ 6) (hn8 : n ≤ 8) (hlim : (upTo letters (n + 1)).length ≤ 1000) :
  Calls Try.prog 76 #[.int .i64 letters, .int .i64 n] w (kB w (upTo letters (n + 1))) := by
 obtain ⟨P, hP⟩ : ∃ P, P = w.heap.size := ⟨_, rfl⟩
 have HPE := Kh hP
 have HF : Hid (∀ i, (grown letters n i).length ≤ 1000) := Kh (fun i => Nat.le_trans (grown_pre letters n i).length_le hlim)
 have HLI := Kh hlim
 have ho : (w.alloc (.cells #[.string ⟨#[]⟩] 9)).ownsRow P 9 1 (.slice (some ⟨P, 0, none⟩) 1 1) 1 (strs (grown letters n 0)) := by
  rw [hP]
  exact World.ownsRow_lit (e := 9) (size := 1) w #[.string ⟨#[]⟩] 1 (Nat.le_refl _) (by unfold maxLen; omega) (by simp)
 have hg1 : w.grownBy (w.alloc (.cells #[.string ⟨#[]⟩] 9)) none := World.grownBy_alloc _ _ _
 have HO := Kh ho; have HG := Kh hg1
 clear ho hg1 hlim
 go_enter Try.func76, Try.ntmps76
 go_upto_region 2 with fail
 rw [← HPE.out]
 obtain ⟨w1, hw1⟩ : ∃ w1, w1 = w.alloc (.cells #[.string ⟨#[]⟩] 9) := ⟨_, rfl⟩
 rw [← hw1] at HO HG ⊢
 clear hw1 hP
 go_wp2
 obtain ⟨U, hU⟩ : ∃ U, U = upTo letters n := ⟨_, rfl⟩
 obtain ⟨V, hV⟩ : ∃ V, V = upTo letters (n + 1) := ⟨_, rfl⟩
 have HUV : Hid (U <+: V) := Kh (by rw [hU, hV]; exact upTo_pre letters n)
 have hVl : V.length ≤ 1000 := by rw [hV]; exact HLI.out
 have HUE := Kh hU; have HVE := Kh hV
 rw [← hV]
 clear hU hV
 have hUV := HUV.out.length_le
 -- the outer loop
 go_loopg [5, 6, 7] V.length (fun gh lv iv av wr => ∃ (i L : Nat) (sa : Option Addr) (sc : Nat), gh + i = V.length ∧ iv = .int .i64 (i : Int) ∧ lv = .slice sa L sc ∧ Hid (L = (grown letters n i).length) ∧ Hid (wr.ownsRow P 9 1 (.slice sa L sc) L (strs (grown letters n i))) ∧ w.grownBy wr none)
 case atStart => exact ⟨0, 1, some ⟨P, 0, none⟩, 1, rfl, rfl, rfl, Kh (by simp [grown]), HO, HG.out⟩
 case round =>
  obtain ⟨i, L, sa, sc, hg, rfl, rfl, hL, hown, hgr⟩ := hrel
  have HGH := Kh hg; have HGR := Kh hgr
  have hL1000 : L ≤ 1000 := by rw [hL.out]; exact HF.out i
  clear hg hgr HO HG
  rcases Nat.lt_or_ge i U.length with hiU | hiU
  ·-- a word of fewer than n letters
   have hiL : i < L := by
    have := lU (n := n) h1 i (by rw [← HUE.out]; omega)
    rw [← hL.out] at this; omega
   have hiL' : (i : Int) < L := by omega
   have hm := List.getElem_mem hiU
   have hul : (U[i]).length < n := oU (by rw [← HUE.out]; exact hm)
   obtain ⟨u, hu⟩ : ∃ u, u = U[i] := ⟨_, rfl⟩
   have HU := Kh hu
   rw [← hu] at hul
   obtain ⟨X, hX⟩ : ∃ X, X = strOfNums u := ⟨_, rfl⟩
   have hxl : X.size = u.length := by rw [hX, strOfNums_size]
   have HX := Kh hX
   have HST : Hid (∀ x, x < letters → grown letters n i ++ (block letters u 0).take (x + 1) = (grown letters n i ++ (block letters u 0).take x) ++ [u ++ [97 + (x : Int)]]) := Kh (fun x hx => by
    have := grown_step (letters := letters) (n := n) (i := i) (x := x) (by rw [← HUE.out]; exact hiU) hx
    have e : (upTo letters n)[i]'(by rw [← HUE.out]; exact hiU) = u := by rw [hu]; congr 1; exact HUE.out.symm
    rw [e] at this; exact this)
   have HPT : Hid (∀ x, grown letters n i ++ (block letters u 0).take x <+: V) := Kh (fun x => by
    have := grown_part letters n i x (by rw [← HUE.out]; exact hiU)
    have e : (upTo letters n)[i]'(by rw [← HUE.out]; exact hiU) = u := by rw [hu]; congr 1; exact HUE.out.symm
    rw [e, ← HVE.out] at this; exact this)
   have HVU : Hid (∀ h : i < V.length, V[i] = u) := Kh (fun h => by rw [hu]; exact (pre_get HUV.out hiU).symm)
   have HNX : Hid (grown letters n (i + 1) = grown letters n i ++ block letters u 0) := Kh (by
    rw [mW (by rw [← HUE.out]; exact hiU)]
    have e : (upTo letters n)[i]'(by rw [← HUE.out]; exact hiU) = u := by rw [hu]; congr 1; exact HUE.out.symm
    rw [e])
   clear hu hX hm
   obtain ⟨wo, hwo⟩ : ∃ wo, wo = wr := ⟨_, rfl⟩
   rw [← hwo] at hown HGR ⊢
   clear hwo wr
   go_wp2
   go_loopg [5, 7] letters (fun gh lv av wr => ∃ (a : Nat) (sb : Option Addr) (sd : Nat), gh + a = letters ∧ av = .int .i64 (a : Int) ∧ lv = .slice sb (L + a) sd ∧ Hid (wr.ownsRow P 9 1 (.slice sb (L + a) sd) (L + a) (strs (grown letters n i ++ (block letters u 0).take a))) ∧ w.grownBy wr none)
   case atStart => exact ⟨0, sa, sc, rfl, rfl, rfl, Kh (by simpa using hown.out), HGR.out⟩
   case round =>
    obtain ⟨a, sb, sd, hg, rfl, rfl, hown, hgr⟩ := hrel
    obtain ⟨kb, rfl, hc1, hc2, harr⟩ := xJ hown.out (by omega)
    have hlen : (grown letters n i ++ (block letters u 0).take a).length = L + a := by rw [List.length_append, List.length_take, uD, ← hL.out]; omega
    have hcell := strs_cell harr i (by rw [hlen]; omega)
    have hLa : L + a ≤ V.length := by rw [← hlen]; exact (HPT.out a).length_le
    rw [pre_get (HPT.out a) (by rw [hlen]; omega), HVU.out (by omega), ← HX.out] at hcell
    have hmd : (i : Int) < (L : Int) + (a : Int) := by omega
    have hmd2 : i < L + a := by omega
    have HG3 := Kh hg; have HGR3 := Kh hgr
    have HOW3 := hown
    have hc2' : sd ≤ 9223372036854775807 := by unfold maxLen at hc2; omega
    clear hg hgr harr hc2 hlen hown
    by_cases ha : a < letters
    ·have ha' : (a : Int) < letters := by omega
     have hu' : (X.size : Int) < n := by omega
     have h20 : (L : Int) + (a : Int) < 2000 := by omega
     have h97 : IntKind.i64.wrap (97 + (a : Int)) = 97 + (a : Int) := IntWalk.i64_in _ (by omega)
     have hby : IntKind.u8.wrap (97 + (a : Int)) = 97 + (a : Int) := IntWalk.u8_in _ (by omega)
     obtain ⟨Y, hY⟩ : ∃ Y, Y = strOfNums [97 + (a : Int)] := ⟨_, rfl⟩
     have hcv : ∀ (W : World) (g : Nat), W.cell? ⟨g, 0, none⟩ = some (.int .u8 (97 + (a : Int))) → (convert 106 9 (.slice (some ⟨g, 0, none⟩) 1 1)).run Try.prog W = .ok (.string Y) W := fun W g h => by rw [hY]; exact jD 106 5 Try.underlying106 Try.underlying5 9 Try.underlying9 h
     have hcc : ∀ W : World, (Op.stringOp .add X Y).run Try.prog W = .ok (.string (X ++ Y)) W := fun W => run_string_add_sum W X Y (by
      rw [hY, strOfNums_size]; simp; omega)
     have HXY : Hid (X ++ Y = strOfNums (u ++ [97 + (a : Int)])) := Kh (by rw [HX.out, hY, strs_catU])
     clear hY
     obtain ⟨w5, hw5⟩ : ∃ w5, w5 = wr.drew := ⟨_, rfl⟩
     have hg5 : wr.grownBy w5 none := by rw [hw5]; exact zP wr none
     have HW5 := Kh hw5
     have HO5 := Kh (yI HOW3.out hg5 (by simp)); have HG5 := Kh (zA HGR3.out hg5 (by simp))
     have C := Kh (zQ hcell hg5)
     clear hw5 hg5 HOW3 HGR3
     go_upto_region 8 with fail
     clear hcell
     refine wp_region_noPanic ?_
     refine wC (G := uS 10 (fun _ => True) (fun W => W.cell? ⟨kb, i, none⟩ = some (.string X))) (by kernel_rfl) ?_
     rw [← HW5.out]
     refine takeC (i := 0) (v := ?_) rfl rfl (Or.inl ⟨by rfl, ?_⟩) ⟨trivial, fun _ => C.out⟩ ?_
     rotate_left
     ·(intro wz hz; (try dsimp only at hz); go_simp; (try with_reducible rfl))
     try simp only [Act.put, sPa, sPb, sPc]
     refine takeC (i := 1) (v := ?_) rfl rfl (Or.inl ⟨by rfl, ?_⟩) ⟨trivial, fun _ => C.out⟩ ?_
     rotate_left
     ·(intro wz hz; (try dsimp only at hz); go_simp; (try with_reducible rfl))
     try simp only [Act.put, sPa, sPb, sPc]
     refine takeC (i := 2) (v := ?_) rfl rfl (Or.inl ⟨by rfl, ?_⟩) ⟨trivial, fun _ => C.out⟩ ?_
     rotate_left
     ·(intro wz hz; (try dsimp only at hz); go_simp; (try with_reducible rfl))
     try simp only [Act.put, sPa, sPb, sPc]
     refine takeC (i := 3) (v := ?_) rfl rfl (Or.inl ⟨by rfl, ?_⟩) ⟨trivial, fun _ => C.out⟩ ?_
     rotate_left
     ·(intro wz hz; (try dsimp only at hz); go_simp; (try with_reducible rfl))
     try simp only [Act.put, sPa, sPb, sPc]
     refine takeD (i := 4) (v := ?_) rfl rfl (Or.inl ⟨by rfl, ?_⟩) ⟨trivial, fun _ => C.out⟩ ?_
     rotate_left
     ·(rintro wz ⟨-, hz⟩; (try dsimp only at hz); go_simp; (try with_reducible rfl))
     try simp only [Act.put, sPa, sPb, sPc]
     refine takeC (i := 5) (v := ?_) rfl rfl (Or.inl ⟨by rfl, ?_⟩) ⟨trivial, fun _ => C.out⟩ ?_
     rotate_left
     ·(intro wz hz; (try dsimp only at hz); go_simp; (try with_reducible rfl))
     try simp only [Act.put, sPa, sPb, sPc]
     refine takeC (i := 6) (v := ?_) rfl rfl (Or.inl ⟨by rfl, ?_⟩) ⟨trivial, fun _ => C.out⟩ ?_
     rotate_left
     ·(intro wz hz; (try dsimp only at hz); go_simp; (try with_reducible rfl))
     try simp only [Act.put, sPa, sPb, sPc]
     refine takeC (i := 7) (v := ?_) rfl rfl (Or.inl ⟨by rfl, ?_⟩) ⟨trivial, fun _ => C.out⟩ ?_
     rotate_left
     ·(intro wz hz; (try dsimp only at hz); go_simp; (try with_reducible rfl))
     try simp only [Act.put, sPa, sPb, sPc]
     refine oneG (i := 8) (by kernel_rfl) rfl (fun K hK => ?_)
     go_simp
     have hgn := heap_alloc_new w5 (.cells #[.int .u8 (97 + (a : Int))] 5)
     have hg6 := World.grownBy_alloc w5 (.cells #[.int .u8 (97 + (a : Int))] 5) none
     obtain ⟨g6, hg6e⟩ : ∃ g6, g6 = w5.heap.size := ⟨_, rfl⟩
     obtain ⟨w6, hw6⟩ : ∃ w6, w6 = w5.alloc (.cells #[.int .u8 (97 + (a : Int))] 5) := ⟨_, rfl⟩
     rw [← hg6e] at hgn ⊢
     rw [← hw6] at hgn hg6 ⊢
     have hb6 := zO hgn 0 (by simp)
     simp only [List.getElem_toArray, List.getElem_cons_zero] at hb6
     have HO6 := Kh (yI HO5.out hg6 (by simp)); have HG6 := Kh (zA HG5.out hg6 (by simp))
     have C6 := Kh (zQ C.out hg6)
     refine hK.out _ _ ⟨trivial, fun _ => C6.out⟩ ?_
     clear hK K hgn hg6 hg6e hw6 HO5 HG5 C
     try simp only [Act.put, sPa, sPb, sPc]
     refine oneG (i := 9) (by kernel_rfl) rfl (fun K hK => ?_)
     go_simp
     refine hK.out _ _ ⟨trivial, fun _ => C6.out⟩ ?_
     clear hK K
     try simp only [Act.put, sPa, sPb, sPc]
     refine oneG (i := 10) (by kernel_rfl) rfl (fun K hK => ?_)
     go_simp
     refine hK.out _ _ ⟨trivial, fun h => by simp at h⟩ ?_
     clear hK K
     try simp only [Act.put, sPa, sPb, sPc]
     refine oneG (i := 11) (by kernel_rfl) rfl (fun K hK => ?_)
     go_simp
     have hgn := heap_alloc_new w6 (.cells #[.string (X ++ Y)] 9)
     have hg7 := World.grownBy_alloc w6 (.cells #[.string (X ++ Y)] 9) none
     have ho7 := yI HO6.out hg7 (by simp)
     refine hK.out _ _ ⟨trivial, fun h => by simp at h⟩ ?_
     clear hK K
     try simp only [Act.put, sPa, sPb, sPc]
     have hsz7 : P ≤ w6.heap.size := by have := HG6.out.size; have := HPE.out; omega
     refine oneG (i := 12) (by kernel_rfl) rfl (fun K hK => ?_)
     refine stepU_app1 rfl (.tmp 34) (.tmp 45) 26 rfl qX P _ _ _ rfl ho7 _ _ _ rfl hgn rfl ?g1 ?g2 ?g3 ?_
     case g1 => unfold maxLen; omega
     case g2 => omega
     case g3 => rw [zJ]; omega
     intro sa' sc' w8 hown8 hg8
     refine hK.out _ _ ⟨trivial, fun h => by simp at h⟩ ?_
     clear hK K
     try simp only [Act.put, sPa, sPb, sPc]
     refine oneG (i := 13) (by kernel_rfl) rfl (fun K hK => ?_)
     go_simp
     refine hK.out _ _ ⟨trivial, fun h => by simp at h⟩ ?_
     clear hK K
     try simp only [Act.put, sPa, sPb, sPc]
     refine kH (by kernel_rfl) ?_ _
     refine NoPanic.normal ?_
     have HO8 := Kh hown8
     have HG8 := Kh (zA (zA HG6.out hg7 (by simp)) hg8 (fun k e => by have := (ho7.lt k e).1; have := HPE.out; omega))
     clear hown8 hg8 hg7 ho7 hgn
     go_wp2
     go_roundg (letters - (a + 1))
     case measure => have := HG3.out; omega
     case rel =>
      refine ⟨a + 1, sa', sc', by omega, by go_num, by rw [Nat.add_assoc], Kh ?_, HG8.out⟩
      rw [HST.out a ha, qH, ← Nat.add_assoc]
      have e9 : strs [u ++ [97 + (a : Int)]] = [.string (X ++ Y)] := by rw [HXY.out]; rfl
      rw [e9]; exact HO8.out
    ·have hal : a = letters := by have := HG3.out; omega
     subst hal
     have htk : (block a u 0).take a = block a u 0 := List.take_of_length_le (by rw [uD]; exact Nat.le_refl _)
     rw [htk, ← HNX.out] at HOW3
     have HLN : Hid (L + a = (grown a n (i + 1)).length) := Kh (by rw [HNX.out, List.length_append, uD, ← hL.out])
     clear htk hcell
     go_wp2
     go_roundg (V.length - (i + 1))
     case measure => have := HGH.out; omega
     case rel => exact ⟨i + 1, L + a, some ⟨kb, 0, none⟩, sd, by have := HGH.out; omega, by go_num, rfl, HLN, HOW3, HGR3.out⟩
  ·-- the list is whole
   have hall : grown letters n i = V := by rw [grown_all (by rw [← HUE.out]; exact hiU), HVE.out]
   rw [hall] at hL hown
   have HLV := hL
   by_cases hiL : i < L
   ·have hiL' : (i : Int) < L := by omega
    obtain ⟨kb, rfl, hc1, hc2, harr⟩ := xJ hown.out (by omega)
    have hiV : i < V.length := by rw [← hL.out]; exact hiL
    have hcell := strs_cell harr i hiV
    have hlast : (V[i]).length = n := by
     have := upTo_last (letters := letters) (n := n) (i := i) (by rw [← HUE.out]; exact hiU) (by rw [← HVE.out]; exact hiV)
     have e : V[i] = (upTo letters (n + 1))[i]'(by rw [← HVE.out]; exact hiV) := by congr 1
     rw [e]; exact this
    obtain ⟨X, hX⟩ : ∃ X, X = strOfNums V[i] := ⟨_, rfl⟩
    have hxl : ¬ (X.size : Int) < n := by rw [hX, strOfNums_size, hlast]; omega
    rw [← hX] at hcell
    have hc2' : sc ≤ 9223372036854775807 := by unfold maxLen at hc2; omega
    have hl0 : (0 : Int) < letters := by omega
    have HAL : Hid (grown letters n (i + 1) = V) := Kh (by rw [grown_all (by rw [← HUE.out]; omega), HVE.out])
    clear harr hc2 hX hlast hall
    obtain ⟨wo, rfl⟩ : ∃ wo : World, wo = wr := ⟨_, rfl⟩
    go_wp2
    go_loopg [5, 7] 0 (fun gh lv av wq => lv = .slice (some ⟨kb, 0, none⟩) L sc ∧ av = .int .i64 0 ∧ wq = wo)
    case atStart => exact ⟨rfl, rfl, rfl⟩
    case round =>
     obtain ⟨rfl, rfl, rfl⟩ := hrel
     go_wp2
     go_roundg (V.length - (i + 1))
     case measure => have := HGH.out; omega
     case rel => exact ⟨i + 1, L, some ⟨kb, 0, none⟩, sc, by have := HGH.out; have := hL.out; omega, by go_num, rfl, by rw [HAL.out]; exact HLV, by rw [HAL.out]; exact hown, HGR.out⟩
   ·have hiL' : ¬ (i : Int) < L := by omega
    clear hall
    go_wp2
    go_ret
    exact ⟨sa, sc, by rw [← HVE.out, ← hL.out]; rfl, by rw [← HVE.out, ← hL.out]; exact RowT.of_owns hown.out, HGR.out⟩
end Go.Proofs.Ytjfdomfendbhfaa
