/- Part 43 of the proof: Pieces. -/
import Derived.Test.YtgbfaggnnfoamaaZg42
set_option linter.unusedVariables false
set_option linter.unusedSimpArgs false
namespace Go.Proofs.Ytgbfaggnnfoamaa
open Go.RowKit
theorem elem_pat : ElemOk Try.prog 23 36 (.agg #[.slice none 0 0]) 24 := ⟨Try.underlying23, by kernel_rfl, rfl⟩
def vE (u : List Int) : List (List Int) := [[]] ++ u.map (fun c => [c]) ++ [[]]
def uK (u : List Int) (j : Nat) : List (List Int) := [[]] ++ (u.take j).map (fun c => [c])
theorem extract_one (l : List Int) (j : Nat) (hj : j < l.length) : (strOfNums l).extract j (j + 1) = strOfNums [l[j]] := by
 have h : ((strOfNums l).extract j (j + 1)).data.toList = (strOfNums [l[j]]).data.toList := by
  rw [ByteArray.data_extract, strOfNums_data, Array.toList_extract, strOfNums_data, List.extract_eq_take_drop]
  rw [List.drop_eq_getElem_cons (by simpa using hj)]
  simp
 have h2 := Array.toList_inj.1 h
 cases h3 : (strOfNums l).extract j (j + 1)
 cases h4 : strOfNums [l[j]]
 simp_all
def PatListed (w : World) (ps : List (List (List Int))) (e : Ending) (w' : World) : Prop :=
 ∃ (sa : Option Addr) (sc : Nat) (svs : List Value), e = .returned (.slice sa ps.length sc) ∧ RowT w'.heap.size 36 w' (.slice sa ps.length sc) svs ∧ wX w'.heap.size 9 strs w' svs ps ∧ w.grownBy w' none
set_option maxRecDepth 100000 in
set_option maxHeartbeats 400000 in
theorem pieces_any (letters k : Nat) (w : World) (h1 : 1 ≤ letters) (h6 : letters ≤ 6) (hk : 1 ≤ k) (hk8 : k ≤ 8) :
  Calls Try.prog 27 #[.int .i64 letters, .int .i64 k] w (PatListed w (((upTo letters (k + 1)).drop 1).map vE)) := by
 obtain ⟨ws, hws⟩ : ∃ ws, ws = upTo letters (k + 1) := ⟨_, rfl⟩
 have hlen : 2 ≤ ws.length := by
  rw [hws]; obtain ⟨k', rfl⟩ : ∃ k', k = k' + 1 := ⟨k - 1, by omega⟩
  rw [uR, uR, List.length_append, List.length_append, vY, vY]
  have := Nat.one_le_pow k' letters (by omega); have := Nat.one_le_pow (k' + 1) letters (by omega); omega
 have hle : ws.length ≤ 20000000 := by rw [hws]; have := tW letters h6 (k + 1) (by omega); omega
 have hmem : ∀ u ∈ ws, u.length ≤ 8 := by
  rw [hws]; intro u hu
  simp only [upTo, List.mem_flatMap, List.mem_range] at hu
  obtain ⟨n, hn, hu⟩ := hu
  rw [(nP hu).1]; omega
 rw [← hws]
 have HWS := Kh hws; clear hws
 go_enter Try.func27, Try.ntmps27
 go_wp2_with fail
 refine (words_any letters k w h1 h6 hk8).mono ?_
 rw [← HWS.out]
 rintro e w1 ⟨sa, sc, rfl, hrow, hg1⟩
 rcases hrow with ⟨hn, hn2⟩ | ⟨b, off, cap, cur, m, hv, hb, hc1, hc2, hblk, hcell⟩
 ·exfalso; have := congrArg List.length hn2; simp [strs] at this; subst this; simp at hlen
 rw [vB] at hv hc1
 have hsc : sc = cap ∧ sa = some ⟨b, off, none⟩ := by simp at hv; exact ⟨hv.2, hv.1⟩
 obtain ⟨rfl, rfl⟩ := hsc
 clear hv
 have hRW := Kh hblk; have HC := Kh hcell; clear hblk hcell
 have hc3 : (1 : Int) < sc := by omega
 have hT1 : RowT w1.heap.size 9 w1 (.slice (some ⟨b, off, none⟩) ws.length sc) (strs ws) := .inr ⟨b, off, sc, cur, m, by rw [vB], hb, by rw [vB]; exact hc1, hc2, hRW.out, HC.out⟩
 clear hRW HC
 have hs1 := hg1.size
 go_wp2
 go_loopw [5, 15] (fun v i wr => ∃ (sa : Option Addr) (c n : Nat) (svs : List Value), i = .int .i64 n ∧ n ≤ ws.length - 1 ∧ v = .slice sa n c ∧
   wr.ownsRow w1.heap.size 36 1 (.slice sa n c) n svs ∧ wX wr.heap.size 9 strs wr svs (((ws.drop 1).take n).map vE) ∧
   RowT w1.heap.size 9 wr (.slice (some ⟨b, off, none⟩) ws.length sc) (strs ws) ∧ w.grownBy wr none ∧ w1.heap.size ≤ wr.heap.size)
  (fun _ i _ => ws.length - (intOf i).toNat)
 case atStart => exact ⟨none, 0, 0, [], rfl, Nat.zero_le _, rfl, World.ownsRow_nil _ _ _ _, by simpa using wX.nil, hT1, hg1, Nat.le_refl _⟩
 case round =>
  clear hT1 hg1
  obtain ⟨sa, c, n, svs, rfl, hn, rfl, hown, hsv, hT, hg, hs⟩ := hrel
  obtain ⟨wo, rfl⟩ : ∃ wo : World, wo = wr := ⟨_, rfl⟩
  have HSV := Kh hsv; clear hsv
  by_cases hlt : n < ws.length - 1
  ·have hlt' : (n : Int) < ((ws.length - 1 : Nat) : Int) := by omega
   have hu := hmem ws[1 + n] (List.getElem_mem (by omega))
   have hcell : wo.cell? ⟨b, off + 1 + n, none⟩ = some (.string (strOfNums ws[1 + n])) := by
    rcases hT.row with ⟨_, _, h, _⟩ | ⟨b', off', cap', hv, _, _, _, hra⟩
    ·have h2 : ws.length = 0 := by injection h
     omega
    ·simp at hv
     obtain ⟨⟨rfl, rfl⟩, _⟩ := hv
     have := hra.map (1 + n) (by omega)
     rwa [← Nat.add_assoc] at this
   obtain ⟨u, hu2⟩ : ∃ u, u = ws[1 + n] := ⟨_, rfl⟩
   have HU := Kh hu2
   rw [← hu2] at hu hcell
   have hsu : (strOfNums u).size = u.length := strOfNums_size u
   clear hu2
   go_wp2
   have g0 : wo.grownBy (wo.alloc (.cells #[.string ⟨#[]⟩] 9)) none := World.grownBy_alloc _ _ _
   have ho := World.ownsRow_lit (e := 9) (size := 1) wo #[.string ⟨#[]⟩] 1 (Nat.le_refl _) (by unfold maxLen; omega) (by simp)
   go_loopw [8, 22] (fun v i wq => ∃ (sb : Option Addr) (cb j : Nat), i = .int .i64 j ∧ j ≤ u.length ∧ v = .slice sb (1 + j) cb ∧
     wq.ownsRow wo.heap.size 9 1 (.slice sb (1 + j) cb) (1 + j) (strs (uK u j)) ∧ wo.grownBy wq none)
    (fun _ i _ => u.length - (intOf i).toNat)
   case atStart => exact ⟨_, _, 0, rfl, Nat.zero_le _, rfl, ho, g0⟩
   case round =>
    clear g0 ho
    obtain ⟨sb, cb, j, rfl, hj, rfl, hownb, hgq⟩ := hrel
    by_cases hjl : j < u.length
    ·have hex := extract_one u j hjl
     go_wp2_with (at_builtin; refine app1 rfl _ _ _ rfl tL wo.heap.size _ (1 + j) (strs (uK u j)) rfl hownb _ rfl rfl ?c1 ?c2 ?c3 ?_)
     case c1 => unfold maxLen; omega
     case c2 => omega
     case c3 => exact hgq.size
     intro sb' cb' w3 hown3 hg3 _
     have hb3 := fun q (e : (Value.slice sb (1 + j) cb).ownBlock = some q) => (hownb.lt q e).1
     have hg4 := zB hgq hg3 hb3
     have e1 : strs (uK u (j + 1)) = strs (uK u j) ++ [.string (strOfNums [u[j]])] := by
      rw [uK, uK, List.take_succ_eq_append_getElem hjl, List.map_append, ← List.append_assoc, tY]; rfl
     have HE := Kh e1; have HO3 := Kh hown3
     clear hownb hgq hg3 hex e1 hown3
     go_wp2
     go_roundw
     case rel => exact ⟨sb', cb', j + 1, by go_num, by omega, rfl, by rw [HE.out]; exact HO3.out, hg4⟩
     case measure => simp [intOf]; omega
    ·obtain ⟨ub, hub⟩ : ∃ ub, ub = uK u j := ⟨_, rfl⟩
     have hubl : ub.length = 1 + j := by rw [hub]; simp [uK]; omega
     have hubp : vE ws[1 + n] = ub ++ [[]] := by rw [← HU.out, hub, uK, List.take_of_length_le (by omega)]; rfl
     rw [← hub] at hownb
     have HUB := Kh hubl; have HUP := Kh hubp; clear hub hubl hubp
     have hown2 := hown.kept hgq (by cases (Value.slice sa n c).ownBlock <;> simp)
     have hT2 := hT.kept hgq (by simp)
     have hSV2 := HSV.out.kept hgq (by simp)
     have HS2 := Kh hSV2
     have hgw := zH hg hgq
     have hsq := hgq.size
     clear hown hT hg hSV2 HSV
     go_wp2_with (at_builtin; refine app1 rfl (.tmp 35) (.tmp 36) _ rfl tL wo.heap.size _ (1 + j) (strs ub) rfl hownb _ rfl rfl ?c1 ?c2 ?c3 ?_)
     case c1 => unfold maxLen; omega
     case c2 => omega
     case c3 => exact hsq
     intro sb' cb' w3 hown3 hg3 _
     have hb3 := fun q (e : (Value.slice sb (1 + j) cb).ownBlock = some q) => (hownb.lt q e).1
     have hot := yQ hownb (e' := 36) (by decide)
     have hown4 := hown2.kept hg3 (by
      rcases hv : (Value.slice sa n c).ownBlock with _ | q
      ·exact .inl rfl
      ·refine .inr fun e => ?_
       obtain ⟨cur', e', m', hq, hne⟩ := hot q e.symm
       have := zK hown2 hq (fun h => hne h.symm)
       exact this hv)
     have hT4 := hT2.kept hg3 (fun q e => .inl (by have := hb3 q e; omega))
     have hS4 := HS2.out.kept hg3 (fun q e => .inl (hb3 q e))
     have hg4 := zB hgw hg3 (fun q e => by have := hb3 q e; have := hgw.size; omega)
     have hl3 : ub.length + 1 = (ub ++ [[]]).length := by simp
     have hR := RowT.of_owns hown3
     have e3 : strs ub ++ [.string ⟨#[]⟩] = strs (vE ws[1 + n]) := by rw [HUP.out, tY]; rfl
     rw [e3] at hR
     have E3 := Kh e3; have HR := Kh hR
     have hs3 := hg3.size
     clear hownb hown2 hown3 hT2 HS2 hg3 hot e3 hR hgw hgq hb3
     go_wp2_with (at_builtin; refine app1 rfl (.tmp 34) (.tmp 39) _ rfl elem_pat w1.heap.size _ n svs rfl hown4 _ rfl rfl ?c1 ?c2 ?c3 ?_)
     case c1 => unfold maxLen; omega
     case c2 => omega
     case c3 => omega
     intro sa5 c5 w5 hown5 hg5 _
     have hb5 := fun q (e : (Value.slice sa n c).ownBlock = some q) => (hown4.lt q e).1
     have hot5 := yQ hown4 (e' := 9) (by decide)
     have hT5 := hT4.kept hg5 (fun q e => .inl (hb5 q e))
     have hS5 := (hS4.mono (by omega)).snoc (HR.out)
     have hs5 := hg5.size
     have hS6 := (hS5.kept hg5 (fun q e => .inr (hot5 q e))).mono hs5
     have hg6 := zB hg4 hg5 (fun q e => by have := hb5 q e; omega)
     clear hown4 hT4 hS4 hg4 hg5 hot5 hS5
     have HS6 := Kh hS6; clear hS6
     go_wp2
     go_roundw
     case rel =>
      refine ⟨sa5, c5, n + 1, _, by go_num, by omega, rfl, hown5, ?_, hT5, hg6, by omega⟩
      have e7 : ((ws.drop 1).take (n + 1)).map vE = ((ws.drop 1).take n).map vE ++ [vE ws[1 + n]] := by
       rw [List.take_succ_eq_append_getElem (by simp; omega), List.map_append]; simp [Nat.add_comm]
      rw [e7]; exact HS6.out
     case measure => simp [intOf]; omega
  ·have hnn : n = ws.length - 1 := by omega
   have e8 : ((ws.drop 1).take n).map vE = (ws.drop 1).map vE := by rw [List.take_of_length_le (by simp; omega)]
   have hl8 : ((ws.drop 1).map vE).length = n := by simp; omega
   have HL8 := Kh hl8; have E8 := Kh e8
   clear hnn e8 hl8
   go_wp2
   go_ret
   exact ⟨sa, c, svs, by rw [HL8.out]; rfl, by rw [HL8.out]; exact RowT.of_owns hown, by rw [← E8.out]; exact HSV.out, hg⟩
end Go.Proofs.Ytgbfaggnnfoamaa
