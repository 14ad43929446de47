/- Part 8 of the proof: Ends. -/
import Derived.Test.YtgbfaggnnfoamaaZf7
set_option linter.unusedVariables false
set_option linter.unusedSimpArgs false
namespace Go.Proofs.Ytgbfaggnnfoamaa
open Go.RowKit
def oneB (u : List Int) : List (List Int) := [u]
def sufB (u : List Int) : List (List Int) := [[], u]
def preB (u : List Int) : List (List Int) := [u, []]
def facB (u : List Int) : List (List Int) := [[], u, []]
theorem yI {letters k : Nat} (h : 1 ≤ letters) : 1 ≤ (upTo letters (k + 1)).length := by
 rw [zM, List.length_append, zT]
 have := Nat.one_le_pow k letters (by omega); omega
theorem yL {letters k : Nat} (h : 1 ≤ letters) (hk : 1 ≤ k) : 2 ≤ (upTo letters (k + 1)).length := by
 obtain ⟨k', rfl⟩ : ∃ k', k = k' + 1 := ⟨k - 1, by omega⟩
 rw [zM, zM, List.length_append, List.length_append, zT, zT]
 have := Nat.one_le_pow k' letters (by omega); have := Nat.one_le_pow (k' + 1) letters (by omega); omega
theorem yA {letters n : Nat} (hn : n ≤ 9) {u : List Int} (hu : u ∈ upTo letters n) : u.length ≤ 8 := by
 simp only [upTo, List.mem_flatMap, List.mem_range] at hu
 obtain ⟨m, hm, hu⟩ := hu
 rw [(yU hu).1]; omega
theorem zI {α β : Type} (f : α → β) (l : List α) (j : Nat) (h : j < l.length) : (l.take (j + 1)).map f = (l.take j).map f ++ [f l[j]] := by
 rw [List.take_succ_eq_append_getElem h, List.map_append]; rfl
set_option maxRecDepth 100000 in
set_option maxHeartbeats 1000000 in
theorem ends1_any (letters k : Nat) (w : World) (h1 : 1 ≤ letters) (h6 : letters ≤ 6) (hk : k ≤ 8) :
  Calls Try.prog 29 #[.int .i64 1, .int .i64 letters, .int .i64 (k : Int)] w (yS w ([] ++ ((upTo letters (k + 1)).drop 0).map oneB)) := by
 obtain ⟨wa, hwa⟩ : ∃ wa, wa = upTo letters (k + 1) := ⟨_, rfl⟩
 have hpa : 1 ≤ wa.length := by rw [hwa]; exact yI h1
 have hla : wa.length ≤ 20000000 := by rw [hwa]; have := zJ letters h6 (k + 1) (by omega); omega
 rw [← hwa]
 have HW_wa := Kh hwa
 have HCA := Kh (yH letters k w h1 h6 (by omega))
 rw [← hwa] at HCA
 clear hwa
 go_enter Try.func29, Try.ntmps29
 go_wp2_with fail
 refine HCA.out.mono ?_
 rintro e w1 ⟨sa, sc, rfl, hrow, hg1⟩
 obtain ⟨b, off, rfl, hc1, hc2⟩ := zS hrow (by omega)
 have HZ1 := Kh hg1.size
 clear HCA
 unfold maxLen at hc2
 go_wp2
 go_loopw [8, 27] (fun v i wr => ∃ (sl : Option Addr) (c j : Nat) (svs : List Value), i = .int .i64 j ∧ j ≤ wa.length ∧ v = .slice sl j c ∧
   PatsUp w1.heap.size wr v j svs ([] ++ ((wa.drop 0).take j).map oneB) ∧ RowT w1.heap.size 9 wr (.slice (some ⟨b, off, none⟩) wa.length sc) (strs wa) ∧ w.grownBy wr none ∧ w1.heap.size ≤ wr.heap.size)
  (fun _ i _ => wa.length - (intOf i).toNat)
 case atStart => exact ⟨_, _, 0, _, rfl, Nat.zero_le _, rfl, by simpa using PatsUp.nil _ _, hrow, hg1, Nat.le_refl _⟩
 case round =>
  clear hrow hg1
  obtain ⟨sl, c, j, svs, rfl, hj, rfl, hpu, hT, hg, hs⟩ := hrel
  have HPU := Kh hpu
  clear hpu
  by_cases hlt : j < wa.length
  ·have hlt' : (j : Int) < ((wa.length : Nat) : Int) := by omega
   have hcell : wr.cell? ⟨b, off + j, none⟩ = some (.string (strOfNums wa[j])) := by
    have := zL hT (i := j) (by omega)
    exact this
   have hu := yA (letters := letters) (n := k + 1) (by omega) (u := wa[j]) (by rw [← HW_wa.out]; exact List.getElem_mem (by omega))
   obtain ⟨u, hu2⟩ : ∃ u, u = wa[j] := ⟨_, rfl⟩
   have HU := Kh hu2
   rw [← hu2] at hu hcell
   clear hu2
   have hol := HPU.out.own.alloc (.cells #[.string (strOfNums u)] 9)
   go_wp2_with (at_builtin; refine app1 rfl (.tmp 31) (.tmp 35) _ rfl zG w1.heap.size _ j svs rfl hol _ (by rw [zB]; rfl) rfl ?c1 ?c2 ?c3 ?_)
   case c1 => unfold maxLen; omega
   case c2 => omega
   case c3 => rw [zB]; have := hg.size; have := HZ1.out; omega
   intro sl' c' w3 hown3 hg3 _
   obtain ⟨hp3, hg4⟩ := HPU.out.push (us := oneB u) (cs := #[.string (strOfNums u)]) (q := 1) rfl rfl (by unfold maxLen; omega) hown3 hg3
   have hb3 := fun q (e : (Value.slice sl j c).ownBlock = some q) => (HPU.out.own.lt q e).1
   have hT3 := hT.kept hg4 (fun q e => .inr (zH HPU.out.own (by decide) q e))
   have hg5 := zA hg hg4 (fun q e => by have := hb3 q e; have := HZ1.out; omega)
   have hs5 := hg4.size
   have HP3 := Kh hp3
   clear hown3 hg3 hol hcell hg4 hp3 hT
   go_wp2
   go_roundw
   case rel =>
    refine ⟨sl', c', j + 1, svs ++ [Value.slice (some ⟨wr.heap.size, 0, none⟩) 1 1], by go_num, by omega, rfl, ?_, hT3, hg5, by omega⟩
    have e7 : [] ++ ((wa.drop 0).take (j + 1)).map oneB = ([] ++ ((wa.drop 0).take j).map oneB) ++ [oneB u] := by
     have e9 : (wa.drop 0)[j]'(by rw [List.length_drop]; omega) = u := by rw [HU.out]; simp
     rw [zI oneB _ j (by rw [List.length_drop]; omega), e9]; simp only [List.append_assoc]
    rw [e7]; exact HP3.out
   case measure => simp [intOf]; omega
  ·obtain rfl : j = wa.length := by omega
   have e8 : [] ++ ((wa.drop 0).take (wa.length)).map oneB = [] ++ (wa.drop 0).map oneB := by rw [List.take_of_length_le (by rw [List.length_drop]; omega)]
   rw [e8] at HPU
   clear e8 hlt
   go_wp2
   go_ret
   exact HPU.out.listed hg (by simp <;> omega)
set_option maxRecDepth 100000 in
set_option maxHeartbeats 1000000 in
theorem ends2_any (letters k kk : Nat) (w : World) (h1 : 1 ≤ letters) (h6 : letters ≤ 6) (hk : k ≤ 7) (hkk : kk = k + 1) :
  Calls Try.prog 29 #[.int .i64 2, .int .i64 letters, .int .i64 (kk : Int)] w (yS w (([] ++ ((upTo letters (k + 1)).drop 0).map oneB) ++ ((upTo letters (kk + 1)).drop 1).map preB)) := by
 obtain ⟨wa, hwa⟩ : ∃ wa, wa = upTo letters (k + 1) := ⟨_, rfl⟩
 have hpa : 1 ≤ wa.length := by rw [hwa]; exact yI h1
 have hla : wa.length ≤ 20000000 := by rw [hwa]; have := zJ letters h6 (k + 1) (by omega); omega
 rw [← hwa]
 have HW_wa := Kh hwa
 have HCA := Kh (yH letters k w h1 h6 (by omega))
 rw [← hwa] at HCA
 clear hwa
 obtain ⟨wb, hwb⟩ : ∃ wb, wb = upTo letters (kk + 1) := ⟨_, rfl⟩
 have hpb : 2 ≤ wb.length := by rw [hwb]; exact yL h1 (by omega)
 have hlb : wb.length ≤ 20000000 := by rw [hwb]; have := zJ letters h6 (kk + 1) (by omega); omega
 rw [← hwb]
 have HW_wb := Kh hwb
 have HCB : Hid (∀ W, Calls Try.prog 52 #[.int .i64 letters, .int .i64 (kk : Int)] W (xU W wb)) := Kh (fun W => by rw [hwb]; exact yH letters kk W h1 h6 (by omega))
 clear hwb
 have hk1 : (kk : Int) - 1 = (k : Int) := by omega
 have hkk' : kk ≤ 8 := by omega
 clear hkk
 go_enter Try.func29, Try.ntmps29
 go_wp2_with fail
 refine HCA.out.mono ?_
 rintro e w1 ⟨sa, sc, rfl, hrow, hg1⟩
 obtain ⟨b, off, rfl, hc1, hc2⟩ := zS hrow (by omega)
 have HZ1 := Kh hg1.size
 clear HCA
 unfold maxLen at hc2
 go_wp2
 go_loopw [8, 27] (fun v i wr => ∃ (sl : Option Addr) (c j : Nat) (svs : List Value), i = .int .i64 j ∧ j ≤ wa.length ∧ v = .slice sl j c ∧
   PatsUp w1.heap.size wr v j svs ([] ++ ((wa.drop 0).take j).map oneB) ∧ RowT w1.heap.size 9 wr (.slice (some ⟨b, off, none⟩) wa.length sc) (strs wa) ∧ w.grownBy wr none ∧ w1.heap.size ≤ wr.heap.size)
  (fun _ i _ => wa.length - (intOf i).toNat)
 case atStart => exact ⟨_, _, 0, _, rfl, Nat.zero_le _, rfl, by simpa using PatsUp.nil _ _, hrow, hg1, Nat.le_refl _⟩
 case round =>
  clear hrow hg1
  obtain ⟨sl, c, j, svs, rfl, hj, rfl, hpu, hT, hg, hs⟩ := hrel
  have HPU := Kh hpu
  clear hpu
  by_cases hlt : j < wa.length
  ·have hlt' : (j : Int) < ((wa.length : Nat) : Int) := by omega
   have hcell : wr.cell? ⟨b, off + j, none⟩ = some (.string (strOfNums wa[j])) := by
    have := zL hT (i := j) (by omega)
    exact this
   have hu := yA (letters := letters) (n := k + 1) (by omega) (u := wa[j]) (by rw [← HW_wa.out]; exact List.getElem_mem (by omega))
   obtain ⟨u, hu2⟩ : ∃ u, u = wa[j] := ⟨_, rfl⟩
   have HU := Kh hu2
   rw [← hu2] at hu hcell
   clear hu2
   have hol := HPU.out.own.alloc (.cells #[.string (strOfNums u)] 9)
   go_wp2_with (at_builtin; refine app1 rfl (.tmp 31) (.tmp 35) _ rfl zG w1.heap.size _ j svs rfl hol _ (by rw [zB]; rfl) rfl ?c1 ?c2 ?c3 ?_)
   case c1 => unfold maxLen; omega
   case c2 => omega
   case c3 => rw [zB]; have := hg.size; have := HZ1.out; omega
   intro sl' c' w3 hown3 hg3 _
   obtain ⟨hp3, hg4⟩ := HPU.out.push (us := oneB u) (cs := #[.string (strOfNums u)]) (q := 1) rfl rfl (by unfold maxLen; omega) hown3 hg3
   have hb3 := fun q (e : (Value.slice sl j c).ownBlock = some q) => (HPU.out.own.lt q e).1
   have hT3 := hT.kept hg4 (fun q e => .inr (zH HPU.out.own (by decide) q e))
   have hg5 := zA hg hg4 (fun q e => by have := hb3 q e; have := HZ1.out; omega)
   have hs5 := hg4.size
   have HP3 := Kh hp3
   clear hown3 hg3 hol hcell hg4 hp3 hT
   go_wp2
   go_roundw
   case rel =>
    refine ⟨sl', c', j + 1, svs ++ [Value.slice (some ⟨wr.heap.size, 0, none⟩) 1 1], by go_num, by omega, rfl, ?_, hT3, hg5, by omega⟩
    have e7 : [] ++ ((wa.drop 0).take (j + 1)).map oneB = ([] ++ ((wa.drop 0).take j).map oneB) ++ [oneB u] := by
     have e9 : (wa.drop 0)[j]'(by rw [List.length_drop]; omega) = u := by rw [HU.out]; simp
     rw [zI oneB _ j (by rw [List.length_drop]; omega), e9]; simp only [List.append_assoc]
    rw [e7]; exact HP3.out
   case measure => simp [intOf]; omega
  ·obtain rfl : j = wa.length := by omega
   have e8 : [] ++ ((wa.drop 0).take (wa.length)).map oneB = [] ++ (wa.drop 0).map oneB := by rw [List.take_of_length_le (by rw [List.length_drop]; omega)]
   rw [e8] at HPU
   clear e8 hlt
   go_wp2_with fail
   refine (HCB.out _).mono ?_
   rintro e w2 ⟨sa2, sc2, rfl, hrow2, hg2⟩
   have hpu2 := HPU.out.kept hg2 (by simp)
   have hgw2 := zA hg hg2 (by simp)
   obtain ⟨b2, off2, rfl, hd1, hd2⟩ := zS hrow2 (by omega)
   have hd3 : (1 : Int) < sc2 := by omega
   have hz12 : w1.heap.size ≤ w2.heap.size := Nat.le_trans hs hg2.size
   unfold maxLen at hd2
   clear hT hg hg2 HPU hs
   have HPU2 := Kh hpu2
   clear hpu2
   go_wp2
   go_loopw [8, 64] (fun v i wr => ∃ (sl : Option Addr) (c j : Nat) (svs : List Value), i = .int .i64 j ∧ j ≤ wb.length - 1 ∧ v = .slice sl ((wa.length) + j) c ∧
     PatsUp w1.heap.size wr v ((wa.length) + j) svs (([] ++ (wa.drop 0).map oneB) ++ ((wb.drop 1).take j).map preB) ∧ RowT w2.heap.size 9 wr (.slice (some ⟨b2, off2, none⟩) wb.length sc2) (strs wb) ∧ w.grownBy wr none ∧ w2.heap.size ≤ wr.heap.size)
    (fun _ i _ => wb.length - 1 - (intOf i).toNat)
   case atStart => exact ⟨_, _, 0, _, rfl, Nat.zero_le _, rfl, by simpa using HPU2.out, hrow2, hgw2, Nat.le_refl _⟩
   case round =>
    clear hrow2 hgw2 HPU2
    obtain ⟨sl, c, j, svs, rfl, hj, rfl, hpu, hT, hg, hs⟩ := hrel
    have HPU := Kh hpu
    clear hpu
    by_cases hlt : j < wb.length - 1
    ·have hlt' : (j : Int) < ((wb.length - 1 : Nat) : Int) := by omega
     have hcell : wr.cell? ⟨b2, off2 + 1 + j, none⟩ = some (.string (strOfNums wb[1 + j])) := by
      have := zL hT (i := 1 + j) (by omega)
      rwa [← Nat.add_assoc] at this
     have hu := yA (letters := letters) (n := kk + 1) (by omega) (u := wb[1 + j]) (by rw [← HW_wb.out]; exact List.getElem_mem (by omega))
     obtain ⟨u, hu2⟩ : ∃ u, u = wb[1 + j] := ⟨_, rfl⟩
     have HU := Kh hu2
     rw [← hu2] at hu hcell
     clear hu2
     have hol := HPU.out.own.alloc (.cells #[.string (strOfNums u), .string ⟨#[]⟩] 9)
     go_wp2_with (at_builtin; refine app1 rfl (.tmp 68) (.tmp 72) _ rfl zG w1.heap.size _ ((wa.length) + j) svs rfl hol _ (by rw [zB]; rfl) rfl ?c1 ?c2 ?c3 ?_)
     case c1 => unfold maxLen; omega
     case c2 => omega
     case c3 => rw [zB]; have := hg.size; have := HZ1.out; omega
     intro sl' c' w3 hown3 hg3 _
     obtain ⟨hp3, hg4⟩ := HPU.out.push (us := preB u) (cs := #[.string (strOfNums u), .string ⟨#[]⟩]) (q := 2) rfl rfl (by unfold maxLen; omega) hown3 hg3
     have hb3 := fun q (e : (Value.slice sl ((wa.length) + j) c).ownBlock = some q) => (HPU.out.own.lt q e).1
     have hT3 := hT.kept hg4 (fun q e => .inr (zH HPU.out.own (by decide) q e))
     have hg5 := zA hg hg4 (fun q e => by have := hb3 q e; have := HZ1.out; omega)
     have hs5 := hg4.size
     have HP3 := Kh hp3
     clear hown3 hg3 hol hcell hg4 hp3 hT
     go_wp2
     go_roundw
     case rel =>
      refine ⟨sl', c', j + 1, svs ++ [Value.slice (some ⟨wr.heap.size, 0, none⟩) 2 2], by go_num, by omega, rfl, ?_, hT3, hg5, by omega⟩
      have e7 : ([] ++ (wa.drop 0).map oneB) ++ ((wb.drop 1).take (j + 1)).map preB = (([] ++ (wa.drop 0).map oneB) ++ ((wb.drop 1).take j).map preB) ++ [preB u] := by
       have e9 : (wb.drop 1)[j]'(by rw [List.length_drop]; omega) = u := by rw [HU.out]; simp [Nat.add_comm]
       rw [zI preB _ j (by rw [List.length_drop]; omega), e9]; simp only [List.append_assoc]
      rw [e7]; exact HP3.out
     case measure => simp [intOf]; omega
    ·obtain rfl : j = wb.length - 1 := by omega
     have e8 : ([] ++ (wa.drop 0).map oneB) ++ ((wb.drop 1).take (wb.length - 1)).map preB = ([] ++ (wa.drop 0).map oneB) ++ (wb.drop 1).map preB := by rw [List.take_of_length_le (by rw [List.length_drop]; omega)]
     rw [e8] at HPU
     clear e8 hlt
     go_wp2
     go_ret
     exact HPU.out.listed hg (by simp <;> omega)
set_option maxRecDepth 100000 in
set_option maxHeartbeats 1000000 in
theorem ends3_any (letters k kk : Nat) (w : World) (h1 : 1 ≤ letters) (h6 : letters ≤ 6) (hk : k ≤ 7) (hkk : kk = k + 1) :
  Calls Try.prog 29 #[.int .i64 3, .int .i64 letters, .int .i64 (kk : Int)] w (yS w (([] ++ ((upTo letters (k + 1)).drop 0).map oneB) ++ ((upTo letters (kk + 1)).drop 1).map sufB)) := by
 obtain ⟨wa, hwa⟩ : ∃ wa, wa = upTo letters (k + 1) := ⟨_, rfl⟩
 have hpa : 1 ≤ wa.length := by rw [hwa]; exact yI h1
 have hla : wa.length ≤ 20000000 := by rw [hwa]; have := zJ letters h6 (k + 1) (by omega); omega
 rw [← hwa]
 have HW_wa := Kh hwa
 have HCA := Kh (yH letters k w h1 h6 (by omega))
 rw [← hwa] at HCA
 clear hwa
 obtain ⟨wb, hwb⟩ : ∃ wb, wb = upTo letters (kk + 1) := ⟨_, rfl⟩
 have hpb : 2 ≤ wb.length := by rw [hwb]; exact yL h1 (by omega)
 have hlb : wb.length ≤ 20000000 := by rw [hwb]; have := zJ letters h6 (kk + 1) (by omega); omega
 rw [← hwb]
 have HW_wb := Kh hwb
 have HCB : Hid (∀ W, Calls Try.prog 52 #[.int .i64 letters, .int .i64 (kk : Int)] W (xU W wb)) := Kh (fun W => by rw [hwb]; exact yH letters kk W h1 h6 (by omega))
 clear hwb
 have hk1 : (kk : Int) - 1 = (k : Int) := by omega
 have hkk' : kk ≤ 8 := by omega
 clear hkk
 go_enter Try.func29, Try.ntmps29
 go_wp2_with fail
 refine HCA.out.mono ?_
 rintro e w1 ⟨sa, sc, rfl, hrow, hg1⟩
 obtain ⟨b, off, rfl, hc1, hc2⟩ := zS hrow (by omega)
 have HZ1 := Kh hg1.size
 clear HCA
 unfold maxLen at hc2
 go_wp2
 go_loopw [8, 27] (fun v i wr => ∃ (sl : Option Addr) (c j : Nat) (svs : List Value), i = .int .i64 j ∧ j ≤ wa.length ∧ v = .slice sl j c ∧
   PatsUp w1.heap.size wr v j svs ([] ++ ((wa.drop 0).take j).map oneB) ∧ RowT w1.heap.size 9 wr (.slice (some ⟨b, off, none⟩) wa.length sc) (strs wa) ∧ w.grownBy wr none ∧ w1.heap.size ≤ wr.heap.size)
  (fun _ i _ => wa.length - (intOf i).toNat)
 case atStart => exact ⟨_, _, 0, _, rfl, Nat.zero_le _, rfl, by simpa using PatsUp.nil _ _, hrow, hg1, Nat.le_refl _⟩
 case round =>
  clear hrow hg1
  obtain ⟨sl, c, j, svs, rfl, hj, rfl, hpu, hT, hg, hs⟩ := hrel
  have HPU := Kh hpu
  clear hpu
  by_cases hlt : j < wa.length
  ·have hlt' : (j : Int) < ((wa.length : Nat) : Int) := by omega
   have hcell : wr.cell? ⟨b, off + j, none⟩ = some (.string (strOfNums wa[j])) := by
    have := zL hT (i := j) (by omega)
    exact this
   have hu := yA (letters := letters) (n := k + 1) (by omega) (u := wa[j]) (by rw [← HW_wa.out]; exact List.getElem_mem (by omega))
   obtain ⟨u, hu2⟩ : ∃ u, u = wa[j] := ⟨_, rfl⟩
   have HU := Kh hu2
   rw [← hu2] at hu hcell
   clear hu2
   have hol := HPU.out.own.alloc (.cells #[.string (strOfNums u)] 9)
   go_wp2_with (at_builtin; refine app1 rfl (.tmp 31) (.tmp 35) _ rfl zG w1.heap.size _ j svs rfl hol _ (by rw [zB]; rfl) rfl ?c1 ?c2 ?c3 ?_)
   case c1 => unfold maxLen; omega
   case c2 => omega
   case c3 => rw [zB]; have := hg.size; have := HZ1.out; omega
   intro sl' c' w3 hown3 hg3 _
   obtain ⟨hp3, hg4⟩ := HPU.out.push (us := oneB u) (cs := #[.string (strOfNums u)]) (q := 1) rfl rfl (by unfold maxLen; omega) hown3 hg3
   have hb3 := fun q (e : (Value.slice sl j c).ownBlock = some q) => (HPU.out.own.lt q e).1
   have hT3 := hT.kept hg4 (fun q e => .inr (zH HPU.out.own (by decide) q e))
   have hg5 := zA hg hg4 (fun q e => by have := hb3 q e; have := HZ1.out; omega)
   have hs5 := hg4.size
   have HP3 := Kh hp3
   clear hown3 hg3 hol hcell hg4 hp3 hT
   go_wp2
   go_roundw
   case rel =>
    refine ⟨sl', c', j + 1, svs ++ [Value.slice (some ⟨wr.heap.size, 0, none⟩) 1 1], by go_num, by omega, rfl, ?_, hT3, hg5, by omega⟩
    have e7 : [] ++ ((wa.drop 0).take (j + 1)).map oneB = ([] ++ ((wa.drop 0).take j).map oneB) ++ [oneB u] := by
     have e9 : (wa.drop 0)[j]'(by rw [List.length_drop]; omega) = u := by rw [HU.out]; simp
     rw [zI oneB _ j (by rw [List.length_drop]; omega), e9]; simp only [List.append_assoc]
    rw [e7]; exact HP3.out
   case measure => simp [intOf]; omega
  ·obtain rfl : j = wa.length := by omega
   have e8 : [] ++ ((wa.drop 0).take (wa.length)).map oneB = [] ++ (wa.drop 0).map oneB := by rw [List.take_of_length_le (by rw [List.length_drop]; omega)]
   rw [e8] at HPU
   clear e8 hlt
   go_wp2_with fail
   refine (HCB.out _).mono ?_
   rintro e w2 ⟨sa2, sc2, rfl, hrow2, hg2⟩
   have hpu2 := HPU.out.kept hg2 (by simp)
   have hgw2 := zA hg hg2 (by simp)
   obtain ⟨b2, off2, rfl, hd1, hd2⟩ := zS hrow2 (by omega)
   have hd3 : (1 : Int) < sc2 := by omega
   have hz12 : w1.heap.size ≤ w2.heap.size := Nat.le_trans hs hg2.size
   unfold maxLen at hd2
   clear hT hg hg2 HPU hs
   have HPU2 := Kh hpu2
   clear hpu2
   go_wp2
   go_loopw [8, 49] (fun v i wr => ∃ (sl : Option Addr) (c j : Nat) (svs : List Value), i = .int .i64 j ∧ j ≤ wb.length - 1 ∧ v = .slice sl ((wa.length) + j) c ∧
     PatsUp w1.heap.size wr v ((wa.length) + j) svs (([] ++ (wa.drop 0).map oneB) ++ ((wb.drop 1).take j).map sufB) ∧ RowT w2.heap.size 9 wr (.slice (some ⟨b2, off2, none⟩) wb.length sc2) (strs wb) ∧ w.grownBy wr none ∧ w2.heap.size ≤ wr.heap.size)
    (fun _ i _ => wb.length - 1 - (intOf i).toNat)
   case atStart => exact ⟨_, _, 0, _, rfl, Nat.zero_le _, rfl, by simpa using HPU2.out, hrow2, hgw2, Nat.le_refl _⟩
   case round =>
    clear hrow2 hgw2 HPU2
    obtain ⟨sl, c, j, svs, rfl, hj, rfl, hpu, hT, hg, hs⟩ := hrel
    have HPU := Kh hpu
    clear hpu
    by_cases hlt : j < wb.length - 1
    ·have hlt' : (j : Int) < ((wb.length - 1 : Nat) : Int) := by omega
     have hcell : wr.cell? ⟨b2, off2 + 1 + j, none⟩ = some (.string (strOfNums wb[1 + j])) := by
      have := zL hT (i := 1 + j) (by omega)
      rwa [← Nat.add_assoc] at this
     have hu := yA (letters := letters) (n := kk + 1) (by omega) (u := wb[1 + j]) (by rw [← HW_wb.out]; exact List.getElem_mem (by omega))
     obtain ⟨u, hu2⟩ : ∃ u, u = wb[1 + j] := ⟨_, rfl⟩
     have HU := Kh hu2
     rw [← hu2] at hu hcell
     clear hu2
     have hol := HPU.out.own.alloc (.cells #[.string ⟨#[]⟩, .string (strOfNums u)] 9)
     go_wp2_with (at_builtin; refine app1 rfl (.tmp 53) (.tmp 57) _ rfl zG w1.heap.size _ ((wa.length) + j) svs rfl hol _ (by rw [zB]; rfl) rfl ?c1 ?c2 ?c3 ?_)
     case c1 => unfold maxLen; omega
     case c2 => omega
     case c3 => rw [zB]; have := hg.size; have := HZ1.out; omega
     intro sl' c' w3 hown3 hg3 _
     obtain ⟨hp3, hg4⟩ := HPU.out.push (us := sufB u) (cs := #[.string ⟨#[]⟩, .string (strOfNums u)]) (q := 2) rfl rfl (by unfold maxLen; omega) hown3 hg3
     have hb3 := fun q (e : (Value.slice sl ((wa.length) + j) c).ownBlock = some q) => (HPU.out.own.lt q e).1
     have hT3 := hT.kept hg4 (fun q e => .inr (zH HPU.out.own (by decide) q e))
     have hg5 := zA hg hg4 (fun q e => by have := hb3 q e; have := HZ1.out; omega)
     have hs5 := hg4.size
     have HP3 := Kh hp3
     clear hown3 hg3 hol hcell hg4 hp3 hT
     go_wp2
     go_roundw
     case rel =>
      refine ⟨sl', c', j + 1, svs ++ [Value.slice (some ⟨wr.heap.size, 0, none⟩) 2 2], by go_num, by omega, rfl, ?_, hT3, hg5, by omega⟩
      have e7 : ([] ++ (wa.drop 0).map oneB) ++ ((wb.drop 1).take (j + 1)).map sufB = (([] ++ (wa.drop 0).map oneB) ++ ((wb.drop 1).take j).map sufB) ++ [sufB u] := by
       have e9 : (wb.drop 1)[j]'(by rw [List.length_drop]; omega) = u := by rw [HU.out]; simp [Nat.add_comm]
       rw [zI sufB _ j (by rw [List.length_drop]; omega), e9]; simp only [List.append_assoc]
      rw [e7]; exact HP3.out
     case measure => simp [intOf]; omega
    ·obtain rfl : j = wb.length - 1 := by omega
     have e8 : ([] ++ (wa.drop 0).map oneB) ++ ((wb.drop 1).take (wb.length - 1)).map sufB = ([] ++ (wa.drop 0).map oneB) ++ (wb.drop 1).map sufB := by rw [List.take_of_length_le (by rw [List.length_drop]; omega)]
     rw [e8] at HPU
     clear e8 hlt
     go_wp2
     go_ret
     exact HPU.out.listed hg (by simp <;> omega)
set_option maxRecDepth 100000 in
set_option maxHeartbeats 1000000 in
theorem ends4_any (letters k kk : Nat) (w : World) (h1 : 1 ≤ letters) (h6 : letters ≤ 6) (hk : k ≤ 7) (hkk : kk = k + 1) :
  Calls Try.prog 29 #[.int .i64 4, .int .i64 letters, .int .i64 (kk : Int)] w (yS w ((([] ++ ((upTo letters (k + 1)).drop 0).map oneB) ++ ((upTo letters (kk + 1)).drop 1).map sufB) ++ ((upTo letters (kk + 1)).drop 1).map preB)) := by
 obtain ⟨wa, hwa⟩ : ∃ wa, wa = upTo letters (k + 1) := ⟨_, rfl⟩
 have hpa : 1 ≤ wa.length := by rw [hwa]; exact yI h1
 have hla : wa.length ≤ 20000000 := by rw [hwa]; have := zJ letters h6 (k + 1) (by omega); omega
 rw [← hwa]
 have HW_wa := Kh hwa
 have HCA := Kh (yH letters k w h1 h6 (by omega))
 rw [← hwa] at HCA
 clear hwa
 obtain ⟨wb, hwb⟩ : ∃ wb, wb = upTo letters (kk + 1) := ⟨_, rfl⟩
 have hpb : 2 ≤ wb.length := by rw [hwb]; exact yL h1 (by omega)
 have hlb : wb.length ≤ 20000000 := by rw [hwb]; have := zJ letters h6 (kk + 1) (by omega); omega
 rw [← hwb]
 have HW_wb := Kh hwb
 have HCB : Hid (∀ W, Calls Try.prog 52 #[.int .i64 letters, .int .i64 (kk : Int)] W (xU W wb)) := Kh (fun W => by rw [hwb]; exact yH letters kk W h1 h6 (by omega))
 clear hwb
 have hk1 : (kk : Int) - 1 = (k : Int) := by omega
 have hkk' : kk ≤ 8 := by omega
 clear hkk
 go_enter Try.func29, Try.ntmps29
 go_wp2_with fail
 refine HCA.out.mono ?_
 rintro e w1 ⟨sa, sc, rfl, hrow, hg1⟩
 obtain ⟨b, off, rfl, hc1, hc2⟩ := zS hrow (by omega)
 have HZ1 := Kh hg1.size
 clear HCA
 unfold maxLen at hc2
 go_wp2
 go_loopw [8, 27] (fun v i wr => ∃ (sl : Option Addr) (c j : Nat) (svs : List Value), i = .int .i64 j ∧ j ≤ wa.length ∧ v = .slice sl j c ∧
   PatsUp w1.heap.size wr v j svs ([] ++ ((wa.drop 0).take j).map oneB) ∧ RowT w1.heap.size 9 wr (.slice (some ⟨b, off, none⟩) wa.length sc) (strs wa) ∧ w.grownBy wr none ∧ w1.heap.size ≤ wr.heap.size)
  (fun _ i _ => wa.length - (intOf i).toNat)
 case atStart => exact ⟨_, _, 0, _, rfl, Nat.zero_le _, rfl, by simpa using PatsUp.nil _ _, hrow, hg1, Nat.le_refl _⟩
 case round =>
  clear hrow hg1
  obtain ⟨sl, c, j, svs, rfl, hj, rfl, hpu, hT, hg, hs⟩ := hrel
  have HPU := Kh hpu
  clear hpu
  by_cases hlt : j < wa.length
  ·have hlt' : (j : Int) < ((wa.length : Nat) : Int) := by omega
   have hcell : wr.cell? ⟨b, off + j, none⟩ = some (.string (strOfNums wa[j])) := by
    have := zL hT (i := j) (by omega)
    exact this
   have hu := yA (letters := letters) (n := k + 1) (by omega) (u := wa[j]) (by rw [← HW_wa.out]; exact List.getElem_mem (by omega))
   obtain ⟨u, hu2⟩ : ∃ u, u = wa[j] := ⟨_, rfl⟩
   have HU := Kh hu2
   rw [← hu2] at hu hcell
   clear hu2
   have hol := HPU.out.own.alloc (.cells #[.string (strOfNums u)] 9)
   go_wp2_with (at_builtin; refine app1 rfl (.tmp 31) (.tmp 35) _ rfl zG w1.heap.size _ j svs rfl hol _ (by rw [zB]; rfl) rfl ?c1 ?c2 ?c3 ?_)
   case c1 => unfold maxLen; omega
   case c2 => omega
   case c3 => rw [zB]; have := hg.size; have := HZ1.out; omega
   intro sl' c' w3 hown3 hg3 _
   obtain ⟨hp3, hg4⟩ := HPU.out.push (us := oneB u) (cs := #[.string (strOfNums u)]) (q := 1) rfl rfl (by unfold maxLen; omega) hown3 hg3
   have hb3 := fun q (e : (Value.slice sl j c).ownBlock = some q) => (HPU.out.own.lt q e).1
   have hT3 := hT.kept hg4 (fun q e => .inr (zH HPU.out.own (by decide) q e))
   have hg5 := zA hg hg4 (fun q e => by have := hb3 q e; have := HZ1.out; omega)
   have hs5 := hg4.size
   have HP3 := Kh hp3
   clear hown3 hg3 hol hcell hg4 hp3 hT
   go_wp2
   go_roundw
   case rel =>
    refine ⟨sl', c', j + 1, svs ++ [Value.slice (some ⟨wr.heap.size, 0, none⟩) 1 1], by go_num, by omega, rfl, ?_, hT3, hg5, by omega⟩
    have e7 : [] ++ ((wa.drop 0).take (j + 1)).map oneB = ([] ++ ((wa.drop 0).take j).map oneB) ++ [oneB u] := by
     have e9 : (wa.drop 0)[j]'(by rw [List.length_drop]; omega) = u := by rw [HU.out]; simp
     rw [zI oneB _ j (by rw [List.length_drop]; omega), e9]; simp only [List.append_assoc]
    rw [e7]; exact HP3.out
   case measure => simp [intOf]; omega
  ·obtain rfl : j = wa.length := by omega
   have e8 : [] ++ ((wa.drop 0).take (wa.length)).map oneB = [] ++ (wa.drop 0).map oneB := by rw [List.take_of_length_le (by rw [List.length_drop]; omega)]
   rw [e8] at HPU
   clear e8 hlt
   go_wp2_with fail
   refine (HCB.out _).mono ?_
   rintro e w2 ⟨sa2, sc2, rfl, hrow2, hg2⟩
   have hpu2 := HPU.out.kept hg2 (by simp)
   have hgw2 := zA hg hg2 (by simp)
   obtain ⟨b2, off2, rfl, hd1, hd2⟩ := zS hrow2 (by omega)
   have hd3 : (1 : Int) < sc2 := by omega
   have hz12 : w1.heap.size ≤ w2.heap.size := Nat.le_trans hs hg2.size
   unfold maxLen at hd2
   clear hT hg hg2 HPU hs
   have HPU2 := Kh hpu2
   clear hpu2
   go_wp2
   go_loopw [8, 49] (fun v i wr => ∃ (sl : Option Addr) (c j : Nat) (svs : List Value), i = .int .i64 j ∧ j ≤ wb.length - 1 ∧ v = .slice sl ((wa.length) + j) c ∧
     PatsUp w1.heap.size wr v ((wa.length) + j) svs (([] ++ (wa.drop 0).map oneB) ++ ((wb.drop 1).take j).map sufB) ∧ RowT w2.heap.size 9 wr (.slice (some ⟨b2, off2, none⟩) wb.length sc2) (strs wb) ∧ w.grownBy wr none ∧ w2.heap.size ≤ wr.heap.size)
    (fun _ i _ => wb.length - 1 - (intOf i).toNat)
   case atStart => exact ⟨_, _, 0, _, rfl, Nat.zero_le _, rfl, by simpa using HPU2.out, hrow2, hgw2, Nat.le_refl _⟩
   case round =>
    clear hrow2 hgw2 HPU2
    obtain ⟨sl, c, j, svs, rfl, hj, rfl, hpu, hT, hg, hs⟩ := hrel
    have HPU := Kh hpu
    clear hpu
    by_cases hlt : j < wb.length - 1
    ·have hlt' : (j : Int) < ((wb.length - 1 : Nat) : Int) := by omega
     have hcell : wr.cell? ⟨b2, off2 + 1 + j, none⟩ = some (.string (strOfNums wb[1 + j])) := by
      have := zL hT (i := 1 + j) (by omega)
      rwa [← Nat.add_assoc] at this
     have hu := yA (letters := letters) (n := kk + 1) (by omega) (u := wb[1 + j]) (by rw [← HW_wb.out]; exact List.getElem_mem (by omega))
     obtain ⟨u, hu2⟩ : ∃ u, u = wb[1 + j] := ⟨_, rfl⟩
     have HU := Kh hu2
     rw [← hu2] at hu hcell
     clear hu2
     have hol := HPU.out.own.alloc (.cells #[.string ⟨#[]⟩, .string (strOfNums u)] 9)
     go_wp2_with (at_builtin; refine app1 rfl (.tmp 53) (.tmp 57) _ rfl zG w1.heap.size _ ((wa.length) + j) svs rfl hol _ (by rw [zB]; rfl) rfl ?c1 ?c2 ?c3 ?_)
     case c1 => unfold maxLen; omega
     case c2 => omega
     case c3 => rw [zB]; have := hg.size; have := HZ1.out; omega
     intro sl' c' w3 hown3 hg3 _
     obtain ⟨hp3, hg4⟩ := HPU.out.push (us := sufB u) (cs := #[.string ⟨#[]⟩, .string (strOfNums u)]) (q := 2) rfl rfl (by unfold maxLen; omega) hown3 hg3
     have hb3 := fun q (e : (Value.slice sl ((wa.length) + j) c).ownBlock = some q) => (HPU.out.own.lt q e).1
     have hT3 := hT.kept hg4 (fun q e => .inr (zH HPU.out.own (by decide) q e))
     have hg5 := zA hg hg4 (fun q e => by have := hb3 q e; have := HZ1.out; omega)
     have hs5 := hg4.size
     have HP3 := Kh hp3
     clear hown3 hg3 hol hcell hg4 hp3 hT
     go_wp2
     go_roundw
     case rel =>
      refine ⟨sl', c', j + 1, svs ++ [Value.slice (some ⟨wr.heap.size, 0, none⟩) 2 2], by go_num, by omega, rfl, ?_, hT3, hg5, by omega⟩
      have e7 : ([] ++ (wa.drop 0).map oneB) ++ ((wb.drop 1).take (j + 1)).map sufB = (([] ++ (wa.drop 0).map oneB) ++ ((wb.drop 1).take j).map sufB) ++ [sufB u] := by
       have e9 : (wb.drop 1)[j]'(by rw [List.length_drop]; omega) = u := by rw [HU.out]; simp [Nat.add_comm]
       rw [zI sufB _ j (by rw [List.length_drop]; omega), e9]; simp only [List.append_assoc]
      rw [e7]; exact HP3.out
     case measure => simp [intOf]; omega
    ·obtain rfl : j = wb.length - 1 := by omega
     have e8 : ([] ++ (wa.drop 0).map oneB) ++ ((wb.drop 1).take (wb.length - 1)).map sufB = ([] ++ (wa.drop 0).map oneB) ++ (wb.drop 1).map sufB := by rw [List.take_of_length_le (by rw [List.length_drop]; omega)]
     rw [e8] at HPU
     clear e8 hlt
     have hpu2 := HPU.out
     have HPU2 := Kh hpu2
     have hT2 := hT
     have hgw2 := hg
     have hs2 := hs
     clear hT hg HPU hs hpu2
     go_wp2
     go_loopw [8, 64] (fun v i wr => ∃ (sl : Option Addr) (c j : Nat) (svs : List Value), i = .int .i64 j ∧ j ≤ wb.length - 1 ∧ v = .slice sl ((wa.length + (wb.length - 1)) + j) c ∧
       PatsUp w1.heap.size wr v ((wa.length + (wb.length - 1)) + j) svs ((([] ++ (wa.drop 0).map oneB) ++ (wb.drop 1).map sufB) ++ ((wb.drop 1).take j).map preB) ∧ RowT w2.heap.size 9 wr (.slice (some ⟨b2, off2, none⟩) wb.length sc2) (strs wb) ∧ w.grownBy wr none ∧ w2.heap.size ≤ wr.heap.size)
      (fun _ i _ => wb.length - 1 - (intOf i).toNat)
     case atStart => exact ⟨_, _, 0, _, rfl, Nat.zero_le _, rfl, by simpa using HPU2.out, hT2, hgw2, hs2⟩
     case round =>
      clear hT2 hgw2 HPU2
      obtain ⟨sl, c, j, svs, rfl, hj, rfl, hpu, hT, hg, hs⟩ := hrel
      have HPU := Kh hpu
      clear hpu
      by_cases hlt : j < wb.length - 1
      ·have hlt' : (j : Int) < ((wb.length - 1 : Nat) : Int) := by omega
       have hcell : wr.cell? ⟨b2, off2 + 1 + j, none⟩ = some (.string (strOfNums wb[1 + j])) := by
        have := zL hT (i := 1 + j) (by omega)
        rwa [← Nat.add_assoc] at this
       have hu := yA (letters := letters) (n := kk + 1) (by omega) (u := wb[1 + j]) (by rw [← HW_wb.out]; exact List.getElem_mem (by omega))
       obtain ⟨u, hu2⟩ : ∃ u, u = wb[1 + j] := ⟨_, rfl⟩
       have HU := Kh hu2
       rw [← hu2] at hu hcell
       clear hu2
       have hol := HPU.out.own.alloc (.cells #[.string (strOfNums u), .string ⟨#[]⟩] 9)
       go_wp2_with (at_builtin; refine app1 rfl (.tmp 68) (.tmp 72) _ rfl zG w1.heap.size _ ((wa.length + (wb.length - 1)) + j) svs rfl hol _ (by rw [zB]; rfl) rfl ?c1 ?c2 ?c3 ?_)
       case c1 => unfold maxLen; omega
       case c2 => omega
       case c3 => rw [zB]; have := hg.size; have := HZ1.out; omega
       intro sl' c' w3 hown3 hg3 _
       obtain ⟨hp3, hg4⟩ := HPU.out.push (us := preB u) (cs := #[.string (strOfNums u), .string ⟨#[]⟩]) (q := 2) rfl rfl (by unfold maxLen; omega) hown3 hg3
       have hb3 := fun q (e : (Value.slice sl ((wa.length + (wb.length - 1)) + j) c).ownBlock = some q) => (HPU.out.own.lt q e).1
       have hT3 := hT.kept hg4 (fun q e => .inr (zH HPU.out.own (by decide) q e))
       have hg5 := zA hg hg4 (fun q e => by have := hb3 q e; have := HZ1.out; omega)
       have hs5 := hg4.size
       have HP3 := Kh hp3
       clear hown3 hg3 hol hcell hg4 hp3 hT
       go_wp2
       go_roundw
       case rel =>
        refine ⟨sl', c', j + 1, svs ++ [Value.slice (some ⟨wr.heap.size, 0, none⟩) 2 2], by go_num, by omega, rfl, ?_, hT3, hg5, by omega⟩
        have e7 : (([] ++ (wa.drop 0).map oneB) ++ (wb.drop 1).map sufB) ++ ((wb.drop 1).take (j + 1)).map preB = ((([] ++ (wa.drop 0).map oneB) ++ (wb.drop 1).map sufB) ++ ((wb.drop 1).take j).map preB) ++ [preB u] := by
         have e9 : (wb.drop 1)[j]'(by rw [List.length_drop]; omega) = u := by rw [HU.out]; simp [Nat.add_comm]
         rw [zI preB _ j (by rw [List.length_drop]; omega), e9]; simp only [List.append_assoc]
        rw [e7]; exact HP3.out
       case measure => simp [intOf]; omega
      ·obtain rfl : j = wb.length - 1 := by omega
       have e8 : (([] ++ (wa.drop 0).map oneB) ++ (wb.drop 1).map sufB) ++ ((wb.drop 1).take (wb.length - 1)).map preB = (([] ++ (wa.drop 0).map oneB) ++ (wb.drop 1).map sufB) ++ (wb.drop 1).map preB := by rw [List.take_of_length_le (by rw [List.length_drop]; omega)]
       rw [e8] at HPU
       clear e8 hlt
       go_wp2
       go_ret
       exact HPU.out.listed hg (by simp <;> omega)
set_option maxRecDepth 100000 in
set_option maxHeartbeats 1000000 in
theorem ends5_any (letters k kk : Nat) (w : World) (h1 : 1 ≤ letters) (h6 : letters ≤ 6) (hk : k ≤ 7) (hkk : kk = k + 1) :
  Calls Try.prog 29 #[.int .i64 5, .int .i64 letters, .int .i64 (kk : Int)] w (yS w (((([] ++ ((upTo letters (k + 1)).drop 0).map oneB) ++ ((upTo letters (kk + 1)).drop 1).map sufB) ++ ((upTo letters (kk + 1)).drop 1).map preB) ++ ((upTo letters (kk + 1)).drop 1).map facB)) := by
 obtain ⟨wa, hwa⟩ : ∃ wa, wa = upTo letters (k + 1) := ⟨_, rfl⟩
 have hpa : 1 ≤ wa.length := by rw [hwa]; exact yI h1
 have hla : wa.length ≤ 20000000 := by rw [hwa]; have := zJ letters h6 (k + 1) (by omega); omega
 rw [← hwa]
 have HW_wa := Kh hwa
 have HCA := Kh (yH letters k w h1 h6 (by omega))
 rw [← hwa] at HCA
 clear hwa
 obtain ⟨wb, hwb⟩ : ∃ wb, wb = upTo letters (kk + 1) := ⟨_, rfl⟩
 have hpb : 2 ≤ wb.length := by rw [hwb]; exact yL h1 (by omega)
 have hlb : wb.length ≤ 20000000 := by rw [hwb]; have := zJ letters h6 (kk + 1) (by omega); omega
 rw [← hwb]
 have HW_wb := Kh hwb
 have HCB : Hid (∀ W, Calls Try.prog 52 #[.int .i64 letters, .int .i64 (kk : Int)] W (xU W wb)) := Kh (fun W => by rw [hwb]; exact yH letters kk W h1 h6 (by omega))
 clear hwb
 have hk1 : (kk : Int) - 1 = (k : Int) := by omega
 have hkk' : kk ≤ 8 := by omega
 clear hkk
 go_enter Try.func29, Try.ntmps29
 go_wp2_with fail
 refine HCA.out.mono ?_
 rintro e w1 ⟨sa, sc, rfl, hrow, hg1⟩
 obtain ⟨b, off, rfl, hc1, hc2⟩ := zS hrow (by omega)
 have HZ1 := Kh hg1.size
 clear HCA
 unfold maxLen at hc2
 go_wp2
 go_loopw [8, 27] (fun v i wr => ∃ (sl : Option Addr) (c j : Nat) (svs : List Value), i = .int .i64 j ∧ j ≤ wa.length ∧ v = .slice sl j c ∧
   PatsUp w1.heap.size wr v j svs ([] ++ ((wa.drop 0).take j).map oneB) ∧ RowT w1.heap.size 9 wr (.slice (some ⟨b, off, none⟩) wa.length sc) (strs wa) ∧ w.grownBy wr none ∧ w1.heap.size ≤ wr.heap.size)
  (fun _ i _ => wa.length - (intOf i).toNat)
 case atStart => exact ⟨_, _, 0, _, rfl, Nat.zero_le _, rfl, by simpa using PatsUp.nil _ _, hrow, hg1, Nat.le_refl _⟩
 case round =>
  clear hrow hg1
  obtain ⟨sl, c, j, svs, rfl, hj, rfl, hpu, hT, hg, hs⟩ := hrel
  have HPU := Kh hpu
  clear hpu
  by_cases hlt : j < wa.length
  ·have hlt' : (j : Int) < ((wa.length : Nat) : Int) := by omega
   have hcell : wr.cell? ⟨b, off + j, none⟩ = some (.string (strOfNums wa[j])) := by
    have := zL hT (i := j) (by omega)
    exact this
   have hu := yA (letters := letters) (n := k + 1) (by omega) (u := wa[j]) (by rw [← HW_wa.out]; exact List.getElem_mem (by omega))
   obtain ⟨u, hu2⟩ : ∃ u, u = wa[j] := ⟨_, rfl⟩
   have HU := Kh hu2
   rw [← hu2] at hu hcell
   clear hu2
   have hol := HPU.out.own.alloc (.cells #[.string (strOfNums u)] 9)
   go_wp2_with (at_builtin; refine app1 rfl (.tmp 31) (.tmp 35) _ rfl zG w1.heap.size _ j svs rfl hol _ (by rw [zB]; rfl) rfl ?c1 ?c2 ?c3 ?_)
   case c1 => unfold maxLen; omega
   case c2 => omega
   case c3 => rw [zB]; have := hg.size; have := HZ1.out; omega
   intro sl' c' w3 hown3 hg3 _
   obtain ⟨hp3, hg4⟩ := HPU.out.push (us := oneB u) (cs := #[.string (strOfNums u)]) (q := 1) rfl rfl (by unfold maxLen; omega) hown3 hg3
   have hb3 := fun q (e : (Value.slice sl j c).ownBlock = some q) => (HPU.out.own.lt q e).1
   have hT3 := hT.kept hg4 (fun q e => .inr (zH HPU.out.own (by decide) q e))
   have hg5 := zA hg hg4 (fun q e => by have := hb3 q e; have := HZ1.out; omega)
   have hs5 := hg4.size
   have HP3 := Kh hp3
   clear hown3 hg3 hol hcell hg4 hp3 hT
   go_wp2
   go_roundw
   case rel =>
    refine ⟨sl', c', j + 1, svs ++ [Value.slice (some ⟨wr.heap.size, 0, none⟩) 1 1], by go_num, by omega, rfl, ?_, hT3, hg5, by omega⟩
    have e7 : [] ++ ((wa.drop 0).take (j + 1)).map oneB = ([] ++ ((wa.drop 0).take j).map oneB) ++ [oneB u] := by
     have e9 : (wa.drop 0)[j]'(by rw [List.length_drop]; omega) = u := by rw [HU.out]; simp
     rw [zI oneB _ j (by rw [List.length_drop]; omega), e9]; simp only [List.append_assoc]
    rw [e7]; exact HP3.out
   case measure => simp [intOf]; omega
  ·obtain rfl : j = wa.length := by omega
   have e8 : [] ++ ((wa.drop 0).take (wa.length)).map oneB = [] ++ (wa.drop 0).map oneB := by rw [List.take_of_length_le (by rw [List.length_drop]; omega)]
   rw [e8] at HPU
   clear e8 hlt
   go_wp2_with fail
   refine (HCB.out _).mono ?_
   rintro e w2 ⟨sa2, sc2, rfl, hrow2, hg2⟩
   have hpu2 := HPU.out.kept hg2 (by simp)
   have hgw2 := zA hg hg2 (by simp)
   obtain ⟨b2, off2, rfl, hd1, hd2⟩ := zS hrow2 (by omega)
   have hd3 : (1 : Int) < sc2 := by omega
   have hz12 : w1.heap.size ≤ w2.heap.size := Nat.le_trans hs hg2.size
   unfold maxLen at hd2
   clear hT hg hg2 HPU hs
   have HPU2 := Kh hpu2
   clear hpu2
   go_wp2
   go_loopw [8, 49] (fun v i wr => ∃ (sl : Option Addr) (c j : Nat) (svs : List Value), i = .int .i64 j ∧ j ≤ wb.length - 1 ∧ v = .slice sl ((wa.length) + j) c ∧
     PatsUp w1.heap.size wr v ((wa.length) + j) svs (([] ++ (wa.drop 0).map oneB) ++ ((wb.drop 1).take j).map sufB) ∧ RowT w2.heap.size 9 wr (.slice (some ⟨b2, off2, none⟩) wb.length sc2) (strs wb) ∧ w.grownBy wr none ∧ w2.heap.size ≤ wr.heap.size)
    (fun _ i _ => wb.length - 1 - (intOf i).toNat)
   case atStart => exact ⟨_, _, 0, _, rfl, Nat.zero_le _, rfl, by simpa using HPU2.out, hrow2, hgw2, Nat.le_refl _⟩
   case round =>
    clear hrow2 hgw2 HPU2
    obtain ⟨sl, c, j, svs, rfl, hj, rfl, hpu, hT, hg, hs⟩ := hrel
    have HPU := Kh hpu
    clear hpu
    by_cases hlt : j < wb.length - 1
    ·have hlt' : (j : Int) < ((wb.length - 1 : Nat) : Int) := by omega
     have hcell : wr.cell? ⟨b2, off2 + 1 + j, none⟩ = some (.string (strOfNums wb[1 + j])) := by
      have := zL hT (i := 1 + j) (by omega)
      rwa [← Nat.add_assoc] at this
     have hu := yA (letters := letters) (n := kk + 1) (by omega) (u := wb[1 + j]) (by rw [← HW_wb.out]; exact List.getElem_mem (by omega))
     obtain ⟨u, hu2⟩ : ∃ u, u = wb[1 + j] := ⟨_, rfl⟩
     have HU := Kh hu2
     rw [← hu2] at hu hcell
     clear hu2
     have hol := HPU.out.own.alloc (.cells #[.string ⟨#[]⟩, .string (strOfNums u)] 9)
     go_wp2_with (at_builtin; refine app1 rfl (.tmp 53) (.tmp 57) _ rfl zG w1.heap.size _ ((wa.length) + j) svs rfl hol _ (by rw [zB]; rfl) rfl ?c1 ?c2 ?c3 ?_)
     case c1 => unfold maxLen; omega
     case c2 => omega
     case c3 => rw [zB]; have := hg.size; have := HZ1.out; omega
     intro sl' c' w3 hown3 hg3 _
     obtain ⟨hp3, hg4⟩ := HPU.out.push (us := sufB u) (cs := #[.string ⟨#[]⟩, .string (strOfNums u)]) (q := 2) rfl rfl (by unfold maxLen; omega) hown3 hg3
     have hb3 := fun q (e : (Value.slice sl ((wa.length) + j) c).ownBlock = some q) => (HPU.out.own.lt q e).1
     have hT3 := hT.kept hg4 (fun q e => .inr (zH HPU.out.own (by decide) q e))
     have hg5 := zA hg hg4 (fun q e => by have := hb3 q e; have := HZ1.out; omega)
     have hs5 := hg4.size
     have HP3 := Kh hp3
     clear hown3 hg3 hol hcell hg4 hp3 hT
     go_wp2
     go_roundw
     case rel =>
      refine ⟨sl', c', j + 1, svs ++ [Value.slice (some ⟨wr.heap.size, 0, none⟩) 2 2], by go_num, by omega, rfl, ?_, hT3, hg5, by omega⟩
      have e7 : ([] ++ (wa.drop 0).map oneB) ++ ((wb.drop 1).take (j + 1)).map sufB = (([] ++ (wa.drop 0).map oneB) ++ ((wb.drop 1).take j).map sufB) ++ [sufB u] := by
       have e9 : (wb.drop 1)[j]'(by rw [List.length_drop]; omega) = u := by rw [HU.out]; simp [Nat.add_comm]
       rw [zI sufB _ j (by rw [List.length_drop]; omega), e9]; simp only [List.append_assoc]
      rw [e7]; exact HP3.out
     case measure => simp [intOf]; omega
    ·obtain rfl : j = wb.length - 1 := by omega
     have e8 : ([] ++ (wa.drop 0).map oneB) ++ ((wb.drop 1).take (wb.length - 1)).map sufB = ([] ++ (wa.drop 0).map oneB) ++ (wb.drop 1).map sufB := by rw [List.take_of_length_le (by rw [List.length_drop]; omega)]
     rw [e8] at HPU
     clear e8 hlt
     have hpu2 := HPU.out
     have HPU2 := Kh hpu2
     have hT2 := hT
     have hgw2 := hg
     have hs2 := hs
     clear hT hg HPU hs hpu2
     go_wp2
     go_loopw [8, 64] (fun v i wr => ∃ (sl : Option Addr) (c j : Nat) (svs : List Value), i = .int .i64 j ∧ j ≤ wb.length - 1 ∧ v = .slice sl ((wa.length + (wb.length - 1)) + j) c ∧
       PatsUp w1.heap.size wr v ((wa.length + (wb.length - 1)) + j) svs ((([] ++ (wa.drop 0).map oneB) ++ (wb.drop 1).map sufB) ++ ((wb.drop 1).take j).map preB) ∧ RowT w2.heap.size 9 wr (.slice (some ⟨b2, off2, none⟩) wb.length sc2) (strs wb) ∧ w.grownBy wr none ∧ w2.heap.size ≤ wr.heap.size)
      (fun _ i _ => wb.length - 1 - (intOf i).toNat)
     case atStart => exact ⟨_, _, 0, _, rfl, Nat.zero_le _, rfl, by simpa using HPU2.out, hT2, hgw2, hs2⟩
     case round =>
      clear hT2 hgw2 HPU2
      obtain ⟨sl, c, j, svs, rfl, hj, rfl, hpu, hT, hg, hs⟩ := hrel
      have HPU := Kh hpu
      clear hpu
      by_cases hlt : j < wb.length - 1
      ·have hlt' : (j : Int) < ((wb.length - 1 : Nat) : Int) := by omega
       have hcell : wr.cell? ⟨b2, off2 + 1 + j, none⟩ = some (.string (strOfNums wb[1 + j])) := by
        have := zL hT (i := 1 + j) (by omega)
        rwa [← Nat.add_assoc] at this
       have hu := yA (letters := letters) (n := kk + 1) (by omega) (u := wb[1 + j]) (by rw [← HW_wb.out]; exact List.getElem_mem (by omega))
       obtain ⟨u, hu2⟩ : ∃ u, u = wb[1 + j] := ⟨_, rfl⟩
       have HU := Kh hu2
       rw [← hu2] at hu hcell
       clear hu2
       have hol := HPU.out.own.alloc (.cells #[.string (strOfNums u), .string ⟨#[]⟩] 9)
       go_wp2_with (at_builtin; refine app1 rfl (.tmp 68) (.tmp 72) _ rfl zG w1.heap.size _ ((wa.length + (wb.length - 1)) + j) svs rfl hol _ (by rw [zB]; rfl) rfl ?c1 ?c2 ?c3 ?_)
       case c1 => unfold maxLen; omega
       case c2 => omega
       case c3 => rw [zB]; have := hg.size; have := HZ1.out; omega
       intro sl' c' w3 hown3 hg3 _
       obtain ⟨hp3, hg4⟩ := HPU.out.push (us := preB u) (cs := #[.string (strOfNums u), .string ⟨#[]⟩]) (q := 2) rfl rfl (by unfold maxLen; omega) hown3 hg3
       have hb3 := fun q (e : (Value.slice sl ((wa.length + (wb.length - 1)) + j) c).ownBlock = some q) => (HPU.out.own.lt q e).1
       have hT3 := hT.kept hg4 (fun q e => .inr (zH HPU.out.own (by decide) q e))
       have hg5 := zA hg hg4 (fun q e => by have := hb3 q e; have := HZ1.out; omega)
       have hs5 := hg4.size
       have HP3 := Kh hp3
       clear hown3 hg3 hol hcell hg4 hp3 hT
       go_wp2
       go_roundw
       case rel =>
        refine ⟨sl', c', j + 1, svs ++ [Value.slice (some ⟨wr.heap.size, 0, none⟩) 2 2], by go_num, by omega, rfl, ?_, hT3, hg5, by omega⟩
        have e7 : (([] ++ (wa.drop 0).map oneB) ++ (wb.drop 1).map sufB) ++ ((wb.drop 1).take (j + 1)).map preB = ((([] ++ (wa.drop 0).map oneB) ++ (wb.drop 1).map sufB) ++ ((wb.drop 1).take j).map preB) ++ [preB u] := by
         have e9 : (wb.drop 1)[j]'(by rw [List.length_drop]; omega) = u := by rw [HU.out]; simp [Nat.add_comm]
         rw [zI preB _ j (by rw [List.length_drop]; omega), e9]; simp only [List.append_assoc]
        rw [e7]; exact HP3.out
       case measure => simp [intOf]; omega
      ·obtain rfl : j = wb.length - 1 := by omega
       have e8 : (([] ++ (wa.drop 0).map oneB) ++ (wb.drop 1).map sufB) ++ ((wb.drop 1).take (wb.length - 1)).map preB = (([] ++ (wa.drop 0).map oneB) ++ (wb.drop 1).map sufB) ++ (wb.drop 1).map preB := by rw [List.take_of_length_le (by rw [List.length_drop]; omega)]
       rw [e8] at HPU
       clear e8 hlt
       have hpu2 := HPU.out
       have HPU2 := Kh hpu2
       have hT2 := hT
       have hgw2 := hg
       have hs2 := hs
       clear hT hg HPU hs hpu2
       go_wp2
       go_loopw [8, 79] (fun v i wr => ∃ (sl : Option Addr) (c j : Nat) (svs : List Value), i = .int .i64 j ∧ j ≤ wb.length - 1 ∧ v = .slice sl ((wa.length + (wb.length - 1) + (wb.length - 1)) + j) c ∧
         PatsUp w1.heap.size wr v ((wa.length + (wb.length - 1) + (wb.length - 1)) + j) svs (((([] ++ (wa.drop 0).map oneB) ++ (wb.drop 1).map sufB) ++ (wb.drop 1).map preB) ++ ((wb.drop 1).take j).map facB) ∧ RowT w2.heap.size 9 wr (.slice (some ⟨b2, off2, none⟩) wb.length sc2) (strs wb) ∧ w.grownBy wr none ∧ w2.heap.size ≤ wr.heap.size)
        (fun _ i _ => wb.length - 1 - (intOf i).toNat)
       case atStart => exact ⟨_, _, 0, _, rfl, Nat.zero_le _, rfl, by simpa using HPU2.out, hT2, hgw2, hs2⟩
       case round =>
        clear hT2 hgw2 HPU2
        obtain ⟨sl, c, j, svs, rfl, hj, rfl, hpu, hT, hg, hs⟩ := hrel
        have HPU := Kh hpu
        clear hpu
        by_cases hlt : j < wb.length - 1
        ·have hlt' : (j : Int) < ((wb.length - 1 : Nat) : Int) := by omega
         have hcell : wr.cell? ⟨b2, off2 + 1 + j, none⟩ = some (.string (strOfNums wb[1 + j])) := by
          have := zL hT (i := 1 + j) (by omega)
          rwa [← Nat.add_assoc] at this
         have hu := yA (letters := letters) (n := kk + 1) (by omega) (u := wb[1 + j]) (by rw [← HW_wb.out]; exact List.getElem_mem (by omega))
         obtain ⟨u, hu2⟩ : ∃ u, u = wb[1 + j] := ⟨_, rfl⟩
         have HU := Kh hu2
         rw [← hu2] at hu hcell
         clear hu2
         have hol := HPU.out.own.alloc (.cells #[.string ⟨#[]⟩, .string (strOfNums u), .string ⟨#[]⟩] 9)
         go_wp2_with (at_builtin; refine app1 rfl (.tmp 83) (.tmp 87) _ rfl zG w1.heap.size _ ((wa.length + (wb.length - 1) + (wb.length - 1)) + j) svs rfl hol _ (by rw [zB]; rfl) rfl ?c1 ?c2 ?c3 ?_)
         case c1 => unfold maxLen; omega
         case c2 => omega
         case c3 => rw [zB]; have := hg.size; have := HZ1.out; omega
         intro sl' c' w3 hown3 hg3 _
         obtain ⟨hp3, hg4⟩ := HPU.out.push (us := facB u) (cs := #[.string ⟨#[]⟩, .string (strOfNums u), .string ⟨#[]⟩]) (q := 3) rfl rfl (by unfold maxLen; omega) hown3 hg3
         have hb3 := fun q (e : (Value.slice sl ((wa.length + (wb.length - 1) + (wb.length - 1)) + j) c).ownBlock = some q) => (HPU.out.own.lt q e).1
         have hT3 := hT.kept hg4 (fun q e => .inr (zH HPU.out.own (by decide) q e))
         have hg5 := zA hg hg4 (fun q e => by have := hb3 q e; have := HZ1.out; omega)
         have hs5 := hg4.size
         have HP3 := Kh hp3
         clear hown3 hg3 hol hcell hg4 hp3 hT
         go_wp2
         go_roundw
         case rel =>
          refine ⟨sl', c', j + 1, svs ++ [Value.slice (some ⟨wr.heap.size, 0, none⟩) 3 3], by go_num, by omega, rfl, ?_, hT3, hg5, by omega⟩
          have e7 : ((([] ++ (wa.drop 0).map oneB) ++ (wb.drop 1).map sufB) ++ (wb.drop 1).map preB) ++ ((wb.drop 1).take (j + 1)).map facB = (((([] ++ (wa.drop 0).map oneB) ++ (wb.drop 1).map sufB) ++ (wb.drop 1).map preB) ++ ((wb.drop 1).take j).map facB) ++ [facB u] := by
           have e9 : (wb.drop 1)[j]'(by rw [List.length_drop]; omega) = u := by rw [HU.out]; simp [Nat.add_comm]
           rw [zI facB _ j (by rw [List.length_drop]; omega), e9]; simp only [List.append_assoc]
          rw [e7]; exact HP3.out
         case measure => simp [intOf]; omega
        ·obtain rfl : j = wb.length - 1 := by omega
         have e8 : ((([] ++ (wa.drop 0).map oneB) ++ (wb.drop 1).map sufB) ++ (wb.drop 1).map preB) ++ ((wb.drop 1).take (wb.length - 1)).map facB = ((([] ++ (wa.drop 0).map oneB) ++ (wb.drop 1).map sufB) ++ (wb.drop 1).map preB) ++ (wb.drop 1).map facB := by rw [List.take_of_length_le (by rw [List.length_drop]; omega)]
         rw [e8] at HPU
         clear e8 hlt
         go_wp2
         go_ret
         exact HPU.out.listed hg (by simp <;> omega)
end Go.Proofs.Ytgbfaggnnfoamaa
