/- Part 46 of the proof: RFamO, RFam1. -/
import Derived.Test.YtjfdomfendbhfaaQb45
set_option linter.unusedVariables false
set_option linter.unusedSimpArgs false
namespace Go.Proofs.Ytjfdomfendbhfaa
open Go.RowKit
def okP (p : List (List Int)) : Prop := p.length ≤ 100 ∧ ∀ u ∈ p, okW u ∧ u.length ≤ 8
theorem okW_nil : okW [] := fun x hx => by simp at hx
theorem genU_cases {kind : Int} {k : Nat} {u : List Int} {p : List (List Int)} (hp : p ∈ genU kind k u) : p = oneB u ∨ p = preB u ∨ p = sufB u ∨ p = facB u ∨ p = tR u := by
 unfold genU at hp
 rw [List.mem_append] at hp
 rcases hp with hp | hp
 ·split at hp
  ·exact .inl (by simpa using hp)
  ·simp at hp
 ·by_cases hu : u = []
  ·rw [if_pos hu] at hp; simp at hp
  ·rw [if_neg hu, List.mem_append, List.mem_append, List.mem_append] at hp
   rcases hp with hp | hp | hp | hp
   ·split at hp
    ·exact .inr (.inl (by simpa using hp))
    ·simp at hp
   ·split at hp
    ·exact .inr (.inr (.inl (by simpa using hp)))
    ·simp at hp
   ·split at hp
    ·exact .inr (.inr (.inr (.inl (by simpa using hp))))
    ·simp at hp
   ·split at hp
    ·exact .inr (.inr (.inr (.inr (by simpa using hp))))
    ·simp at hp
theorem genU_ok {kind : Int} {k : Nat} {u : List Int} (h : okW u) (h8 : u.length ≤ 8) {p : List (List Int)} (hp : p ∈ genU kind k u) : okP p := by
 have hn : okW [] ∧ ([] : List Int).length ≤ 8 := ⟨okW_nil, by simp⟩
 rcases genU_cases hp with rfl | rfl | rfl | rfl | rfl
 ·refine ⟨by simp [oneB], fun x hx => ?_⟩
  simp only [oneB, List.mem_singleton] at hx
  subst hx; exact ⟨h, h8⟩
 ·refine ⟨by simp [preB], fun x hx => ?_⟩
  simp only [preB, List.mem_cons, List.not_mem_nil, or_false] at hx
  rcases hx with rfl | rfl
  ·exact ⟨h, h8⟩
  ·exact hn
 ·refine ⟨by simp [sufB], fun x hx => ?_⟩
  simp only [sufB, List.mem_cons, List.not_mem_nil, or_false] at hx
  rcases hx with rfl | rfl
  ·exact hn
  ·exact ⟨h, h8⟩
 ·refine ⟨by simp [facB], fun x hx => ?_⟩
  simp only [facB, List.mem_cons, List.not_mem_nil, or_false] at hx
  rcases hx with rfl | rfl | rfl
  ·exact hn
  ·exact ⟨h, h8⟩
  ·exact hn
 ·refine ⟨by simp [tR]; omega, fun x hx => ?_⟩
  simp only [tR, List.mem_append, List.mem_singleton, List.mem_map] at hx
  rcases hx with (rfl | ⟨c, hc, rfl⟩) | rfl
  ·exact hn
  ·refine ⟨fun y hy => ?_, by simp⟩
   simp only [List.mem_singleton] at hy
   subst hy; exact h y hc
  ·exact hn
theorem chB_blk (ws : List (List Int)) : ∀ (i : Nat) {b : List (List Int)}, b ∈ chB ws i → ∀ u ∈ b, u ∈ ws
 | 0, b, h => by
  obtain ⟨v, hv, rfl⟩ := List.mem_map.1 h
  intro u hu
  simp only [oneB, List.mem_singleton] at hu
  subst hu; exact hv
 | i + 1, b, h => by
  obtain ⟨c, hc, hb⟩ := List.mem_flatMap.1 h
  obtain ⟨v, hv, rfl⟩ := List.mem_map.1 hb
  intro u hu
  rcases List.mem_append.1 hu with hu | hu
  ·exact chB_blk ws i hc u hu
  ·simp only [List.mem_singleton] at hu
   subst hu; exact List.mem_of_mem_drop hv
theorem allC_blk (ws : List (List Int)) : ∀ (i : Nat) {b : List (List Int)}, b ∈ allC ws i → b.length ≤ i + 1 ∧ ∀ u ∈ b, u ∈ ws
 | 0, b, h => by simp [allC] at h
 | i + 1, b, h => by
  rcases List.mem_append.1 h with h | h
  ·exact ⟨by have := (allC_blk ws i h).1; omega, (allC_blk ws i h).2⟩
  ·obtain ⟨c, hc, hb⟩ := List.mem_flatMap.1 h
   obtain ⟨v, hv, rfl⟩ := List.mem_map.1 hb
   refine ⟨by rw [List.length_append, lC i hc]; simp, fun u hu => ?_⟩
   rcases List.mem_append.1 hu with hu | hu
   ·exact chB_blk ws i hc u hu
   ·simp only [List.mem_singleton] at hu
    subst hu; exact hv
theorem nA {kind : Int} {L K M : Nat} (hl : L ≤ 6) (hk : K ≤ 8) (hm : M ≤ 4) {p : List (List Int)} (hp : p ∈ refL kind L K M) : okP p := by
 have hw : ∀ u ∈ yQ L K, okW u ∧ u.length ≤ 8 := fun u hu => ⟨okB hl (n := K + 1) hu, tE hk hu⟩
 rcases List.mem_append.1 hp with hp | hp
 ·obtain ⟨u, hu, hp⟩ := List.mem_flatMap.1 hp
  exact genU_ok (hw u hu).1 (hw u hu).2 hp
 ·split at hp
  ·have h := allC_blk _ _ (List.mem_of_mem_take hp)
   exact ⟨by omega, fun u hu => hw u (h.2 u hu)⟩
  ·simp at hp
theorem uW {kind : Int} {L K M : Nat} (h1 : 1 ≤ kind) (h7 : kind ≤ 7) (hn : ¬ 300 < (refL kind L K M).length) {ps : List (List (List Int))} (hs : wS ps) (hp : ps.Perm (refL kind L K M)) : ps = famP kind L K M := by
 refine sorted_is hs (jZ _ _ _ _) (hp.trans (ref_perm h1 h7 M ?_))
 by_cases hk : kind = 7
 ·refine .inl ?_
  rw [refL, if_pos hk, List.length_append, List.length_take] at hn
  omega
 ·exact .inr hk
theorem sK {kind : Int} {L K M : Nat} (h1 : 1 ≤ kind) (h7 : kind ≤ 7) (hn : ¬ 300 < (refL kind L K M).length) : (refL kind L K M).Nodup := by
 have hp : (refL kind L K M).Perm (famP kind L K M) := by
  refine ref_perm h1 h7 M ?_
  by_cases hk : kind = 7
  ·refine .inl ?_
   rw [refL, if_pos hk, List.length_append, List.length_take] at hn
   omega
  ·exact .inr hk
 exact hp.nodup_iff.2 (sortP_nodup (jZ _ _ _ _))
theorem str_byte (u : List Int) (p : Nat) (h : p < u.length) (h' : p < (strOfNums u).size) : (strOfNums u)[p]'h' = UInt8.ofNat (u[p].toNat) := by
 have e : (strOfNums u)[p]'h' = (strOfNums u).data.toList[p]'(by rw [strOfNums_data]; simpa using h) := by rw [Array.getElem_toList]; rfl
 rw [e]
 simp only [strOfNums_data, List.getElem_map]
theorem str_ascii {u : List Int} (hu : okW u) {p : Nat} (h : p < u.length) (h' : p < (strOfNums u).size) : ((strOfNums u)[p]'h').toNat < 128 := by
 obtain ⟨a, b⟩ := hu _ (List.getElem_mem h)
 rw [str_byte u p h h', UInt8.toNat_ofNat']; omega
theorem lN {w : World} {B e size n : Nat} {v : Value} {xs : List Value} {k : Nat} {s : ByteArray} {pos : Nat} (h : w.ownsRow B e size v n xs) (hk : w.heap[k]? = some (.stringIter s pos)) : some k ≠ v.ownBlock := by
 rcases h.2 with ⟨rfl, _⟩ | ⟨g, cap, cur, rfl, hb, hg, _⟩
 ·simp [Value.ownBlock]
 ·intro e
  simp only [Value.ownBlock, Option.some.injEq] at e
  subst e
  rw [hk] at hg
  cases hg
set_option maxRecDepth 100000 in
set_option maxHeartbeats 4000000 in
theorem rfam1_any (L K M : Nat) (w : World) (hl1 : 1 ≤ L) (hl6 : L ≤ 6) (hk1 : 0 ≤ K) (hk8 : K ≤ 8) (hm : M = 0) :
  Calls Try.prog 45 #[.int .i64 1, .int .i64 L, .int .i64 K, .int .i64 M] w (yY w (famE 1 L K M) (famL 1 L K M)) := by
 have HML := Kh (yL w (L : Int))
 rw [decide_eq_true (show 1 ≤ (L : Int) ∧ (L : Int) ≤ 6 by omega)] at HML
 have ho : wI 1 L K M = true := by simp [wI]; omega
 have HO := Kh ho
 have HSZ := Kh (oW (kind := 1) (letters := L) (k := K) (m := M) (by decide) (by decide) hl1 (fun _ => by omega))
 have HRL := Kh (oZ (kind := 1) (letters := L) (k := K) (by decide) (by decide) M)
 have HGE := Kh (nI (kind := 1) (L := L) (K := K) M)
 have hm1 : ((M : Int) != 0) = false := by rw [hm]; rfl
 clear ho
 skip
 have HUB : Hid (∀ i, i ≤ K → (upTo L (i + 1)).length ≤ 20000000) := Kh (fun i hi => by have := vE L hl6 (i + 1) (by omega); omega)
 go_enter Try.func45, Try.ntmps45
 go_wp2_with fail
 refine HML.out.mono ?_
 rintro e w ⟨rfl, rfl⟩
 go_wp2
 go_loopg [11, 12, 13] K (fun gh vc vi vp wr => ∃ i : Nat, gh + i = K ∧ vc = .int .i64 (((upTo L (i + 1)).length : Nat) : Int) ∧ vi = .int .i64 (i : Int) ∧ vp = .int .i64 ((L ^ i : Nat) : Int) ∧ w = wr)
 case atStart => exact ⟨0, rfl, by rw [yU, List.length_append, xO]; simp [upTo], rfl, rfl, rfl⟩
 case round =>
  obtain ⟨i, hgh, rfl, rfl, rfl, rfl⟩ := hrel
  have HGH := Kh hgh
  clear hgh
  have hb1 := HUB.out i (by have := HGH.out; omega)
  by_cases hlt : i < K
  ·have hlt' : (i : Int) < (K : Int) := by omega
   have hb2 := HUB.out (i + 1) (by omega)
   have hst := wV L i
   rw [hst] at hb2
   have HST := Kh hst
   obtain ⟨CN, hCN⟩ : ∃ CN, CN = (upTo L (i + 1)).length := ⟨_, rfl⟩
   obtain ⟨PW, hPW⟩ : ∃ PW, PW = L ^ i := ⟨_, rfl⟩
   obtain ⟨P2, hP2⟩ : ∃ P2, P2 = L ^ i * L := ⟨_, rfl⟩
   have hmul : (PW : Int) * (L : Int) = (P2 : Int) := by rw [hP2, hPW]; push_cast; rfl
   have HS2 : Hid ((upTo L (i + 1 + 1)).length = CN + P2 ∧ L ^ (i + 1) = P2) := Kh ⟨by rw [HST.out, hCN, hP2], by rw [hP2, Nat.pow_succ]⟩
   rw [← hP2, ← hCN] at hb2
   rw [← hCN, ← hPW]
   clear hst hCN hPW hP2 hb1
   go_wp2
   go_roundg (K - (i + 1))
   case measure => have := HGH.out; omega
   case rel => exact ⟨i + 1, by have := HGH.out; omega, by rw [HS2.out.1]; go_num, by go_num, by rw [HS2.out.2], rfl⟩
  ·obtain rfl : i = K := by have := HGH.out; omega
   clear hlt HUB
   obtain ⟨ws, hws⟩ : ∃ ws, ws = yQ L i := ⟨_, rfl⟩
   have HWS := Kh hws
   have hwe : upTo L (i + 1) = ws := hws.symm
   rw [hwe] at hb1 ⊢
   have HGE2 : Hid (ws.length ≤ (famP 1 L i M).length + 1) := Kh (by rw [hws]; exact HGE.out)
   have hw1 : 1 ≤ ws.length := by rw [hws]; exact rD hl1
   have H2W : Hid (1 ≤ i → 2 ≤ ws.length) := Kh (fun h => by rw [hws]; exact qG hl1 h)
   have HWN : Hid (∀ r (h : r < ws.length), (ws[r] = [] ↔ r = 0)) := Kh (by subst hws; exact fun r h => vV h)
   have HW8 : Hid (∀ u ∈ ws, u.length ≤ 8) := Kh (by subst hws; exact fun u hu => tE hk8 hu)
   have HOW : Hid (∀ u ∈ ws, okW u) := Kh (by subst hws; exact fun u hu => okB hl6 (n := i + 1) hu)
   have HUP : Hid (ws.length ≤ 301 → Calls Try.prog 76 #[.int .i64 L, .int .i64 i] w (kB w ws)) := Kh (fun h => by rw [← hwe]; exact qF L i w hl1 hl6 hk8 (by rw [hwe]; omega))
   clear hws hwe
   by_cases hbig : 300 < (ws.length : Int) - 1
   ·have h3 := wX HO.out (.inr (HSZ.out.2 (by have := HGE2.out; omega)))
    have H3 := Kh h3
    clear h3
    go_wp2
    refine bodyPost_ret (v := .tuple #[.slice none 0 0, .int .i64 3]) (by simp [results, Try.results45, go_sem]) rfl ?_
    rw [H3.out.1, H3.out.2]
    exact yY.nil (zL _ _)
   have HUP2 := Kh (HUP.out (by omega))
   clear HUP
   go_wp2_with fail
   refine HUP2.out.mono ?_
   rintro e w1 ⟨sa, sc, rfl, hrow, hg1⟩
   obtain ⟨b, off, rfl, hc1, hc2⟩ := vZ hrow (by omega)
   have hc3 : sc ≤ 9223372036854775807 := by unfold maxLen at hc2; omega
   have hw301 : ws.length ≤ 301 := by omega
   clear HUP2 hc2 hbig
   obtain ⟨ba, hba⟩ : ∃ ba, ba = w1.heap.size := ⟨_, rfl⟩
   rw [← hba] at hrow
   have hbz : ba ≤ w1.heap.size := by omega
   have hwba : w.heap.size ≤ ba := by rw [hba]; exact hg1.size
   clear hba
   go_wp2
   go_loopw [15, 90] (fun v iv wr => ∃ (j n : Nat) (sl : Option Addr) (c : Nat) (svs : List Value), iv = .int .i64 (j : Int) ∧ j ≤ ws.length ∧ v = .slice sl n c ∧
     LUp 28 ba wr (.slice sl n c) n svs (genL 1 i (ws.take j)) ∧ RowT ba 9 wr (.slice (some ⟨b, off, none⟩) ws.length sc) (strs ws) ∧ w.grownBy wr none ∧ ba ≤ wr.heap.size)
    (fun _ iv _ => ws.length - (intOf iv).toNat)
   case atStart => exact ⟨0, 0, none, 0, [], rfl, Nat.zero_le _, rfl, by simpa [genL] using LUp.nil (by decide) _ _, hrow, hg1, hbz⟩
   case round =>
    clear hrow hg1 hbz
    obtain ⟨j, n, sl, c, svs, rfl, hj, rfl, hlp, hT, hg, hbz⟩ := hrel
    obtain ⟨wo, rfl⟩ : ∃ wo : World, wo = wr := ⟨_, rfl⟩
    have hn : n ≤ 1600 := by
     have h1 := hlp.len
     have h2 := rM 1 i (ws.take j)
     rw [List.length_take] at h2; omega
    have HLP := Kh hlp
    clear hlp
    by_cases hlt : j < ws.length
    ·have hlt' : (j : Int) < ws.length := by omega
     have hcell := uE hT hlt
     have hu8 := HW8.out _ (List.getElem_mem hlt)
     have hsn := sR 1 i hlt
     obtain ⟨u, hu2⟩ : ∃ u, u = ws[j] := ⟨_, rfl⟩
     rw [← hu2] at hcell hu8 hsn
     rw [genU_1] at hsn
     have HU := Kh hu2; have HSN := Kh hsn
     clear hu2 hsn
     have hsu : (strOfNums u).size = u.length := strOfNums_size u
     have hemp := lX u
     by_cases he : u = []
     ·have hemp2 : (strOfNums u).toList.isEmpty = true := by rw [hemp, he]; rfl
      clear hemp
      have HEM := Kh he
      clear he
      have hol := HLP.out.own.alloc (.cells #[.string (strOfNums u)] 9)
      go_wp2_with (at_builtin; refine app1 rfl (.tmp 110) (.tmp 114) _ rfl yN ba _ n svs rfl hol _ (by rw [zJ]; rfl) rfl ?c1 ?c2 ?c3 ?_)
      case c1 => unfold maxLen; omega
      case c2 => omega
      case c3 => first | omega | (rw [zJ]; omega)
      intro sl1 c1 wp1 hown3 hg3 _
      obtain ⟨hp3, hg4⟩ := (PatsUp.mk HLP.out.own HLP.out.rows).push (us := oneB u) (cs := #[.string (strOfNums u)]) (q := 1) rfl rfl (by unfold maxLen; omega) hown3 hg3
      have hb3 := fun q (e : (Value.slice sl n c).ownBlock = some q) => (HLP.out.own.lt q e).1
      have hT' := hT.kept hg4 (fun q e => .inl (hb3 q e))
      have hg' := zA hg hg4 (fun q e => by have := hb3 q e; omega)
      have hbz' : ba ≤ wp1.heap.size := by have := hg4.size; omega
      have HLP' := Kh (LUp.ofPats hp3)
      clear hown3 hg3 hol hg4 hp3 hT hg hb3 hbz HLP hcell
      have hT := hT'; have hg := hg'; have hbz := hbz'; have HLP := HLP'
      clear hT' hg' hbz' HLP'
      obtain ⟨svs1, hsv⟩ : ∃ svs1, svs1 = svs ++ [Value.slice (some ⟨wo.heap.size, 0, none⟩) 1 1] := ⟨_, rfl⟩
      rw [← hsv] at HLP
      clear hsv
      go_wp2
      go_roundw
      case rel => exact ⟨j + 1, _, sl1, c1, _, by go_num, by omega, rfl, by rw [HSN.out]; simpa using HLP.out, hT, hg, hbz⟩
      case measure => simp [intOf]; omega
     ·have hemp2 : (strOfNums u).toList.isEmpty = false := by rw [hemp, List.isEmpty_eq_false_iff]; exact he
      clear hemp
      have HEM := Kh he
      clear he
      have hol := HLP.out.own.alloc (.cells #[.string (strOfNums u)] 9)
      go_wp2_with (at_builtin; refine app1 rfl (.tmp 110) (.tmp 114) _ rfl yN ba _ n svs rfl hol _ (by rw [zJ]; rfl) rfl ?c1 ?c2 ?c3 ?_)
      case c1 => unfold maxLen; omega
      case c2 => omega
      case c3 => first | omega | (rw [zJ]; omega)
      intro sl1 c1 wp1 hown3 hg3 _
      obtain ⟨hp3, hg4⟩ := (PatsUp.mk HLP.out.own HLP.out.rows).push (us := oneB u) (cs := #[.string (strOfNums u)]) (q := 1) rfl rfl (by unfold maxLen; omega) hown3 hg3
      have hb3 := fun q (e : (Value.slice sl n c).ownBlock = some q) => (HLP.out.own.lt q e).1
      have hT' := hT.kept hg4 (fun q e => .inl (hb3 q e))
      have hg' := zA hg hg4 (fun q e => by have := hb3 q e; omega)
      have hbz' : ba ≤ wp1.heap.size := by have := hg4.size; omega
      have HLP' := Kh (LUp.ofPats hp3)
      clear hown3 hg3 hol hg4 hp3 hT hg hb3 hbz HLP hcell
      have hT := hT'; have hg := hg'; have hbz := hbz'; have HLP := HLP'
      clear hT' hg' hbz' HLP'
      obtain ⟨svs1, hsv⟩ : ∃ svs1, svs1 = svs ++ [Value.slice (some ⟨wo.heap.size, 0, none⟩) 1 1] := ⟨_, rfl⟩
      rw [← hsv] at HLP
      clear hsv
      go_wp2
      go_roundw
      case rel => exact ⟨j + 1, _, sl1, c1, _, by go_num, by omega, rfl, by rw [HSN.out]; simpa using HLP.out, hT, hg, hbz⟩
      case measure => simp [intOf]; omega
    ·obtain rfl : j = ws.length := by omega
     rw [List.take_length] at HLP
     have HREF : Hid (refL 1 L i M = genL 1 i ws ++ []) := Kh (by rw [refL, HWS.out]; rfl)
     clear hlt hj
     rw [List.append_nil] at HREF
     clear hT
     rw [← HREF.out] at HLP
     obtain ⟨RL, hRL⟩ : ∃ RL, RL = refL 1 L i M := ⟨_, rfl⟩
     have HRLE := Kh hRL
     rw [← hRL] at HLP
     clear hRL HREF
     have hnl := HLP.out.len
     by_cases hlim : 300 < n
     ·have hlim' : (300 : Int) < (n : Int) := by omega
      have H3 := Kh (wX HO.out (.inr (HSZ.out.2 (HRL.out.1 (by rw [← HRLE.out]; omega)))))
      clear hlim
      go_wp2
      refine bodyPost_ret (v := .tuple #[.slice none 0 0, .int .i64 3]) (by simp [results, Try.results45, go_sem]) rfl ?_
      rw [H3.out.1, H3.out.2]
      exact yY.nil hg
     have hlim' : ¬ (300 : Int) < (n : Int) := by omega
     have HFS := Kh (tA HO.out (fun h => absurd h.1 (by decide)) (fun h => by have := HRL.out.2 (HSZ.out.1 h); rw [← HRLE.out] at this; omega))
     have HND : Hid RL.Nodup := Kh (by rw [HRLE.out]; exact sK (by decide) (by decide) (by rw [← HRLE.out]; omega))
     have HFIN : Hid (∀ ps, wS ps → ps.Perm RL → ps = famP 1 L i M) := Kh (fun ps h1 h2 => uW (by decide) (by decide) (by rw [← HRLE.out]; omega) h1 (by rw [← HRLE.out]; exact h2))
     have HOK : Hid (∀ p ∈ RL, okP p) := Kh (fun p hp => by rw [HRLE.out] at hp; exact nA hl6 hk8 (by omega) hp)
     have hN300 : n ≤ 300 := by omega
     have HNL := Kh hnl
     clear hlim hnl HRLE
     obtain ⟨NL, hNL⟩ : ∃ NL, NL = n := ⟨_, rfl⟩
     rw [← hNL] at HLP HNL hN300 hlim' ⊢
     clear hNL
     obtain ⟨SL, hSL⟩ : ∃ SL, SL = sl := ⟨_, rfl⟩
     rw [← hSL] at HLP ⊢
     clear hSL
     obtain ⟨SC, hSC⟩ : ∃ SC, SC = c := ⟨_, rfl⟩
     rw [← hSC] at HLP ⊢
     clear hSC
     go_wp2
     go_loopg [194] NL (fun gh iv wx => ∃ (q : Nat) (sv : List Value) (ps : List (List (List Int))), gh + q = NL ∧ iv = .int .i64 (q : Int) ∧ LUp 28 ba wx (.slice SL NL SC) NL sv ps ∧ Hid (wS (ps.take q) ∧ ps.Perm RL) ∧ w.grownBy wx none)
     case atStart => exact ⟨0, _, _, rfl, rfl, HLP.out, Kh ⟨by simp [wS], List.Perm.refl _⟩, hg⟩
     case round =>
      clear HLP hg
      obtain ⟨q, sv, ps, hgh, rfl, hlp, hso, hg⟩ := hrel
      obtain ⟨wa, rfl⟩ : ∃ wa : World, wa = wr := ⟨_, rfl⟩
      have HGH := Kh hgh; have HLP := Kh hlp
      clear hgh
      by_cases hq : q < NL
      ·have hq' : (q : Int) < (NL : Int) := by omega
       rcases id hlp.own.2 with ⟨_, e2⟩ | ⟨g, cap, cur, e1, hgb, _, hnc, hcm, _, _⟩
       ·omega
       simp only [Value.slice.injEq] at e1
       obtain ⟨rfl, _, rfl⟩ := e1
       have hSC3 : SC ≤ 9223372036854775807 := by unfold maxLen at hcm; omega
       have hwg : w.heap.size ≤ g := by omega
       have HIN : Hid (InsI RL ps q q) := Kh (sQ hso.out.1 (by have := hlp.len; omega) hso.out.2)
       clear hlp hso hcm
       go_wp2
       go_loopg [21] q (fun gh jv wx => ∃ (j : Nat) (sv : List Value) (ps : List (List (List Int))), j = gh ∧ j ≤ q ∧ jv = .int .i64 (j : Int) ∧ LUp 28 ba wx (.slice (some ⟨g, 0, none⟩) NL SC) NL sv ps ∧ Hid (InsI RL ps q j) ∧ w.grownBy wx none)
       case atStart => exact ⟨q, sv, ps, rfl, Nat.le_refl _, rfl, HLP.out, HIN, hg⟩
       case round =>
        clear HLP HIN hg
        obtain ⟨j, sv, ps, rfl, hjq, rfl, hlp, hin, hg⟩ := hrel
        obtain ⟨wb, rfl⟩ : ∃ wb : World, wb = wr := ⟨_, rfl⟩
        by_cases hj0 : j = 0
        ·subst hj0
         have HLP := Kh hlp
         clear hlp
         go_wp2
         go_quiet (fail)
         go_wp2
         go_roundg (NL - (q + 1))
         case measure => have := HGH.out; omega
         case rel => exact ⟨q + 1, sv, ps, by have := HGH.out; omega, by go_num, HLP.out.kept (zT wb _ none) (by simp), Kh (vC hin.out HND.out (.inl rfl)), zA hg (zT wb _ none) (by simp)⟩
        ·obtain ⟨k, hjk⟩ : ∃ k, j = k + 1 := ⟨j - 1, by omega⟩
         obtain ⟨a1, d1, p1, hs1, hp1, hc1', hr1⟩ := hlp.at (i := k) (by omega)
         obtain ⟨a2, d2, p2, hs2, hp2, hc2', hr2⟩ := hlp.at (i := j) (by omega)
         obtain ⟨A0, x0, B0, C0, hps0, _, _, _, _, hperm⟩ := hin.out
         have ho1 := HOK.out p1 (hperm.mem_iff.1 (List.mem_of_getElem? hp1))
         have ho2 := HOK.out p2 (hperm.mem_iff.1 (List.mem_of_getElem? hp2))
         clear hps0 hperm
         have hgd : wb.grownBy wb.drew none := zP wb none
         have HLE := Kh (qR wb.heap.size wb.heap.size wb.drew (.slice a2 p2.length d2) (.slice a1 p1.length d1) p2 p1 (hr2.kept hgd (by simp)).row (hr1.kept hgd (by simp)).row ho2.2 ho1.2 ho2.1 ho1.1)
         have HLP := Kh hlp
         have hk0 : (0 : Int) < (j : Int) := by omega
         have hk0n : 0 < j := by omega
         have hd1 : decide ((0 : Int) < (j : Int)) = true := decide_eq_true hk0
         have hd2 : decide (0 < j) = true := decide_eq_true hk0n
         have hkn : (j : Int) < (NL : Int) := by omega
         have hkn2 : (k : Int) < (NL : Int) := by omega
         have hwk : IntKind.i64.wrap ((j : Int) - 1) = (k : Int) := by rw [IntWalk.i64_in _ (by omega)]; omega
         have hwk2 : IntKind.i64.wrap (k : Int) = (k : Int) := IntWalk.i64_in _ (by omega)
         have hk00 : (0 : Int) ≤ (k : Int) := by omega
         have hk300 : (k : Int) ≤ 300 := by omega
         have hsub : (j : Int) - 1 = (k : Int) := by omega
         have HJK := Kh hjk
         have HCC : Hid (∀ W, wb.drew.grownBy W none → W.cell? ⟨g, j, none⟩ = some (.slice a2 p2.length d2) ∧ W.cell? ⟨g, k, none⟩ = some (.slice a1 p1.length d1)) := Kh (fun W hW => ⟨zQ (zQ hc2' hgd) hW, zQ (zQ hc1' hgd) hW⟩)
         obtain ⟨n2, hn2⟩ : ∃ n2, n2 = p2.length := ⟨_, rfl⟩
         obtain ⟨n1, hn1⟩ : ∃ n1, n1 = p1.length := ⟨_, rfl⟩
         rw [← hn1] at hs1 hc1' HLE HCC
         rw [← hn2] at hs2 hc2' HLE HCC
         have HS1 := Kh hs1; have HS2 := Kh hs2; have HP1 := Kh hp1; have HP2 := Kh hp2
         clear hlp hr1 hr2 ho1 ho2 hs1 hs2 hp1 hp2 hn1 hn2 hjk hj0
         cases hle : xS p2 p1 with
         | false =>
          rw [hle] at HLE
          have HDN := Kh (vC hin.out HND.out (.inr ⟨k, p1, p2, HJK.out, HP1.out, by rw [← HJK.out]; exact HP2.out, hle⟩))
          clear hle hin
          go_wp2
          go_region_held3 (fun W => W.cell? ⟨g, j, none⟩ = some (.slice a2 n2 d2) ∧ W.cell? ⟨g, k, none⟩ = some (.slice a1 n1 d1))
           (first | go_keep | exact HCC.out _ hG7 | fail)
           (first | (go_at_call 78; (with_reducible refine HLE.out.mono ?_); rintro e w7 ⟨rfl, hG7⟩) | fail)
          go_wp2
          go_roundg (NL - (q + 1))
          case measure => have := HGH.out; omega
          case rel => exact ⟨q + 1, sv, ps, by have := HGH.out; omega, by go_num, (HLP.out.kept hgd (by simp)).kept hG7 (by simp), HDN, zA (zA hg hgd (by simp)) hG7 (by simp)⟩
         | true =>
          rw [hle] at HLE
          have HST := Kh (qS (by rw [← HJK.out]; exact hin.out) HP1.out (by rw [← HJK.out]; exact HP2.out) hle)
          clear hle hin
          go_wp2
          go_region_held3 (fun W => W.cell? ⟨g, j, none⟩ = some (.slice a2 n2 d2) ∧ W.cell? ⟨g, k, none⟩ = some (.slice a1 n1 d1))
           (first | go_keep | exact HCC.out _ hG7 | fail)
           (first | (go_at_call 78; (with_reducible refine HLE.out.mono ?_); rintro e w7 ⟨rfl, hG7⟩) | fail)
          have hlp7 := (HLP.out.kept hgd (by simp)).kept hG7 (by simp)
          have hg7 := zA (zA hg hgd (by simp)) hG7 (by simp)
          have k1 := zQ (zQ hc1' hgd) hG7
          have k2 := zQ (zQ hc2' hgd) hG7
          rcases id hlp7.own.2 with ⟨e1, _⟩ | ⟨g', cap, cur, e1, _, hgk, _, _, _, _⟩
          ·simp at e1
          simp only [Value.slice.injEq, Option.some.injEq, Addr.mk.injEq, and_true] at e1
          obtain ⟨rfl, _, rfl⟩ := e1
          have f1 := frozen_of_row w7 g k _ _ hgk
          have f2 := frozen_of_row w7 g j _ _ hgk
          have HLP7 := Kh hlp7; have HG7 := Kh hg7; have HGK := Kh hgk
          clear hlp7 hg7 hgk hg hgd hG7 hc1' hc2' HLP HLE
          go_wp2
          go_region
          all_goals
           go_wp2
           go_roundg k
           case measure => have := HJK.out; omega
           case rel =>
            have e9 := HJK.out
            subst e9
            obtain ⟨hsw, hgs⟩ := HLP7.out.drewN.swap HS1.out HS2.out HP1.out HP2.out (W := _) (by first | exact .inl rfl | exact .inr rfl)
            exact ⟨k, _, _, rfl, by omega, by go_num, hsw, HST, zA (zA HG7.out (zP w7 none) (by simp)) hgs (fun x e => by have : g = x := Option.some.inj e; omega)⟩
      ·obtain rfl : q = NL := by have := HGH.out; omega
       have hpl := hlp.len
       have hps : ps = famP 1 L i M := HFIN.out ps (by have := hso.out.1; rwa [hpl, List.take_length] at this) hso.out.2
       have HPS := Kh hps; have HPL := Kh hpl
       clear hps hpl hlp hso
       go_wp2
       refine bodyPost_ret (v := .tuple #[.slice SL q SC, .int .i64 0]) (by simp [results, Try.results45, go_sem]) rfl ?_
       rw [HFS.out.1, HFS.out.2, ← HPS.out]
       exact ⟨SL, SC, sv, by rw [← HPL.out], by rw [← HPL.out]; exact RowT.of_owns HLP.out.own, HLP.out.rows, hg⟩
end Go.Proofs.Ytjfdomfendbhfaa
