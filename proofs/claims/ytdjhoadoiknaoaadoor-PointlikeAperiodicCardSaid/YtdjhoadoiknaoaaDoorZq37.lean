/- Part 37 of the proof: Gener. -/
import Derived.Test.YtdjhoadoiknaoaaDoorZq36
set_option linter.unusedVariables false
set_option linter.unusedSimpArgs false
namespace Go.Proofs.YtdjhoadoiknaoaaDoor
open Go.RowKit
theorem metL_snoc_old {n : Nat} {l : List Nat} {q : Nat} (h : q ∈ l ∨ n ≤ q) : metL n (l ++ [q]) = metL n l := by
 refine List.ext_getElem (by simp [metL]) fun i h1 h2 => ?_
 simp only [metL, List.getElem_map, List.getElem_range, List.mem_append, List.mem_singleton]
 congr 1
 refine propext ⟨?_, .inl⟩
 rintro (h3 | rfl)
 ·exact h3
 ·rcases h with h | h
  ·exact h
  ·simp [metL] at h1; omega
set_option maxHeartbeats 800000 in
theorem set03_any (B : Nat) (w : World) (v : Value) (l : List Nat) (n : Nat) (h : Row B w v (nats l)) (hB : B ≤ w.heap.size) (hn : n ≤ 100000) :
  Calls Tryd.prog 107 #[v, .int .i64 (n : Int)] w fun e w' => e = .returned (.slice (some ⟨w.heap.size, 0, none⟩) n n) ∧ Arr w' w.heap.size 4 (bls (metL n l)) ∧ w.grownBy w' none := by
 have hll := h.len_le
 rw [zL] at hll
 unfold maxLen at hll
 obtain ⟨va, vc, rfl⟩ := h.shape
 rw [zL] at h ⊢
 have H := Kh h
 clear h
 go_enter Tryd.func107, Tryd.ntmps107
 go_wp2_with (first | (at_make; refine make1 rfl _ _ _ rfl xX rfl .i64 .i64 _ _ n rfl rfl rfl rfl ?b1 ?b2 ?_; (case b1 => omega); (case b2 => (unfold maxLen; omega)); intro w2 harr hg2 hlt2) | fail)
 have HA2 := Kh harr; have HG2 := Kh hg2
 clear harr hg2
 go_loopg [7, 12] l.length (fun gh a7 i wr => ∃ k : Nat, gh + k = l.length ∧ i = .int .i64 k ∧ Arr wr w.heap.size 4 (bls (metL n (l.take k))) ∧ w.grownBy wr none)
 case atStart => exact ⟨0, rfl, rfl, by rw [List.take_zero, metL_nil, wW]; exact HA2.out, HG2.out⟩
 case round =>
  clear HA2 HG2
  obtain ⟨k, hg, rfl, harr, hgr⟩ := hrel
  have HG := Kh hg; have HA := Kh harr; have HGR := Kh hgr
  clear hg
  by_cases hk : k < l.length
  ·have hk' : (k : Int) < l.length := by omega
   obtain ⟨ib, io, ic, e, _, hc1, hc2, hra⟩ := (H.out.kept hgr (by simp)).some_ (by rw [zL]; omega)
   simp only [Value.slice.injEq] at e
   obtain ⟨rfl, -, rfl⟩ := e
   have ck := hra.nat k hk
   have hst : l.take (k + 1) = l.take k ++ [l.getD k 0] := yA hk
   obtain ⟨x, hx⟩ : ∃ x, x = l.getD k 0 := ⟨_, rfl⟩
   rw [← hx] at ck hst
   by_cases hxn : x < n
   ·have hx' : (x : Int) < n := by omega
    have cg := harr.bool x (by rw [xC]; exact hxn)
    have fg := harr.frozen x
    have HS : Hid ((metL n (l.take k)).set x true = metL n (l.take (k + 1))) := Kh (by rw [metL_set, hst])
    clear harr hgr hra hx hst
    go_wp2
    go_roundg (l.length - (k + 1))
    case measure => have := HG.out; omega
    case rel =>
     refine ⟨k + 1, by omega, by go_num, ?_, zG HGR.out (zH wr ⟨w.heap.size, x, none⟩ _) (fun q e => by have h7 : w.heap.size = q := Option.some.inj e; omega)⟩
     rw [← HS.out]
     exact HA.out.bool_set x (by rw [xC]; exact hxn) true
   ·have hx' : (n : Int) ≤ x := by omega
    have HS : Hid (metL n (l.take (k + 1)) = metL n (l.take k)) := Kh (by rw [hst, metL_snoc_old (.inr (by omega))])
    clear harr hgr hra hx hst
    go_wp2
    go_roundg (l.length - (k + 1))
    case measure => have := HG.out; omega
    case rel => exact ⟨k + 1, by omega, by go_num, by rw [HS.out]; exact HA.out, HGR.out⟩
  ·have HE : Hid (l.take k = l) := Kh (List.take_of_length_le (by omega))
   rw [HE.out] at HA
   clear harr hgr
   go_wp2
   go_ret
   exact ⟨rfl, HA.out, HGR.out⟩
def membL (bs : List Bool) : List Nat := (List.range bs.length).filter fun i => bs.getD i false
def sK (bs : List Bool) (k : Nat) : List Nat := (List.range k).filter fun i => bs.getD i false
theorem membTo_succ {bs : List Bool} {k : Nat} : sK bs (k + 1) = sK bs k ++ if bs.getD k false then [k] else [] := by
 unfold sK
 rw [List.range_succ, List.filter_append, List.filter_cons, List.filter_nil]
theorem membTo_le (bs : List Bool) (k : Nat) : (sK bs k).length ≤ k := by
 have := List.length_filter_le (fun i => bs.getD i false) (List.range k)
 rw [List.length_range] at this
 exact this
set_option maxHeartbeats 800000 in
theorem members_any (w : World) (g : Nat) (bs : List Bool) (h : RowAt w g 0 (bls bs)) (hn : bs.length ≤ 100000) :
  Calls Tryd.prog 108 #[.slice (some ⟨g, 0, none⟩) bs.length bs.length] w fun e w' => (∃ (sa : Option Addr) (sc : Nat), e = .returned (.slice sa (membL bs).length sc) ∧ w'.ownsRow w.heap.size 3 1 (.slice sa (membL bs).length sc) (membL bs).length (nats (membL bs))) ∧ w.grownBy w' none := by
 have H := Kh h
 have hlt := h.1
 clear h
 go_enter Tryd.func108, Tryd.ntmps108
 go_wp2
 go_loopg [3, 4, 5, 8] bs.length (fun gh v3 a4 a5 i wr => ∃ (k : Nat) (sa : Option Addr) (sc : Nat), gh + k = bs.length ∧ i = .int .i64 k ∧ v3 = .slice sa (sK bs k).length sc ∧ wr.ownsRow w.heap.size 3 1 (.slice sa (sK bs k).length sc) (sK bs k).length (nats (sK bs k)) ∧ w.grownBy wr none)
 case atStart => exact ⟨0, none, 0, rfl, rfl, rfl, World.ownsRow_nil _ _ _ _, zX _ _⟩
 case round =>
  obtain ⟨k, sa, sc, hg, rfl, rfl, hown, hgr⟩ := hrel
  have HG := Kh hg; have HO := Kh hown; have HGR := Kh hgr
  have hml := membTo_le bs k
  clear hg hown
  by_cases hk : k < bs.length
  ·have hk' : (k : Int) < bs.length := by omega
   have ck := RowAt.map (H.out.kept hgr (by simp)) k hk
   rw [← zN (d := false) hk, Nat.zero_add] at ck
   have hgs := hgr.size
   have hsu := membTo_succ (bs := bs) (k := k)
   clear hgr
   cases hb : bs.getD k false with
   | true =>
    rw [hb] at ck hsu
    have HS : Hid (sK bs (k + 1) = sK bs k ++ [k]) := Kh (by rw [hsu]; rfl)
    obtain ⟨A, hA⟩ : ∃ A, A = sK bs k := ⟨_, rfl⟩
    rw [← hA] at HO HS hml ⊢
    clear hb hsu hA
    go_wp2_with (first | (at_builtin; refine app1 rfl _ _ _ rfl yD w.heap.size _ A.length (nats A) rfl HO.out _ rfl rfl ?c1 ?c2 ?c3 ?_) | fail)
    case c1 => unfold maxLen; omega
    case c2 => omega
    case c3 => exact hgs
    intro sa' sc' w6 hown6 hg6 hlt6
    have HO6 := Kh hown6; have HG6 := Kh hg6
    clear hown6 hg6
    go_wp2
    go_roundg (bs.length - (k + 1))
    case measure => have := HG.out; omega
    case rel =>
     refine ⟨k + 1, sa', sc', by omega, by go_num, by rw [HS.out]; simp, ?_, zG HGR.out HG6.out (fun q e => (HO.out.lt q e).1)⟩
     rw [HS.out, uE, List.length_append]
     exact HO6.out
   | false =>
    rw [hb] at ck hsu
    have HS : Hid (sK bs (k + 1) = sK bs k) := Kh (by rw [hsu]; simp)
    clear hb hsu
    go_wp2
    go_roundg (bs.length - (k + 1))
    case measure => have := HG.out; omega
    case rel => exact ⟨k + 1, sa, sc, by omega, by go_num, by rw [HS.out], by rw [HS.out]; exact HO.out, HGR.out⟩
  ·have hkn : k = bs.length := by have := HG.out; omega
   have HE : Hid (sK bs k = membL bs) := Kh (by rw [hkn]; rfl)
   rw [HE.out] at HO ⊢
   obtain ⟨A, hA⟩ : ∃ A, A = membL bs := ⟨_, rfl⟩
   have HAE := Kh hA
   rw [← hA] at HO ⊢
   clear hkn hgr hA
   go_wp2
   go_ret
   exact ⟨⟨sa, sc, by rw [← HAE.out]; rfl, by rw [← HAE.out]; exact HO.out⟩, HGR.out⟩
def ClosedL (t : List (List Int)) (m : List Nat) : Prop := ∀ x ∈ m, ∀ y ∈ m, entN t x y ∈ m
def SeenL (t : List (List Int)) (m : List Nat) (k j : Nat) : Prop := ∀ x ∈ m, ∀ y ∈ m, (x < k ∨ (x = k ∧ y < j)) → entN t x y ∈ m
structure GenI (t : List (List Int)) (gs m : List Nat) : Prop where
 nd : m.Nodup
 lt : ∀ x ∈ m, x < t.length
 base : ∀ x ∈ gs, x ∈ m
 gen : ∀ x ∈ m, Gen t gs x
theorem GenI.add {t : List (List Int)} (hs : Shape t) {gs m : List Nat} (h : GenI t gs m) {x y : Nat} (hx : x ∈ m) (hy : y ∈ m) (hz : entN t x y ∉ m) : GenI t gs (m ++ [entN t x y]) where
 nd := by
  rw [List.nodup_append]
  exact ⟨h.nd, by simp, fun a ha b hb => by rw [List.mem_singleton] at hb; subst hb; rintro rfl; exact hz ha⟩
 lt := fun z hz => by
  rcases List.mem_append.1 hz with hz | hz
  ·exact h.lt z hz
  ·rw [List.mem_singleton] at hz; subst hz; exact sD hs (h.lt x hx) (h.lt y hy)
 base := fun z hz => List.mem_append_left _ (h.base z hz)
 gen := fun z hz => by
  rcases List.mem_append.1 hz with hz | hz
  ·exact h.gen z hz
  ·rw [List.mem_singleton] at hz; subst hz; exact .mul x y (h.gen x hx) (h.gen y hy)
def GenOk (w : World) (t : List (List Int)) (gs : List Nat) (e : Ending) (w' : World) : Prop :=
 ∃ m : List Nat, GenI t gs m ∧ ClosedL t m ∧ (∃ (sa : Option Addr) (sc : Nat), e = .returned (.slice sa (membL (metL t.length m)).length sc) ∧ w'.ownsRow w.heap.size 3 1 (.slice sa (membL (metL t.length m)).length sc) (membL (metL t.length m)).length (nats (membL (metL t.length m)))) ∧ w.grownBy w' none
set_option maxRecDepth 100000 in
set_option maxHeartbeats 2000000 in
theorem generated_any (B C : Nat) (w : World) (v gv : Value) (t : List (List Int)) (gs : List Nat) (hB : B ≤ w.heap.size) (hC : C ≤ w.heap.size) (h : Mat B w v t) (hs : Shape t) (hg : Row C w gv (nats gs)) (hgl : ∀ g ∈ gs, g < t.length) :
  Calls Tryd.prog 87 #[v, gv] w (GenOk w t gs) := by
 obtain ⟨tb, off, cap, RB, RO, RC, rfl, hc1, hc2, hq⟩ := h.sq hs
 have hmx : cap ≤ 9223372036854775807 := by unfold maxLen at hc2; omega
 obtain ⟨n, hn⟩ : ∃ n, n = t.length := ⟨_, rfl⟩
 have hn4 := hs.le
 have hn1 := hs.pos
 have HS0 := Kh (set03_any C w gv gs n hg hC (by omega))
 have HQ := Kh hq; have HS := Kh hs; have HNE := Kh hn; have HGL := Kh hgl
 rw [← hn] at hc1 hn4 hn1 ⊢
 clear h hs hg hq hgl hc2 hn
 go_enter Tryd.func87, Tryd.ntmps87
 go_wp2_with fail
 refine HS0.out.mono ?_
 rintro e w1 ⟨rfl, ha1, hg1⟩
 have hmet : metL n gs = metL n (yF gs) := by
  refine List.ext_getElem (by simp [metL]) fun i h1 h2 => ?_
  simp only [metL, List.getElem_map, List.getElem_range, xZ]
 rw [hmet] at ha1
 have HI0 : Hid (GenI t gs (yF gs)) := Kh ⟨sM _, fun x hx => HGL.out x (xZ.1 hx), fun x hx => xZ.2 hx, fun x hx => .base x (xZ.1 hx)⟩
 obtain ⟨G, hG⟩ : ∃ G, G = w.heap.size := ⟨_, rfl⟩
 have HGE := Kh hG
 rw [← hG] at ha1 ⊢
 have HA1 := Kh ha1; have HG1 := Kh hg1
 clear ha1 hg1 hmet hG HS0
 go_wp2
 go_loopg [6] (2 * n + 1) (fun gh v6 wr => ∃ (m : List Nat) (b : Bool), v6 = .bool b ∧ 2 * (n - m.length) + (if b then 1 else 0) ≤ gh ∧ GenI t gs m ∧ (b = false → ClosedL t m) ∧ Arr wr G 4 (bls (metL n m)) ∧ w.grownBy wr none)
 case atStart => exact ⟨yF gs, true, rfl, by simp; omega, HI0.out, (fun h => by cases h), HA1.out, HG1.out⟩
 case round =>
  clear HA1 HG1 HI0
  obtain ⟨m, b, rfl, hgh, hgi, hcl, harr, hgr⟩ := hrel
  have HGH := Kh hgh; have HGI := Kh hgi; have HCL := Kh hcl; have HA := Kh harr; have HGR := Kh hgr
  have hml : m.length ≤ n := nodup_le hgi.nd (fun q hq => by rw [HNE.out]; exact hgi.lt q hq)
  clear hgh hgi hcl harr hgr
  cases b with
  | false =>
   have hclo := HCL.out rfl
   have HM := Kh (fun W hW => members_any W G (metL n m) hW (by rw [xC]; omega))
   have hmt := xC n m
   obtain ⟨bs, hbs⟩ : ∃ bs, bs = metL n m := ⟨_, rfl⟩
   have hra := HA.out.row
   have HM2 := Kh (HM.out wr hra)
   rw [hmt] at HM2
   have HCL2 := Kh hclo
   clear hra hmt hbs hclo HM
   go_wp2_with fail
   refine HM2.out.mono ?_
   rintro e w5 ⟨⟨sa, sc, rfl, ho⟩, hg5⟩
   have HO := Kh ho; have HG5 := Kh hg5
   obtain ⟨A, hA⟩ : ∃ A, A = membL (metL n m) := ⟨_, rfl⟩
   have HAE := Kh hA
   rw [← hA] at HO ⊢
   clear ho hg5 hA
   go_wp2
   go_ret
   refine ⟨m, HGI.out, HCL2.out, ⟨sa, sc, ?_, ?_⟩, zF HGR.out HG5.out⟩
   ·rw [← HNE.out, ← HAE.out]; rfl
   ·rw [← HNE.out, ← HAE.out]; exact yJ HO.out HGR.out.size
  | true =>
   go_wp2
   go_loopg [6, 7, 16] n (fun gx v6 a7 i wr => ∃ (k : Nat) (m' : List Nat) (c : Bool), gx + k = n ∧ i = .int .i64 k ∧ v6 = .bool c ∧ m.length ≤ m'.length ∧ (c = true → m.length < m'.length) ∧ (c = false → SeenL t m' k 0) ∧ GenI t gs m' ∧ Arr wr G 4 (bls (metL n m')) ∧ w.grownBy wr none)
   case atStart => exact ⟨0, m, false, rfl, rfl, rfl, Nat.le_refl _, (fun h => by cases h), (fun _ x hx y hy h => by omega), HGI.out, HA.out, HGR.out⟩
   case round =>
    clear HA HGR
    obtain ⟨k, m', c, hgx, rfl, rfl, hle, hc, hsn, hgi', harr, hgr⟩ := hrel
    have HGX := Kh hgx; have HC := Kh hc; have HSN := Kh hsn; have HGI' := Kh hgi'; have HA := Kh harr; have HGR := Kh hgr; have HLE := Kh hle
    clear hgx hc hsn hgi' harr hgr hle
    by_cases hk : k < n
    ·have hk' : (k : Int) < n := by omega
     go_wp2
     go_loopg [6, 8, 21] n (fun gy v6 a8 i wr => ∃ (j : Nat) (m' : List Nat) (c : Bool), gy + j = n ∧ i = .int .i64 j ∧ v6 = .bool c ∧ m.length ≤ m'.length ∧ (c = true → m.length < m'.length) ∧ (c = false → SeenL t m' k j) ∧ GenI t gs m' ∧ Arr wr G 4 (bls (metL n m')) ∧ w.grownBy wr none)
     case atStart => exact ⟨0, m', c, rfl, rfl, rfl, HLE.out, HC.out, HSN.out, HGI'.out, HA.out, HGR.out⟩
     case round =>
      clear HA HGR HC HSN HGI' HLE
      obtain ⟨j, m', c, hgy, rfl, rfl, hle, hc, hsn, hgi', harr, hgr⟩ := hrel
      have HGY := Kh hgy; have HC := Kh hc; have HSN := Kh hsn; have HGI' := Kh hgi'; have HA := Kh harr; have HGR := Kh hgr; have HLE := Kh hle
      clear hgy hc hsn hgi' hle
      by_cases hj : j < n
      ·have hj' : (j : Int) < n := by omega
       have hq := HQ.out.kept hgr (fun x e => by cases e)
       have ch := hq.hd k (by rw [← HNE.out]; exact hk)
       have ce := hq.el k j (by rw [← HNE.out]; exact hk) (by rw [← HNE.out]; exact hj)
       have hrc := (hq.cap k (by rw [← HNE.out]; exact hk)).1
       rw [← HNE.out] at ch hrc
       have hz := sD HS.out (show k < t.length by rw [← HNE.out]; exact hk) (show j < t.length by rw [← HNE.out]; exact hj)
       rw [← HNE.out] at hz
       have cx := harr.bool k (by rw [xC]; exact hk)
       have cy := harr.bool j (by rw [xC]; exact hj)
       rw [metL_get hk] at cx
       rw [metL_get hj] at cy
       obtain ⟨z, hze⟩ : ∃ z, z = entN t k j := ⟨_, rfl⟩
       rw [← hze] at ce hz
       have cz := harr.bool z (by rw [xC]; exact hz)
       rw [metL_get hz] at cz
       have fz := harr.frozen z
       have hz' : (z : Int) < n := by omega
       have HZE := Kh hze
       clear hze hq harr hgr
       have skip : (k ∈ m' → j ∈ m' → z ∈ m') → Hid (c = false → SeenL t m' k (j + 1)) := fun h => Kh (fun hcf x hx y hy hxy => by
        rcases hxy with hxy | ⟨rfl, hy1⟩
        ·exact HSN.out hcf x hx y hy (.inl hxy)
        ·rcases Nat.lt_succ_iff_lt_or_eq.1 hy1 with hy1 | rfl
         ·exact HSN.out hcf x hx y hy (.inr ⟨rfl, hy1⟩)
         ·rw [← HZE.out]; exact h hx hy)
       have HSK := Kh skip
       clear skip
       by_cases hkm : k ∈ m'
       ·rw [decide_eq_true hkm] at cx
        by_cases hjm : j ∈ m'
        ·rw [decide_eq_true hjm] at cy
         by_cases hzm : z ∈ m'
         ·rw [decide_eq_true hzm] at cz
          have HS2 := HSK.out (fun _ _ => hzm)
          clear hkm hjm hzm
          go_wp2
          go_roundg (n - (j + 1))
          case measure => have := HGY.out; omega
          case rel => exact ⟨j + 1, m', c, by omega, by go_num, rfl, HLE.out, HC.out, HS2.out, HGI'.out, HA.out, HGR.out⟩
         ·rw [decide_eq_false hzm] at cz
          have HI2 : Hid (GenI t gs (m' ++ [z])) := Kh (by have := HGI'.out.add HS.out hkm hjm (by rw [← HZE.out]; exact hzm); rwa [← HZE.out] at this)
          clear hkm hjm hzm
          go_wp2
          go_roundg (n - (j + 1))
          case measure => have := HGY.out; omega
          case rel =>
           refine ⟨j + 1, m' ++ [z], true, by omega, by go_num, rfl, by have := HLE.out; simp; omega, fun _ => by have := HLE.out; simp; omega, (fun h => by cases h), HI2.out, ?_, zG HGR.out (zH wr ⟨G, z, none⟩ _) (fun q e => by have h7 : G = q := Option.some.inj e; have := HGE.out; omega)⟩
           have h1 := HA.out.bool_set z (by rw [xC]; exact hz) true
           rw [metL_set] at h1
           exact h1
        ·rw [decide_eq_false hjm] at cy
         have HS2 := HSK.out (fun _ h => absurd h hjm)
         clear hkm hjm cz
         go_wp2
         go_roundg (n - (j + 1))
         case measure => have := HGY.out; omega
         case rel => exact ⟨j + 1, m', c, by omega, by go_num, rfl, HLE.out, HC.out, HS2.out, HGI'.out, HA.out, HGR.out⟩
       ·rw [decide_eq_false hkm] at cx
        have HS2 := HSK.out (fun h => absurd h hkm)
        clear hkm cz
        go_wp2
        go_roundg (n - (j + 1))
        case measure => have := HGY.out; omega
        case rel => exact ⟨j + 1, m', c, by omega, by go_num, rfl, HLE.out, HC.out, HS2.out, HGI'.out, HA.out, HGR.out⟩
      ·have HS2 : Hid (c = false → SeenL t m' (k + 1) 0) := Kh (fun hcf x hx y hy hxy => by
        have hyn := HGI'.out.lt y hy
        have := HNE.out
        refine HSN.out hcf x hx y hy ?_
        omega)
       clear harr hgr
       go_wp2
       go_roundg (n - (k + 1))
       case measure => have := HGX.out; omega
       case rel => exact ⟨k + 1, m', c, by omega, by go_num, rfl, HLE.out, HC.out, HS2.out, HGI'.out, HA.out, HGR.out⟩
    ·have HCL3 : Hid (c = false → ClosedL t m') := Kh (fun hcf x hx y hy => HSN.out hcf x hx y hy (.inl (by have := HGI'.out.lt x hx; have := HNE.out; omega)))
     have hml' : m'.length ≤ n := nodup_le HGI'.out.nd (fun q hq => by rw [HNE.out]; exact HGI'.out.lt q hq)
     cases c with
     | true =>
      have hlt := HC.out rfl
      go_wp2
      go_roundg (2 * (n - m'.length) + 1)
      case measure => have := HGH.out; simp at this; omega
      case rel => exact ⟨m', true, rfl, by simp, HGI'.out, (fun h => by cases h), HA.out, HGR.out⟩
     | false =>
      have hle := HLE.out
      go_wp2
      go_roundg (2 * (n - m'.length))
      case measure => have := HGH.out; simp at this; omega
      case rel => exact ⟨m', false, rfl, by simp, HGI'.out, (fun _ => HCL3.out trivial), HA.out, HGR.out⟩
end Go.Proofs.YtdjhoadoiknaoaaDoor
