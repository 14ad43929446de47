/- Part 8 of the proof: Span, Span2. -/
import Derived.Test.YtdjhoadoiknaoaaDoorZp7
set_option linter.unusedVariables false
set_option linter.unusedSimpArgs false
namespace Go.Proofs.YtdjhoadoiknaoaaDoor
open Go.RowKit
structure Sp (w0 w : World) (bi bm g n : Nat) (mv : Value) (bs : List Bool) (made : List Nat) : Prop where
 box1 : w.heap[bi]? = some (.cells #[.slice (some ⟨g, 0, none⟩) n n] 25 (0, 0))
 box2 : w.heap[bm]? = some (.cells #[mv] 22 (0, 0))
 own : w.ownsRow w0.heap.size 3 1 mv made.length (nats made)
 shape : ∃ sa sc, mv = .slice sa made.length sc
 arr : Arr w g 4 (bls bs)
 len : bs.length = n
 cnt : made.length = bs.count true
 mem : ∀ x, x < n → (bs.getD x false = true ↔ x ∈ made)
 lt : ∀ x ∈ made, x < n
 lo : w0.heap.size ≤ bi ∧ w0.heap.size ≤ bm ∧ w0.heap.size ≤ g
 fr : w0.grownBy w none
theorem Sp.made_le {w0 w : World} {bi bm g n : Nat} {mv : Value} {bs : List Bool} {made : List Nat} (h : Sp w0 w bi bm g n mv bs made) : made.length ≤ n := by
 rw [h.cnt, ← h.len]; exact List.count_le_length
structure Keep (w w' : World) (bm g : Nat) (mv mv' : Value) : Prop where
 size : w.heap.size ≤ w'.heap.size
 k1 : ∀ k, k < w.heap.size → k ≠ g → k ≠ bm → mv.ownBlock ≠ some k → w'.heap[k]? = w.heap[k]?
 k2 : mv'.ownBlock = mv.ownBlock ∨ ((∀ k, k < w.heap.size → k ≠ g → k ≠ bm → w'.heap[k]? = w.heap[k]?) ∧ ∀ k, mv'.ownBlock = some k → w.heap.size ≤ k)
def addTo (made : List Nat) (x : Nat) : List Nat := if x ∈ made then made else made ++ [x]
theorem addTo_mem {made : List Nat} {x y : Nat} : y ∈ addTo made x ↔ y ∈ made ∨ y = x := by
 unfold addTo
 split
 ·constructor
  ·exact .inl
  ·rintro (h | rfl)
   ·exact h
   ·assumption
 ·simp
theorem addTo_prefix (made : List Nat) (x : Nat) : ∃ r, addTo made x = made ++ r := by
 unfold addTo
 split
 ·exact ⟨[], by simp⟩
 ·exact ⟨[x], rfl⟩
def Added (w0 w : World) (bi bm g n : Nat) (mv : Value) (made : List Nat) (x : Nat) (e : Ending) (w' : World) : Prop :=
 e = .returned (.tuple #[]) ∧ ∃ bs' mv', Sp w0 w' bi bm g n mv' bs' (addTo made x) ∧ Keep w w' bm g mv mv'
theorem count_set_true {bs : List Bool} {x : Nat} (hx : x < bs.length) (h : bs.getD x false = false) : (bs.set x true).count true = bs.count true + 1 := by
 rw [List.count_set hx]
 have : bs[x] = false := by simpa [List.getD, List.getElem?_eq_getElem hx] using h
 simp [this]
theorem Sp.set {w0 w w3 : World} {bi bm g n x : Nat} {mv : Value} {bs : List Bool} {made : List Nat} {sa : Option Addr} {sc : Nat} (h : Sp w0 w bi bm g n mv bs made) (hx : x < n) (hb : bs.getD x false = false)
  (h1 : w3.heap[bi]? = some (.cells #[.slice (some ⟨g, 0, none⟩) n n] 25 (0, 0))) (h2 : w3.heap[bm]? = some (.cells #[.slice sa (made.length + 1) sc] 22 (0, 0))) (h3 : w3.ownsRow w0.heap.size 3 1 (.slice sa (made.length + 1) sc) (made.length + 1) (nats made ++ [.int .i64 (x : Int)]))
  (h4 : Arr w3 g 4 (bls (bs.set x true))) (h5 : w0.grownBy w3 none) (h6 : Keep w w3 bm g mv (.slice sa (made.length + 1) sc)) : Added w0 w bi bm g n mv made x (.returned (.tuple #[])) w3 := by
 have hxm : ¬ x ∈ made := fun hm => by rw [(h.mem x hx).2 hm] at hb; cases hb
 refine ⟨rfl, bs.set x true, _, ⟨h1, h2, ?_, ?_, h4, by rw [List.length_set]; exact h.len, ?_, fun y hy => ?_, fun y hy => ?_, h.lo, h5⟩, h6⟩
 ·rw [addTo, if_neg hxm, List.length_append, vO]; exact h3
 ·rw [addTo, if_neg hxm, List.length_append]; exact ⟨_, _, rfl⟩
 ·rw [addTo, if_neg hxm, List.length_append, count_set_true (by rw [h.len]; exact hx) hb, h.cnt]; rfl
 ·rw [addTo_mem]
  by_cases e : x = y
  ·subst e
   rw [vG _ _ _ _ (by rw [h.len]; exact hx)]; simp
  ·rw [getD_set_ne _ _ _ _ _ e, h.mem y hy]
   exact ⟨.inl, fun hh => hh.elim id (fun e' => absurd e'.symm e)⟩
 ·rcases addTo_mem.1 hy with hy | rfl
  ·exact h.lt y hy
  ·exact hx
set_option maxHeartbeats 400000 in
theorem add_any (w0 w : World) (bi bm g n x : Nat) (mv : Value) (bs : List Bool) (made : List Nat) (hx : x < n) (hn : n ≤ 400) (h : Sp w0 w bi bm g n mv bs made) :
  Calls Tryd.prog 112 #[.int .i64 (x : Int), .pointer (some ⟨bi, 0, none⟩), .pointer (some ⟨bm, 0, none⟩)] w (Added w0 w bi bm g n mv made x) := by
 have H := Kh h
 have hml := h.made_le
 obtain ⟨sa, sc, rfl⟩ := h.shape
 have ci := zI h.box1 0 (by simp)
 have cx := h.arr.bool x (by rw [h.len]; exact hx)
 have fx := h.arr.frozen x
 simp only [List.getElem_toArray, List.getElem_cons_zero] at ci
 have hx' : (x : Int) < n := by omega
 clear h
 cases hb : bs.getD x false
 ·rw [hb] at cx
  have HB := Kh hb; clear hb
  have hset := H.out.arr.bool_set x (by rw [H.out.len]; exact hx) true
  have hgs1 := zH w ⟨g, x, none⟩ (.bool true)
  go_enter Tryd.func112, Tryd.ntmps112
  go_upto_region 2 with fail
  generalize hW : w.setCell ⟨g, x, none⟩ (.bool true) = w1 at hset hgs1
  have HW := Kh hW
  have hlo := H.out.lo
  have hg1 := zG H.out.fr hgs1 (by simp; omega)
  have hb2 := H.out.box2
  have hown := H.out.own
  have hb2' := zE hb2 hgs1 (fun e => by
   have := Option.some.inj e
   exact (H.out.arr.type_ne hb2 (by decide)) this)
  have hb1' := zE H.out.box1 hgs1 (fun e => (H.out.arr.type_ne H.out.box1 (by decide)) (Option.some.inj e))
  have hown' := hown.kept hgs1 (.inr (fun e => by
   obtain ⟨cur, rest, hh, _⟩ := H.out.arr
   exact zR hown hh (by decide) e))
  have cm := zI hb2' 0 (by simp)
  simp only [List.getElem_toArray, List.getElem_cons_zero] at cm
  have HB1 := Kh hb1'; have HB2 := Kh hb2'; have HSET := Kh hset; have HGS := Kh hgs1
  clear hW ci cx fx hset hgs1 hb2 hown hb1' hb2'
  go_wp2_with (at_builtin; refine app1s rfl _ _ _ rfl yD w0.heap.size _ made.length (nats made) rfl hown' _ rfl rfl ?c1 ?c2 ?c3 ?_)
  case c1 => unfold maxLen; omega
  case c2 => omega
  case c3 => exact hg1.size
  intro sa' sc' w3 hown3 hg3 hlt3 hmv
  have hne2 := zR hown' HB2.out (by decide)
  have hb23 := zE HB2.out hg3 hne2
  have hf3 := zD hb23 0
  have hc3 := zI hb23 0 (by simp)
  simp only [List.getElem_toArray, List.getElem_cons_zero] at hc3
  have hb13 := zE HB1.out hg3 (zR hown' HB1.out (by decide))
  have hset3 := HSET.out.kept hg3 (by
   obtain ⟨cur, rest, hh, _⟩ := HSET.out
   exact zR hown' hh (by decide))
  have hg03 := zG hg1 hg3 (fun k e => (hown'.lt k e).1)
  have H13 := Kh hb13; have H23 := Kh hb23; have HS3 := Kh hset3; have HO3 := Kh hown3; have HG3 := Kh hg3; have HMV := Kh hmv
  clear hb13 hb23 hset3 hown3 hg3 hown' cm hmv
  go_wp2
  go_end0
  have hgs := zH w3 ⟨bm, 0, none⟩ (.slice sa' (made.length + 1) sc')
  have hz1 := HGS.out.size
  refine H.out.set hx HB.out (sa := sa') (sc := sc') ?_ (heap_setCell_same w3 bm 0 _ _ _ H23.out) ?_ ?_ (zG hg03 hgs (by simp; omega)) ⟨Nat.le_trans hz1 (Nat.le_trans HG3.out.size hgs.size), fun k hk h1 h2 h3 => ?_, ?_⟩
  ·refine zE H13.out hgs (fun e => ?_)
   have e' := Option.some.inj e
   have h1 := H13.out
   rw [← e', H23.out] at h1
   simp at h1
  ·exact HO3.out.kept hgs (.inr (zR HO3.out H23.out (by decide)))
  ·exact HS3.out.kept hgs (fun e => (HS3.out.type_ne H23.out (by decide)) (Option.some.inj e).symm)
  ·exact (hgs.block k (by have := HG3.out.size; omega) (fun e => h2 (Option.some.inj e))).trans ((HG3.out.block k (by omega) (fun e => h3 e.symm)).trans (HGS.out.block k hk (fun e => h1 (Option.some.inj e))))
  ·rcases HMV.out with e | ⟨e1, e2⟩
   ·exact .inl e
   ·exact .inr ⟨fun k hk h1 h2 => (hgs.block k (by have := HG3.out.size; omega) (fun e => h2 (Option.some.inj e))).trans ((e1.block k (by omega) (by simp)).trans (HGS.out.block k hk (fun e => h1 (Option.some.inj e)))), fun k hk => Nat.le_trans hz1 (e2 k hk)⟩
 ·rw [hb] at cx
  have HB := Kh hb; clear hb
  go_enter Tryd.func112, Tryd.ntmps112
  go_wp2
  go_end0
  have hat : addTo made x = made := by rw [addTo, if_pos ((H.out.mem x hx).1 HB.out)]
  refine ⟨rfl, bs, _, by rw [hat]; exact H.out, Nat.le_refl _, fun _ _ _ _ _ => rfl, .inl rfl⟩
theorem owns_of_block {w w' : World} {base e size : Nat} {v : Value} {n : Nat} {xs : List Value} (h : w.ownsRow base e size v n xs) (hb : ∀ k, v.ownBlock = some k → w'.heap[k]? = w.heap[k]?) : w'.ownsRow base e size v n xs := by
 refine ⟨h.1, ?_⟩
 rcases h.2 with h2 | ⟨g, cap, cur, rfl, h2, h3, h4⟩
 ·exact .inl h2
 ·exact .inr ⟨g, cap, cur, rfl, h2, (hb g rfl).trans h3, h4⟩
theorem Arr.of_block {w w' : World} {g : Nat} {e : TypeId} {xs : List Value} (h : Arr w g e xs) (hb : w'.heap[g]? = w.heap[g]?) : Arr w' g e xs := by
 obtain ⟨cur, rest, h, hc⟩ := h
 exact ⟨cur, rest, hb.trans h, hc⟩
def Apart (v u : Value) : Prop := ∀ k, v.ownBlock = some k → u.ownBlock ≠ some k
theorem Keep.gens {w0 w w' : World} {bi bm g n base m : Nat} {mv mv' gv : Value} {bs : List Bool} {made : List Nat} {xs : List Value} (hk : Keep w w' bm g mv mv') (h : Sp w0 w bi bm g n mv bs made) (hg : w.ownsRow base 3 1 gv m xs) (ha : Apart gv mv) :
  w'.ownsRow base 3 1 gv m xs ∧ Apart gv mv' := by
 have hne1 : gv.ownBlock ≠ some g := by
  obtain ⟨cur, rest, hh, _⟩ := h.arr
  exact zR hg hh (by decide)
 have hne2 : gv.ownBlock ≠ some bm := zR hg h.box2 (by decide)
 refine ⟨owns_of_block hg (fun k e => hk.k1 k (hg.lt k e).2 (fun e' => hne1 (by rw [e, e'])) (fun e' => hne2 (by rw [e, e'])) (ha k e)), fun k e => ?_⟩
 rcases hk.k2 with h1 | ⟨_, h1⟩
 ·rw [h1]; exact ha k e
 ·intro e'
  have := h1 k e'
  have := (hg.lt k e).2
  omega
theorem Keep.pre {w0 w w' : World} {bi bm g n kb : Nat} {mv mv' : Value} {bs bs' : List Bool} {made made' pre : List Nat} (hk : Keep w w' bm g mv mv') (h : Sp w0 w bi bm g n mv bs made) (h' : Sp w0 w' bi bm g n mv' bs' made') (hp : ∃ r, made' = pre ++ r) (ha : Arr w kb 3 (nats pre)) : Arr w' kb 3 (nats pre) := by
 have hne1 : kb ≠ g := by
  rintro rfl
  obtain ⟨cur, rest, hh, _⟩ := h.arr
  exact (ha.type_ne hh (by decide)) rfl
 have hne2 : kb ≠ bm := ha.type_ne h.box2 (by decide)
 rcases hk.k2 with e | ⟨e, _⟩
 ·by_cases hkb : mv.ownBlock = some kb
  ·have hkb' := e.trans hkb
   obtain ⟨r, rfl⟩ := hp
   have ho := h'.own
   rcases ho.2 with ⟨rfl, _⟩ | ⟨g', cap', cur', rfl, _⟩
   ·simp [Value.ownBlock] at hkb'
   ·have eg : g' = kb := by simpa [Value.ownBlock] using hkb'
    subst eg
    have := Arr.of_owns ho
    rw [nats_append] at this
    exact this.front
  ·exact ha.of_block (hk.k1 kb ha.lt hne1 hne2 hkb)
 ·exact ha.of_block (e kb ha.lt hne1 hne2)
structure GInv (t : List (List Int)) (gs made : List Nat) (k : Nat) : Prop where
 gen : ∀ x ∈ made, Gen t gs x
 all : ∀ x, x < k → x ∈ made
 lt : ∀ g ∈ gs, g < t.length
 le : gs.length ≤ k
theorem GInv.add {t : List (List Int)} {gs made : List Nat} {k x y : Nat} (h : GInv t gs made k) (hx : x ∈ made) (hy : y ∈ made) : GInv t gs (addTo made (entN t x y)) k :=
 ⟨fun z hz => by
  rcases addTo_mem.1 hz with hz | rfl
  ·exact h.gen z hz
  ·exact .mul x y (h.gen x hx) (h.gen y hy), fun z hz => addTo_mem.2 (.inl (h.all z hz)), h.lt, h.le⟩
theorem GInv.next {t : List (List Int)} {gs made : List Nat} {k : Nat} (h : GInv t gs made k) (hk : k ∈ made) : GInv t gs made (k + 1) :=
 ⟨h.gen, fun x hx => by
  rcases Nat.lt_succ_iff_lt_or_eq.1 hx with hx | rfl
  ·exact h.all x hx
  ·exact hk, h.lt, by have := h.le; omega⟩
theorem GInv.new {t : List (List Int)} {gs made : List Nat} {k : Nat} (h : GInv t gs made k) (hk : k < t.length) : GInv t (gs ++ [k]) (addTo made k) (k + 1) :=
 ⟨fun z hz => by
  rcases addTo_mem.1 hz with hz | rfl
  ·exact (h.gen z hz).mono (fun g hg => List.mem_append_left _ hg)
  ·exact .base _ (by simp), fun x hx => by
  rw [addTo_mem]
  rcases Nat.lt_succ_iff_lt_or_eq.1 hx with hx | rfl
  ·exact .inl (h.all x hx)
  ·exact .inr rfl, fun g hg => by
  rcases List.mem_append.1 hg with hg | hg
  ·exact h.lt g hg
  ·simp at hg; omega, by have := h.le; simp; omega⟩
def SpanPost (w : World) (t : List (List Int)) (e : Ending) (w' : World) : Prop :=
 ∃ (sa : Option Addr) (sc : Nat) (gs : List Nat), e = .returned (.slice sa gs.length sc) ∧ Row w'.heap.size w' (.slice sa gs.length sc) (nats gs) ∧ (∀ g ∈ gs, g < t.length) ∧ (∀ x, x < t.length → Gen t gs x) ∧ w.grownBy w' none
structure SG (w w' : World) (bi bm g : Nat) (t : List (List Int)) (gv mv : Value) (bs : List Bool) (gs made : List Nat) (k : Nat) : Prop where
 sp : Sp w w' bi bm g t.length mv bs made
 own : w'.ownsRow w.heap.size 3 1 gv gs.length (nats gs)
 ap : Apart gv mv
 inv : GInv t gs made k
theorem SG.add {w w1 w2 : World} {bi bm g : Nat} {t : List (List Int)} {gv mv mv' : Value} {bs bs' : List Bool} {gs made : List Nat} {k x y : Nat} (h : SG w w1 bi bm g t gv mv bs gs made k) (hx : x ∈ made) (hy : y ∈ made)
  (h1 : Sp w w2 bi bm g t.length mv' bs' (addTo made (entN t x y))) (hk : Keep w1 w2 bm g mv mv') : SG w w2 bi bm g t gv mv' bs' gs (addTo made (entN t x y)) k :=
 ⟨h1, (hk.gens h.sp h.own h.ap).1, (hk.gens h.sp h.own h.ap).2, h.inv.add hx hy⟩
theorem getD_mem {l : List Nat} {i : Nat} (hi : i < l.length) : l.getD i 0 ∈ l := by
 simp only [List.getD, List.getElem?_eq_getElem hi]; exact List.getElem_mem hi
set_option maxRecDepth 100000 in
set_option maxHeartbeats 2000000 in
theorem spanning_any (B : Nat) (w : World) (v : Value) (t : List (List Int)) (hB : B ≤ w.heap.size) (h : Mat B w v t) (hs : Shape t) :
  Calls Tryd.prog 94 #[v] w (SpanPost w t) := by
 obtain ⟨b, off, cap, RB, RO, RC, rfl, hc1, hc2, hq⟩ := h.sq hs
 have hmx : cap ≤ 9223372036854775807 := by unfold maxLen at hc2; omega
 have hpos := hs.pos
 have hle := hs.le
 have HQ := Kh hq; have HS := Kh hs
 clear hq hs h
 go_enter Tryd.func94, Tryd.ntmps94
 go_wp2_with (at_make; refine make1 rfl _ _ _ rfl xJ rfl _ _ _ _ t.length rfl rfl rfl rfl ?b1 ?b2 ?_; (case b1 => omega); (case b2 => (unfold maxLen; omega)); intro w1 ha1 hg1 hz1)
 rw [← wK] at ha1
 rw [zM] at ha1 hz1
 have hbm := zE (heap_alloc_new w (.cells #[.slice none 0 0] 22)) hg1 (by simp)
 have hgw := zF (World.grownBy_alloc w (.cells #[.slice none 0 0] 22) none) hg1
 have hSP : Sp w (w1.alloc (.cells #[.slice (some ⟨w.heap.size + 1, 0, none⟩) t.length t.length] 25)) w1.heap.size w.heap.size (w.heap.size + 1) t.length (.slice none 0 0) (List.replicate t.length false) [] := by
  have hA := World.grownBy_alloc w1 (.cells #[.slice (some ⟨w.heap.size + 1, 0, none⟩) t.length t.length] 25) none
  refine ⟨heap_alloc_new w1 _, zE hbm hA (by simp), World.ownsRow_nil _ _ _ _, ⟨none, 0, rfl⟩, ha1.kept hA (by simp), by simp, by simp [List.count_replicate], fun x hx => ?_, by simp, ⟨by omega, Nat.le_refl _, by omega⟩, zF hgw hA⟩
  simp [List.getD, List.getElem?_replicate, hx]
 have HSP := Kh hSP
 clear hSP hbm hgw ha1 hg1
 go_loopg [3, 7, 18] t.length (fun g gv mul i wr => ∃ (k p : Nat) (sa : Option Addr) (sc : Nat) (gs made : List Nat) (mv : Value) (bs : List Bool), g + k = t.length ∧ gv = .slice sa gs.length sc ∧ mul = .int .i64 p ∧ i = .int .i64 k ∧ p ≤ made.length ∧
   SG w wr w1.heap.size w.heap.size (w.heap.size + 1) t (.slice sa gs.length sc) mv bs gs made k)
 case atStart => exact ⟨0, 0, none, 0, [], [], .slice none 0 0, _, rfl, rfl, rfl, rfl, Nat.le_refl _, HSP.out, World.ownsRow_nil _ _ _ _, fun k hk => by simp [Value.ownBlock] at hk, ⟨by simp, fun x hx => absurd hx (by omega), by simp, by simp⟩⟩
 case round =>
  clear HSP hz1
  obtain ⟨k, p, sa, sc, gs, made, mv, bs, hgk, rfl, rfl, rfl, hp, hst⟩ := hrel
  have HG := Kh hgk; have ST := Kh hst; clear hgk hst
  have hml := ST.out.sp.made_le
  have ci := zI ST.out.sp.box1 0 (by simp)
  simp only [List.getElem_toArray, List.getElem_cons_zero] at ci
  by_cases hk : k < t.length
  ·have hk' : (k : Int) < t.length := by omega
   have ck := ST.out.sp.arr.bool k (by rw [ST.out.sp.len]; exact hk)
   have hgl := ST.out.inv.le
   cases hbk : bs.getD k false
   ·rw [hbk] at ck
    have HBK := Kh hbk; clear hbk
    have howng := ST.out.own
    obtain ⟨wo, rfl⟩ : ∃ wo : World, wo = wr := ⟨_, rfl⟩
    go_wp2_with (at_builtin; refine app1s rfl _ _ _ rfl yD w.heap.size _ gs.length (nats gs) rfl howng _ rfl rfl ?c1 ?c2 ?c3 ?_)
    case c1 => unfold maxLen; omega
    case c2 => omega
    case c3 => exact ST.out.sp.fr.size
    intro sa1 sc1 w2 hown2 hg2 hlt2 hmv2
    have hsp2 : Hid (Sp w w2 w1.heap.size w.heap.size (w.heap.size + 1) t.length mv bs made ∧ Apart (.slice sa1 (gs.length + 1) sc1) mv) := by
     have S := ST.out.sp
     have hap := ST.out.ap
     have n1 := zR howng S.box1 (by decide)
     have n2 := zR howng S.box2 (by decide)
     have n3 : (Value.slice sa gs.length sc).ownBlock ≠ some (w.heap.size + 1) := by
      obtain ⟨cur, rest, hh, _⟩ := S.arr
      exact zR howng hh (by decide)
     refine ⟨⟨zE S.box1 hg2 n1, zE S.box2 hg2 n2, owns_of_block S.own (fun q hq => hg2.block q (S.own.lt q hq).2 (fun e => hap q e.symm hq)), S.shape, S.arr.kept hg2 n3, S.len, S.cnt, S.mem, S.lt, S.lo, zG S.fr hg2 (fun x e => (howng.lt x e).1)⟩, fun q hq => ?_⟩
     rcases hmv2 with e | ⟨_, e⟩
     ·rw [e] at hq; exact hap q hq
     ·intro hq'
      have := e q hq
      have := (S.own.lt q hq').2
      omega
    have HO2 := Kh hown2
    clear howng hown2 hg2 hmv2 ci ck
    go_wp2_with fail
    refine (add_any w w2 w1.heap.size w.heap.size (w.heap.size + 1) t.length k mv bs made hk hle hsp2.out.1).mono ?_
    rintro e w3 ⟨rfl, bs3, mv3, hsp3, hkeep⟩
    have hst3 : SG w w3 w1.heap.size w.heap.size (w.heap.size + 1) t (.slice sa1 (gs.length + 1) sc1) mv3 bs3 (gs ++ [k]) (addTo made k) (k + 1) := by
     have hg3 := hkeep.gens hsp2.out.1 (show w2.ownsRow w.heap.size 3 1 (.slice sa1 (gs.length + 1) sc1) (gs.length + 1) (nats (gs ++ [k])) by rw [vO]; exact HO2.out) hsp2.out.2
     exact ⟨hsp3, by rw [List.length_append]; exact hg3.1, hg3.2, ST.out.inv.new hk⟩
    have HST3 := Kh hst3
    have hp3 : p ≤ (addTo made k).length := by
     obtain ⟨r, hr⟩ := addTo_prefix made k
     rw [hr, List.length_append]; omega
    have hgl3 : (gs ++ [k]).length = gs.length + 1 := by simp
    have HGL := Kh hgl3
    clear hsp3 hkeep hst3 hsp2 HO2 hgl3
    go_wp2
    go_loopg [7] (t.length - p) (fun g mul wr => ∃ (p : Nat) (made : List Nat) (mv : Value) (bs : List Bool), g + p = t.length ∧ mul = .int .i64 p ∧ p ≤ made.length ∧
      SG w wr w1.heap.size w.heap.size (w.heap.size + 1) t (.slice sa1 (gs.length + 1) sc1) mv bs (gs ++ [k]) made (k + 1))
    case atStart => exact ⟨p, _, _, _, by have := HST3.out.sp.made_le; omega, rfl, hp3, HST3.out⟩
    case round =>
     clear HST3 hp3
     obtain ⟨p, made, mv, bs, hgp, rfl, hp, hst⟩ := hrel
     have HGP := Kh hgp; have ST := Kh hst; clear hgp hst
     have hml := ST.out.sp.made_le
     have cm := zI ST.out.sp.box2 0 (by simp)
     simp only [List.getElem_toArray, List.getElem_cons_zero] at cm
     obtain ⟨ma, mc, hmv⟩ := ST.out.sp.shape
     rw [hmv] at cm
     by_cases hpm : p < made.length
     ·obtain ⟨kb, hma, hmc1, hmc2, harr⟩ := yK (hmv ▸ ST.out.sp.own) (by omega)
      subst hma
      have hpm' : (p : Int) < made.length := by omega
      have cp := harr.nat p hpm
      obtain ⟨x, hx⟩ : ∃ x, x = made.getD p 0 := ⟨_, rfl⟩
      have hxm : x ∈ made := by rw [hx]; exact getD_mem hpm
      have hxl := ST.out.sp.lt x hxm
      rw [← hx] at cp
      unfold maxLen at hmc2
      have hpre : Arr wr kb 3 (nats (made.take (p + 1))) := by
       have := harr
       rw [← List.take_append_drop (p + 1) made, nats_append] at this
       exact this.front
      have HPRE := Kh hpre; have HX := Kh hx; have HXM := Kh hxm
      have hpl : (made.take (p + 1)).length = p + 1 := by rw [List.length_take]; omega
      have HPL := Kh hpl
      have hmv' := Kh hmv
      clear hmv hpre hx hxm harr hpl
      obtain ⟨wo, rfl⟩ : ∃ wo : World, wo = wr := ⟨_, rfl⟩
      go_wp2
      go_loopg [47] (p + 1) (fun g jv wr => ∃ (j : Nat) (made' : List Nat) (mv' : Value) (bs' : List Bool), g + j = p + 1 ∧ jv = .int .i64 j ∧ (∃ r, made' = made ++ r) ∧ Arr wr kb 3 (nats (made.take (p + 1))) ∧
        SG w wr w1.heap.size w.heap.size (w.heap.size + 1) t (.slice sa1 (gs.length + 1) sc1) mv' bs' (gs ++ [k]) made' (k + 1))
      case atStart => exact ⟨0, made, mv, bs, rfl, rfl, ⟨[], by simp⟩, HPRE.out, ST.out⟩
      case round =>
       clear cp cm
       obtain ⟨j, made', mv', bs', hgj, rfl, hr, hpre, hst⟩ := hrel
       have HGJ := Kh hgj; have ST' := Kh hst; have HR := Kh hr; have HPRE' := Kh hpre
       clear hgj hst hr hpre
       by_cases hj : j < p + 1
       ·have cj := HPRE'.out.nat j (by rw [HPL.out]; exact hj)
        obtain ⟨y, hy⟩ : ∃ y, y = (made.take (p + 1)).getD j 0 := ⟨_, rfl⟩
        have hym : y ∈ made := by rw [hy]; exact List.mem_of_mem_take (getD_mem (by rw [HPL.out]; exact hj))
        have hyl := ST.out.sp.lt y hym
        rw [← hy] at cj
        have hj' : (j : Int) < (p : Int) + 1 := by omega
        have hxl' : (x : Int) < t.length := by omega
        have hyl' : (y : Int) < t.length := by omega
        have HQ1 := HQ.out.kept ST'.out.sp.fr (by simp)
        have cx := HQ1.hd x hxl
        have cxy := HQ1.el x y hxl hyl
        have hxy := tY HS.out hxl hyl
        have hyx := tY HS.out hyl hxl
        have HYM := Kh hym
        clear HQ1 hy hym
        go_wp2_with fail
        refine (add_any w _ w1.heap.size w.heap.size (w.heap.size + 1) t.length (entN t x y) mv' bs' made' hxy hle ST'.out.sp).mono ?_
        rintro e w4 ⟨rfl, bs4, mv4, hsp4, hkeep4⟩
        have hin : ∀ z ∈ made, z ∈ made' := by
         obtain ⟨r, hr⟩ := HR.out
         intro z hz; rw [hr]; exact List.mem_append_left _ hz
        have hst4 := Kh (ST'.out.add (hin x HXM.out) (hin y HYM.out) hsp4 hkeep4)
        have hr4 : Hid (∃ r, addTo made' (entN t x y) = made ++ r) := by
         obtain ⟨r, hr⟩ := HR.out
         obtain ⟨r2, hr2⟩ := addTo_prefix made' (entN t x y)
         exact ⟨r ++ r2, by rw [hr2, hr, List.append_assoc]⟩
        have hpr4 : Hid (Arr w4 kb 3 (nats (made.take (p + 1)))) := by
         obtain ⟨r, hr⟩ := hr4.out
         exact hkeep4.pre ST'.out.sp hsp4 ⟨made.drop (p + 1) ++ r, by rw [hr, ← List.append_assoc, List.take_append_drop]⟩ HPRE'.out
        have HQ2 := HQ.out.kept hsp4.fr (by simp)
        have cy := HQ2.hd y hyl
        have cyx := HQ2.el y x hyl hxl
        clear HQ2 hsp4 hkeep4 cx cxy cj hin
        go_wp2_with fail
        refine (add_any w _ w1.heap.size w.heap.size (w.heap.size + 1) t.length (entN t y x) mv4 bs4 _ hyx hle hst4.out.sp).mono ?_
        rintro e w5 ⟨rfl, bs5, mv5, hsp5, hkeep5⟩
        have hin : ∀ z ∈ made, z ∈ addTo made' (entN t x y) := by
         obtain ⟨r, hr⟩ := hr4.out
         intro z hz; rw [hr]; exact List.mem_append_left _ hz
        have hst5 := Kh (hst4.out.add (hin y HYM.out) (hin x HXM.out) hsp5 hkeep5)
        have hr5 : Hid (∃ r, addTo (addTo made' (entN t x y)) (entN t y x) = made ++ r) := by
         obtain ⟨r, hr⟩ := hr4.out
         obtain ⟨r2, hr2⟩ := addTo_prefix (addTo made' (entN t x y)) (entN t y x)
         exact ⟨r ++ r2, by rw [hr2, hr, List.append_assoc]⟩
        have hpr5 : Hid (Arr w5 kb 3 (nats (made.take (p + 1)))) := by
         obtain ⟨r, hr⟩ := hr5.out
         exact hkeep5.pre hst4.out.sp hsp5 ⟨made.drop (p + 1) ++ r, by rw [hr, ← List.append_assoc, List.take_append_drop]⟩ hpr4.out
        clear hsp5 hkeep5 cy cyx hin
        go_wp2
        go_roundg (p + 1 - (j + 1))
        case measure => have := HGJ.out; omega
        case rel => exact ⟨j + 1, _, _, _, by omega, by go_num, hr5.out, hpr5.out, hst5.out⟩
       ·have hlen : p + 1 ≤ made'.length := by
         obtain ⟨r, hr⟩ := HR.out
         rw [hr, List.length_append]; omega
        have hm2 := ST'.out.sp.made_le
        go_wp2
        go_roundg (t.length - (p + 1))
        case measure => have := HGP.out; omega
        case rel => exact ⟨p + 1, made', mv', bs', by omega, by go_num, hlen, ST'.out⟩
     ·go_wp2
      go_roundg (t.length - (k + 1))
      case measure => have := HG.out; omega
      case rel => exact ⟨k + 1, p, sa1, sc1, gs ++ [k], made, mv, bs, by omega, by rw [HGL.out], rfl, by go_num, hp, by have := ST.out; rw [← HGL.out] at this; exact this⟩
   ·rw [hbk] at ck
    have hkm : k ∈ made := (ST.out.sp.mem k hk).1 hbk
    have HKM := Kh hkm
    clear hbk hkm
    go_wp2
    go_roundg (t.length - (k + 1))
    case measure => have := HG.out; omega
    case rel => exact ⟨k + 1, p, sa, sc, gs, made, mv, bs, by omega, rfl, rfl, by go_num, hp, ST.out.sp, ST.out.own, ST.out.ap, ST.out.inv.next HKM.out⟩
  ·go_wp2
   go_ret
   have hk2 : k = t.length := by have := HG.out; omega
   exact ⟨sa, sc, gs, rfl, Row.of_owns ST.out.own, ST.out.inv.lt, fun x hx => ST.out.inv.gen x (ST.out.inv.all x (by omega)), ST.out.sp.fr⟩
end Go.Proofs.YtdjhoadoiknaoaaDoor
