/- Part 15 of the proof: Span2. -/
import Derived.Test.YtdjhoadoiknaoaaDoorZw14
set_option linter.unusedVariables false
set_option linter.unusedSimpArgs false
namespace Go.Proofs.YtdjhoadoiknaoaaDoor
open Go.RowKit
structure GInv (t : List (List Int)) (gs made : List Nat) (k : Nat) : Prop where
  gen : ∀ x ∈ made, Gen t gs x
  all : ∀ x, x < k → x ∈ made
  lt : ∀ g ∈ gs, g < t.length
  le : gs.length ≤ k
theorem GInv.add {t : List (List Int)} {gs made : List Nat} {k x y : Nat} (h : GInv t gs made k) (hx : x ∈ made) (hy : y ∈ made) : GInv t gs (addTo made (entN t x y)) k :=
  ⟨fun z hz => by
    rcases addTo_mem.1 hz with hz | rfl
    · exact h.gen z hz
    · exact .mul x y (h.gen x hx) (h.gen y hy), fun z hz => addTo_mem.2 (.inl (h.all z hz)), h.lt, h.le⟩
theorem GInv.next {t : List (List Int)} {gs made : List Nat} {k : Nat} (h : GInv t gs made k) (hk : k ∈ made) : GInv t gs made (k + 1) :=
  ⟨h.gen, fun x hx => by
    rcases Nat.lt_succ_iff_lt_or_eq.1 hx with hx | rfl
    · exact h.all x hx
    · exact hk, h.lt, by have := h.le; omega⟩
theorem GInv.new {t : List (List Int)} {gs made : List Nat} {k : Nat} (h : GInv t gs made k) (hk : k < t.length) : GInv t (gs ++ [k]) (addTo made k) (k + 1) :=
  ⟨fun z hz => by
    rcases addTo_mem.1 hz with hz | rfl
    · exact (h.gen z hz).mono (fun g hg => List.mem_append_left _ hg)
    · exact .base _ (by simp), fun x hx => by
    rw [addTo_mem]
    rcases Nat.lt_succ_iff_lt_or_eq.1 hx with hx | rfl
    · exact .inl (h.all x hx)
    · exact .inr rfl, fun g hg => by
    rcases List.mem_append.1 hg with hg | hg
    · exact h.lt g hg
    · simp at hg; omega, by have := h.le; simp; omega⟩
def SpanPost (w : World) (t : List (List Int)) (e : Ending) (w' : World) : Prop :=
  ∃ (sa : Option Addr) (sc : Nat) (gs : List Nat), e = .returned (.slice sa gs.length sc) ∧ Row w'.heap.size w' (.slice sa gs.length sc) (nats gs) ∧ (∀ g ∈ gs, g < t.length) ∧ (∀ x, x < t.length → Gen t gs x) ∧ w.grownBy w' none
structure SG (w w' : World) (bi bm g : Nat) (t : List (List Int)) (gv mv : Value) (bs : List Bool) (gs made : List Nat) (k : Nat) : Prop where
  sp : Sp w w' bi bm g t.length mv bs made
  own : w'.ownsRow w.heap.size 3 1 gv gs.length (nats gs)
  ap : Apart gv mv
  inv : GInv t gs made k
theorem SG.add {w w1 w2 : World} {bi bm g : Nat} {t : List (List Int)} {gv mv mv' : Value} {bs bs' : List Bool} {gs made : List Nat} {k x y : Nat} (h : SG w w1 bi bm g t gv mv bs gs made k) (hx : x ∈ made) (hy : y ∈ made)
    (h1 : Sp w w2 bi bm g t.length mv' bs' (addTo made (entN t x y))) (hk : Keep w1 w2 bm g mv mv') : SG w w2 bi bm g t gv mv' bs' gs (addTo made (entN t x y)) k :=
  ⟨h1, (hk.gens h.sp h.own h.ap).1, (hk.gens h.sp h.own h.ap).2, h.inv.add hx hy⟩
theorem getD_mem {l : List Nat} {i : Nat} (hi : i < l.length) : l.getD i 0 ∈ l := by
  simp only [List.getD, List.getElem?_eq_getElem hi]; exact List.getElem_mem hi
set_option maxRecDepth 100000 in
set_option maxHeartbeats 2000000 in
theorem spanning_any (B : Nat) (w : World) (v : Value) (t : List (List Int)) (hB : B ≤ w.heap.size) (h : Mat B w v t) (hs : Shape t) :
    Calls Tryd.prog 94 #[v] w (SpanPost w t) := by
  obtain ⟨b, off, cap, RB, RO, RC, rfl, hc1, hc2, hq⟩ := h.sq hs
  have hmx : cap ≤ 9223372036854775807 := by unfold maxLen at hc2; omega
  have hpos := hs.pos
  have hle := hs.le
  have HQ := Lib.hid hq; have HS := Lib.hid hs
  clear hq hs h
  go_enter Tryd.func94, Tryd.ntmps94
  go_wp2_with (at_make; refine make1 rfl _ _ _ rfl elem_bool rfl _ _ _ _ t.length rfl rfl rfl rfl ?b1 ?b2 ?_; (case b1 => omega); (case b2 => (unfold maxLen; omega)); intro w1 ha1 hg1 hz1)
  rw [← bls_replicate] at ha1
  rw [alloc_size] at ha1 hz1
  have hbm := block_kept (heap_alloc_new w (.cells #[.slice none 0 0] 22)) hg1 (by simp)
  have hgw := grownBy_trans' (World.grownBy_alloc w (.cells #[.slice none 0 0] 22) none) hg1
  have hSP : Sp w (w1.alloc (.cells #[.slice (some ⟨w.heap.size + 1, 0, none⟩) t.length t.length] 25)) w1.heap.size w.heap.size (w.heap.size + 1) t.length (.slice none 0 0) (List.replicate t.length false) [] := by
    have hA := World.grownBy_alloc w1 (.cells #[.slice (some ⟨w.heap.size + 1, 0, none⟩) t.length t.length] 25) none
    refine ⟨heap_alloc_new w1 _, block_kept hbm hA (by simp), World.ownsRow_nil _ _ _ _, ⟨none, 0, rfl⟩, ha1.kept hA (by simp), by simp, by simp [List.count_replicate], fun x hx => ?_, by simp, ⟨by omega, Nat.le_refl _, by omega⟩, grownBy_trans' hgw hA⟩
    simp [List.getD, List.getElem?_replicate, hx]
  have HSP := Lib.hid hSP
  clear hSP hbm hgw ha1 hg1
  go_loopg [3, 7, 18] t.length (fun g gv mul i wr => ∃ (k p : Nat) (sa : Option Addr) (sc : Nat) (gs made : List Nat) (mv : Value) (bs : List Bool), g + k = t.length ∧ gv = .slice sa gs.length sc ∧ mul = .int .i64 p ∧ i = .int .i64 k ∧ p ≤ made.length ∧
      SG w wr w1.heap.size w.heap.size (w.heap.size + 1) t (.slice sa gs.length sc) mv bs gs made k)
  case atStart => exact ⟨0, 0, none, 0, [], [], .slice none 0 0, _, rfl, rfl, rfl, rfl, Nat.le_refl _, HSP.out, World.ownsRow_nil _ _ _ _, fun k hk => by simp [Value.ownBlock] at hk, ⟨by simp, fun x hx => absurd hx (by omega), by simp, by simp⟩⟩
  case round =>
    clear HSP hz1
    obtain ⟨k, p, sa, sc, gs, made, mv, bs, hgk, rfl, rfl, rfl, hp, hst⟩ := hrel
    have HG := Lib.hid hgk; have ST := Lib.hid hst; clear hgk hst
    have hml := ST.out.sp.made_le
    have ci := cell_block ST.out.sp.box1 0 (by simp)
    simp only [List.getElem_toArray, List.getElem_cons_zero] at ci
    by_cases hk : k < t.length
    · have hk' : (k : Int) < t.length := by omega
      have ck := ST.out.sp.arr.bool k (by rw [ST.out.sp.len]; exact hk)
      have hgl := ST.out.inv.le
      cases hbk : bs.getD k false
      · rw [hbk] at ck
        have HBK := Lib.hid hbk; clear hbk
        have howng := ST.out.own
        obtain ⟨wo, rfl⟩ : ∃ wo : World, wo = wr := ⟨_, rfl⟩
        go_wp2_with (at_builtin; refine app1s rfl _ _ _ rfl elem_int w.heap.size _ gs.length (nats gs) rfl howng _ rfl rfl ?c1 ?c2 ?c3 ?_)
        case c1 => unfold maxLen; omega
        case c2 => omega
        case c3 => exact ST.out.sp.fr.size
        intro sa1 sc1 w2 hown2 hg2 hlt2 hmv2
        have hsp2 : Hid (Sp w w2 w1.heap.size w.heap.size (w.heap.size + 1) t.length mv bs made ∧ Apart (.slice sa1 (gs.length + 1) sc1) mv) := by
          have S := ST.out.sp
          have hap := ST.out.ap
          have n1 := owns_ne howng S.box1 (by decide)
          have n2 := owns_ne howng S.box2 (by decide)
          have n3 : (Value.slice sa gs.length sc).ownBlock ≠ some (w.heap.size + 1) := by
            obtain ⟨cur, rest, hh, _⟩ := S.arr
            exact owns_ne howng hh (by decide)
          refine ⟨⟨block_kept S.box1 hg2 n1, block_kept S.box2 hg2 n2, owns_of_block S.own (fun q hq => hg2.block q (S.own.lt q hq).2 (fun e => hap q e.symm hq)), S.shape, S.arr.kept hg2 n3, S.len, S.cnt, S.mem, S.lt, S.lo, grown_far S.fr hg2 (fun x e => (howng.lt x e).1)⟩, fun q hq => ?_⟩
          rcases hmv2 with e | ⟨_, e⟩
          · rw [e] at hq; exact hap q hq
          · intro hq'
            have := e q hq
            have := (S.own.lt q hq').2
            omega
        have HO2 := Lib.hid hown2
        clear howng hown2 hg2 hmv2 ci ck
        go_wp2_with fail
        refine (add_any w w2 w1.heap.size w.heap.size (w.heap.size + 1) t.length k mv bs made hk hle hsp2.out.1).mono ?_
        rintro e w3 ⟨rfl, bs3, mv3, hsp3, hkeep⟩
        have hst3 : SG w w3 w1.heap.size w.heap.size (w.heap.size + 1) t (.slice sa1 (gs.length + 1) sc1) mv3 bs3 (gs ++ [k]) (addTo made k) (k + 1) := by
          have hg3 := hkeep.gens hsp2.out.1 (show w2.ownsRow w.heap.size 3 1 (.slice sa1 (gs.length + 1) sc1) (gs.length + 1) (nats (gs ++ [k])) by rw [nats_snoc]; exact HO2.out) hsp2.out.2
          exact ⟨hsp3, by rw [List.length_append]; exact hg3.1, hg3.2, ST.out.inv.new hk⟩
        have HST3 := Lib.hid hst3
        have hp3 : p ≤ (addTo made k).length := by
          obtain ⟨r, hr⟩ := addTo_prefix made k
          rw [hr, List.length_append]; omega
        have hgl3 : (gs ++ [k]).length = gs.length + 1 := by simp
        have HGL := Lib.hid hgl3
        clear hsp3 hkeep hst3 hsp2 HO2 hgl3
        go_wp2
        go_loopg [7] (t.length - p) (fun g mul wr => ∃ (p : Nat) (made : List Nat) (mv : Value) (bs : List Bool), g + p = t.length ∧ mul = .int .i64 p ∧ p ≤ made.length ∧
            SG w wr w1.heap.size w.heap.size (w.heap.size + 1) t (.slice sa1 (gs.length + 1) sc1) mv bs (gs ++ [k]) made (k + 1))
        case atStart => exact ⟨p, _, _, _, by have := HST3.out.sp.made_le; omega, rfl, hp3, HST3.out⟩
        case round =>
          clear HST3 hp3
          obtain ⟨p, made, mv, bs, hgp, rfl, hp, hst⟩ := hrel
          have HGP := Lib.hid hgp; have ST := Lib.hid hst; clear hgp hst
          have hml := ST.out.sp.made_le
          have cm := cell_block ST.out.sp.box2 0 (by simp)
          simp only [List.getElem_toArray, List.getElem_cons_zero] at cm
          obtain ⟨ma, mc, hmv⟩ := ST.out.sp.shape
          rw [hmv] at cm
          by_cases hpm : p < made.length
          · obtain ⟨kb, hma, hmc1, hmc2, harr⟩ := owns_some (hmv ▸ ST.out.sp.own) (by omega)
            subst hma
            have hpm' : (p : Int) < made.length := by omega
            have cp := harr.nat p hpm
            obtain ⟨x, hx⟩ : ∃ x, x = made.getD p 0 := ⟨_, rfl⟩
            have hxm : x ∈ made := by rw [hx]; exact getD_mem hpm
            have hxl := ST.out.sp.lt x hxm
            rw [← hx] at cp
            unfold maxLen at hmc2
            have hpre : Arr wr kb 3 (nats (made.take (p + 1))) := by
              have := harr
              rw [← List.take_append_drop (p + 1) made, nats_append] at this
              exact this.front
            have HPRE := Lib.hid hpre; have HX := Lib.hid hx; have HXM := Lib.hid hxm
            have hpl : (made.take (p + 1)).length = p + 1 := by rw [List.length_take]; omega
            have HPL := Lib.hid hpl
            have hmv' := Lib.hid hmv
            clear hmv hpre hx hxm harr hpl
            obtain ⟨wo, rfl⟩ : ∃ wo : World, wo = wr := ⟨_, rfl⟩
            go_wp2
            go_loopg [47] (p + 1) (fun g jv wr => ∃ (j : Nat) (made' : List Nat) (mv' : Value) (bs' : List Bool), g + j = p + 1 ∧ jv = .int .i64 j ∧ (∃ r, made' = made ++ r) ∧ Arr wr kb 3 (nats (made.take (p + 1))) ∧
                SG w wr w1.heap.size w.heap.size (w.heap.size + 1) t (.slice sa1 (gs.length + 1) sc1) mv' bs' (gs ++ [k]) made' (k + 1))
            case atStart => exact ⟨0, made, mv, bs, rfl, rfl, ⟨[], by simp⟩, HPRE.out, ST.out⟩
            case round =>
              clear cp cm
              obtain ⟨j, made', mv', bs', hgj, rfl, hr, hpre, hst⟩ := hrel
              have HGJ := Lib.hid hgj; have ST' := Lib.hid hst; have HR := Lib.hid hr; have HPRE' := Lib.hid hpre
              clear hgj hst hr hpre
              by_cases hj : j < p + 1
              · have cj := HPRE'.out.nat j (by rw [HPL.out]; exact hj)
                obtain ⟨y, hy⟩ : ∃ y, y = (made.take (p + 1)).getD j 0 := ⟨_, rfl⟩
                have hym : y ∈ made := by rw [hy]; exact List.mem_of_mem_take (getD_mem (by rw [HPL.out]; exact hj))
                have hyl := ST.out.sp.lt y hym
                rw [← hy] at cj
                have hj' : (j : Int) < (p : Int) + 1 := by omega
                have hxl' : (x : Int) < t.length := by omega
                have hyl' : (y : Int) < t.length := by omega
                have HQ1 := HQ.out.kept ST'.out.sp.fr (by simp)
                have cx := HQ1.hd x hxl
                have cxy := HQ1.el x y hxl hyl
                have hxy := entN_lt HS.out hxl hyl
                have hyx := entN_lt HS.out hyl hxl
                have HYM := Lib.hid hym
                clear HQ1 hy hym
                go_wp2_with fail
                refine (add_any w _ w1.heap.size w.heap.size (w.heap.size + 1) t.length (entN t x y) mv' bs' made' hxy hle ST'.out.sp).mono ?_
                rintro e w4 ⟨rfl, bs4, mv4, hsp4, hkeep4⟩
                have hin : ∀ z ∈ made, z ∈ made' := by
                  obtain ⟨r, hr⟩ := HR.out
                  intro z hz; rw [hr]; exact List.mem_append_left _ hz
                have hst4 := Lib.hid (ST'.out.add (hin x HXM.out) (hin y HYM.out) hsp4 hkeep4)
                have hr4 : Hid (∃ r, addTo made' (entN t x y) = made ++ r) := by
                  obtain ⟨r, hr⟩ := HR.out
                  obtain ⟨r2, hr2⟩ := addTo_prefix made' (entN t x y)
                  exact ⟨r ++ r2, by rw [hr2, hr, List.append_assoc]⟩
                have hpr4 : Hid (Arr w4 kb 3 (nats (made.take (p + 1)))) := by
                  obtain ⟨r, hr⟩ := hr4.out
                  exact hkeep4.pre ST'.out.sp hsp4 ⟨made.drop (p + 1) ++ r, by rw [hr, ← List.append_assoc, List.take_append_drop]⟩ HPRE'.out
                have HQ2 := HQ.out.kept hsp4.fr (by simp)
                have cy := HQ2.hd y hyl
                have cyx := HQ2.el y x hyl hxl
                clear HQ2 hsp4 hkeep4 cx cxy cj hin
                go_wp2_with fail
                refine (add_any w _ w1.heap.size w.heap.size (w.heap.size + 1) t.length (entN t y x) mv4 bs4 _ hyx hle hst4.out.sp).mono ?_
                rintro e w5 ⟨rfl, bs5, mv5, hsp5, hkeep5⟩
                have hin : ∀ z ∈ made, z ∈ addTo made' (entN t x y) := by
                  obtain ⟨r, hr⟩ := hr4.out
                  intro z hz; rw [hr]; exact List.mem_append_left _ hz
                have hst5 := Lib.hid (hst4.out.add (hin y HYM.out) (hin x HXM.out) hsp5 hkeep5)
                have hr5 : Hid (∃ r, addTo (addTo made' (entN t x y)) (entN t y x) = made ++ r) := by
                  obtain ⟨r, hr⟩ := hr4.out
                  obtain ⟨r2, hr2⟩ := addTo_prefix (addTo made' (entN t x y)) (entN t y x)
                  exact ⟨r ++ r2, by rw [hr2, hr, List.append_assoc]⟩
                have hpr5 : Hid (Arr w5 kb 3 (nats (made.take (p + 1)))) := by
                  obtain ⟨r, hr⟩ := hr5.out
                  exact hkeep5.pre hst4.out.sp hsp5 ⟨made.drop (p + 1) ++ r, by rw [hr, ← List.append_assoc, List.take_append_drop]⟩ hpr4.out
                clear hsp5 hkeep5 cy cyx hin
                go_wp2
                go_roundg (p + 1 - (j + 1))
                case measure => have := HGJ.out; omega
                case rel => exact ⟨j + 1, _, _, _, by omega, by go_num, hr5.out, hpr5.out, hst5.out⟩
              · have hlen : p + 1 ≤ made'.length := by
                  obtain ⟨r, hr⟩ := HR.out
                  rw [hr, List.length_append]; omega
                have hm2 := ST'.out.sp.made_le
                go_wp2
                go_roundg (t.length - (p + 1))
                case measure => have := HGP.out; omega
                case rel => exact ⟨p + 1, made', mv', bs', by omega, by go_num, hlen, ST'.out⟩
          · go_wp2
            go_roundg (t.length - (k + 1))
            case measure => have := HG.out; omega
            case rel => exact ⟨k + 1, p, sa1, sc1, gs ++ [k], made, mv, bs, by omega, by rw [HGL.out], rfl, by go_num, hp, by have := ST.out; rw [← HGL.out] at this; exact this⟩
      · rw [hbk] at ck
        have hkm : k ∈ made := (ST.out.sp.mem k hk).1 hbk
        have HKM := Lib.hid hkm
        clear hbk hkm
        go_wp2
        go_roundg (t.length - (k + 1))
        case measure => have := HG.out; omega
        case rel => exact ⟨k + 1, p, sa, sc, gs, made, mv, bs, by omega, rfl, rfl, by go_num, hp, ST.out.sp, ST.out.own, ST.out.ap, ST.out.inv.next HKM.out⟩
    · go_wp2
      go_ret
      have hk2 : k = t.length := by have := HG.out; omega
      exact ⟨sa, sc, gs, rfl, Row.of_owns ST.out.own, ST.out.inv.lt, fun x hx => ST.out.inv.gen x (ST.out.inv.all x (by omega)), ST.out.sp.fr⟩
end Go.Proofs.YtdjhoadoiknaoaaDoor
