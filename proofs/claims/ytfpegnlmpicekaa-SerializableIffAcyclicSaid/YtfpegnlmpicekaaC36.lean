/- cycleFrom: the walk of the search. -/
import Derived.Test.YtfpegnlmpicekaaC37
namespace Go.Proofs.Ytfpegnlmpicekaa.C
open Go Go.RowKit Hp
set_option linter.unusedVariables false

def dcells (f : Nat → Int) : List Value := (List.range 20).map fun v => .int .i64 (f v)
theorem dcells_len (f : Nat → Int) : (dcells f).length = 20 := by simp [dcells]
theorem dcells_at (f : Nat → Int) {v : Nat} (h : v < 20) : (dcells f)[v]? = some (.int .i64 (f v)) := by simp [dcells, h]
theorem dcells_set (f : Nat → Int) (a : Nat) (x : Int) : (dcells f).set a (.int .i64 x) = dcells (updI f a x) := by
  refine List.ext_getElem (by simp [dcells]) fun i h1 h2 => ?_
  by_cases e : i = a
  · subst e; simp [dcells, updI]
  · rw [List.getElem_set_ne (by omega)]; simp [dcells, updI, e]
theorem dcells_congr {f g : Nat → Int} (h : ∀ v, v < 20 → f v = g v) : dcells f = dcells g := by
  refine List.ext_getElem (by simp [dcells]) fun i h1 h2 => ?_
  have : i < 20 := by simpa [dcells] using h1
  simp [dcells, h i this]
/-- A number in a row of numbers (type 3). -/
def TjR (w : World) (b o : Nat) (n : Nat) : Prop := Ty w b 3 ∧ At w b o (.int .i64 (n : Int))
theorem tjR_grows : Grows TjR := fun _ _ _ _ _ h hu => ⟨h.1.up hu, h.2.grow hu⟩
abbrev Tjs := Arr TjR 1
theorem Tjs.upE {w w' : World} {v : Value} {l : List Nat} {E : TypeId} (h : Tjs w v l) (hE : 3 ≠ E) (hu : UpE E w w') : Tjs w' v l :=
  Arr.growE (E := E) (fun _ _ _ hr => ⟨hr.1.upE hE hu, hr.2.upE hr.1 hE hu⟩) h
abbrev nc (l : List Nat) : List Value := l.map fun (n : Nat) => .int .i64 (n : Int)
theorem tjs_own {w : World} {base : Nat} {v : Value} {l : List Nat} (h : w.ownsRow base 3 1 v l.length (nc l)) : Tjs w v l :=
  own_arr h fun g hg hc i hi => ⟨hg, by rw [Nat.mul_one]; exact hc i _ (by simp [hi])⟩
/-- Only newer rows have grown besides. -/
theorem UpE.newer {E : TypeId} {w0 w1 w2 : World} {row : Option Nat} (h : UpE E w0 w1) (hg : w1.grownBy w2 row) (hr : ∀ k, row = some k → w0.heap.size ≤ k) : UpE E w0 w2 :=
  ⟨Nat.le_trans h.size hg.size, fun k hk hn => by
    rw [hg.block k (by have := h.size; omega) (fun e => by have := hr k e.symm; omega)]
    exact h.block k hk hn⟩
def slen (v : Value) : Nat := match v with | .slice _ n _ => n | _ => 0
/-- How many numbers of a block are -1. -/
def negAt (w : World) (b : Nat) : Nat := match w.heap[b]? with
  | some (.cells c _ _) => (c.toList.filter fun v => match v with | .int _ x => x == -1 | _ => false).length
  | _ => 0
theorem negAt_blk {w : World} {b : Nat} {f : Nat → Int} {E : TypeId} (h : Blk w b (dcells f) E) : negAt w b = neg f := by
  unfold Blk at h
  unfold negAt neg
  rw [h]
  simp [dcells, List.filter_map, Function.comp_def]

set_option maxRecDepth 100000 in
set_option maxHeartbeats 4000000 in
theorem cyclefrom_any (M : Nat → Bool) (s : Nat) (w : World) (hs : s < 20) (hself : M (s * 20 + s) = false) :
    Calls Try.prog 53 #[.agg (mcells M).toArray, .int .i64 s] w fun e w' => ∃ v c, e = .returned v ∧ w'.ownsRow w.heap.size 3 1 v c.length (nc c) ∧ (c = [] ∨ IsCycle M c) ∧ (Path (fun u v => u < 20 ∧ v < 20 ∧ M (u * 20 + v) = true) s s s → c ≠ []) ∧ Up w w' := by
  have HSF := Lib.hid hself
  clear hself
  obtain ⟨i0, hi0, hz0, hz1, hz2⟩ := info_parts Try.info3
  go_enter Try.func53, Try.ntmps53
  go_wp2
  have hm0 := (Blk.new w (mcells M).toArray 72).up ((Up.refl _).alloc (.cells (List.replicate 20 (.int .i64 0)).toArray 88))
  have hd0 := Blk.new (w.alloc (.cells (mcells M).toArray 72)) (List.replicate 20 (.int .i64 0)).toArray 88
  go_loopw [17] (fun kv wr => ∃ k : Nat, k ≤ 20 ∧ kv = .int .i64 k ∧ Blk wr w.heap.size (mcells M) 72 ∧ Blk wr (w.heap.size + 1) (dcells fun v => if v < k then -1 else 0) 88 ∧ Up w wr) (fun kv _ => 20 - (intOf kv).toNat)
  case atStart =>
    refine ⟨0, by omega, rfl, hm0, ?_, ((Up.refl _).alloc _).alloc _⟩
    rw [World.size_alloc] at hd0
    exact hd0
  case round =>
    clear hm0 hd0
    obtain ⟨k, hk, rfl, hbm, hbd, hu⟩ := hrel
    by_cases hlt : k < 20
    · have c1 := hbd.cell k
      rw [dcells_at _ hlt] at c1
      have c2 := hbd.free k
      go_wp2
      have e : (dcells fun v => if v < k then -1 else 0).set k (.int .i64 (-1)) = dcells fun v => if v < k + 1 then -1 else 0 := by
        rw [dcells_set]
        refine dcells_congr fun v hv => ?_
        unfold updI
        by_cases e1 : v = k
        · subst e1; simp
        · by_cases e2 : v < k
          · rw [if_neg e1]; show (if v < k then (-1 : Int) else 0) = _; rw [if_pos e2, if_pos (by omega)]
          · rw [if_neg e1]; show (if v < k then (-1 : Int) else 0) = _; rw [if_neg e2, if_neg (by omega)]
      go_roundw
      case rel => exact ⟨k + 1, by omega, by go_num, hbm.other (by omega) _ _ _, by rw [← e]; exact hbd.set _ _, hu.set (by omega) _ _ _⟩
      case measure => simp [intOf]; omega
    · have hk20 : 20 ≤ k := by omega
      go_wp2
      have hlb := hbd.lt
      have A1 : Up wr (wr.alloc (.cells #[.int .i64 (s : Int)] 3)) := (Up.refl _).alloc _
      have hbd1 := hbd.up A1
      rw [dcells_congr (g := fun _ => -1) fun v hv => by show (if v < k then (-1 : Int) else 0) = -1; rw [if_pos (by omega)]] at hbd1
      have hbm1 := hbm.up A1
      have hfr1 : Tjs (wr.alloc (.cells #[.int .i64 (s : Int)] 3)) (.slice (some ⟨wr.heap.size, 0, none⟩) 1 1) [s] :=
        ⟨_, 1, rfl, by simp, by omega, (fun h => by cases h), fun i hi => ⟨wr.heap.size, 0, rfl, by
          obtain rfl : i = 0 := by simpa using hi
          exact ⟨blk_ty (Blk.new wr #[.int .i64 (s : Int)] 3), (Blk.new wr #[.int .i64 (s : Int)] 3).at rfl⟩⟩⟩
      have hu1 := hu.alloc (.cells #[.int .i64 (s : Int)] 3)
      have N1 : Hid (neg (fun _ => -1) = 20) := by unfold Hid; decide
      obtain ⟨wA, hwA⟩ : ∃ wA, wA = wr.alloc (.cells #[.int .i64 (s : Int)] 3) := ⟨_, rfl⟩
      rw [← hwA] at hbd1 hbm1 hfr1 hu1 ⊢
      clear hwA A1 hbd hbm hu hlb
      go_loopw [7, 8] (fun fv dv wr => ∃ (d : Nat) (f : Nat → Int) (fr : List Nat), dv = .int .i64 d ∧ Bfs M s d f fr ∧ d + neg f ≤ 21 + (if fr = [] then 1 else 0) ∧ Tjs wr fv fr ∧ Blk wr w.heap.size (mcells M) 72 ∧ Blk wr (w.heap.size + 1) (dcells f) 88 ∧ Up w wr) (fun fv _ wr => negAt wr (w.heap.size + 1) + min (slen fv) 1)
      case atStart => exact ⟨1, _, [s], rfl, Bfs.init M s, by rw [N1.out]; simp, hfr1, hbm1, hbd1, hu1⟩
      case round =>
        clear hbd1 hbm1 hfr1 hu1 N1
        obtain ⟨d, f, fr, rfl, hB, hdn, hfr, hbm, hbd, hu⟩ := hrel
        have HB := Lib.hid hB
        have HFR := Lib.hid hfr
        have HN := Lib.hid (negAt_blk hbd)
        have DN := Lib.hid hdn
        obtain ⟨aF, cF, rfl, hf1, hf2, _, hf3⟩ := hfr
        clear hB hdn hf3
        by_cases hne : fr = []
        · subst hne
          simp only [List.length_nil] at *
          have FD := Lib.hid (fun (a : Nat) => HB.out.found (a := a))
          obtain ⟨hds, cds⟩ := hbd.at (dcells_at f hs)
          obtain ⟨y, hy⟩ : ∃ y, y = f s := ⟨_, rfl⟩
          rw [← hy] at cds
          have Y := Lib.hid hy
          clear hy
          by_cases hyn : y < 0
          · go_wp2
            go_ret
            exact ⟨_, [], rfl, World.ownsRow_nil _ _ _ _, .inl rfl, fun p => by have := FD.out s p; rw [← Y.out] at this; omega, hu⟩
          · have hy1 : 1 ≤ y := by
              rcases HB.out.val s hs with e | ⟨q, _, _⟩
              · rw [← Y.out] at e; omega
              · rw [Y.out]; exact q
            obtain ⟨L, rfl⟩ := Int.eq_ofNat_of_zero_le (show 0 ≤ y by omega)
            have hL20 : L < d := by
              rcases HB.out.val s hs with e | ⟨_, q, _⟩
              · rw [← Y.out] at e; omega
              · rw [← Y.out] at q; omega
            have hd22 : d ≤ 22 := by have := DN.out; simp at this; omega
            go_wp2
            obtain ⟨wo, rfl⟩ : ∃ wo : World, wo = wr := ⟨_, rfl⟩
            have A1 : Up wo (wo.alloc (.cells #[.int .i64 (s : Int)] 3)) := (Up.refl _).alloc _
            have hown1 := own_base (base' := wo.heap.size) (own_of_alloc wo (.int .i64 (s : Int)) 3) (Nat.le_refl _)
            have BM := Lib.hid hbm
            have BD := Lib.hid hbd
            go_loopw [13, 14, 15] (fun cv xv lv wi => ∃ (c : List Nat) (x left : Nat), xv = .int .i64 x ∧ lv = .int .i64 left ∧ Back M s f L left c x ∧ wi.ownsRow wo.heap.size 3 1 cv c.length (nc c) ∧ Up wo wi) (fun _ _ lv _ => (intOf lv).toNat)
            case atStart => exact ⟨[s], s, L, rfl, rfl, Back.start hs (by omega) Y.out.symm, hown1, A1⟩
            case round =>
              clear hown1 A1
              obtain ⟨c, x, left, rfl, rfl, hK, hown, hui⟩ := hrel
              have HK := Lib.hid hK
              have hkp := hK.pos
              have hx20 := hK.x20
              have hkl := hK.len
              clear hK
              by_cases hl1 : 1 < left
              · have BM2 := Lib.hid (BM.out.up hui)
                have BD2 := Lib.hid (BD.out.up hui)
                go_wp2
                obtain ⟨wi, rfl⟩ : ∃ wi : World, wi = wr := ⟨_, rfl⟩
                go_loopw [14, 16] (fun xv bv wj => ∃ b : Nat, s < b ∧ b ≤ 20 ∧ bv = .int .i64 b ∧ xv = .int .i64 x ∧ (∀ b', s < b' → b' < b → M (x * 20 + b') = true → f b' ≠ (left : Int) - 1) ∧ wj = wi) (fun _ bv _ => 20 - (intOf bv).toNat)
                case atStart => exact ⟨s + 1, by omega, by omega, by go_num, rfl, fun b' h1 h2 => by omega, by trivial⟩
                case round =>
                  obtain ⟨b, hsb, hb, rfl, rfl, hno, hww⟩ := hrel
                  subst hww
                  have NO := Lib.hid hno
                  clear hno
                  by_cases hlb : b < 20
                  · obtain ⟨hm1, cm⟩ := BM2.out.at (mcells_at M (c := x * 20 + b) (by omega))
                    obtain ⟨hm2, cd⟩ := BD2.out.at (dcells_at f hlb)
                    obtain ⟨z, hz⟩ : ∃ z, z = M (x * 20 + b) := ⟨_, rfl⟩
                    rw [← hz] at cm
                    have Z := Lib.hid hz
                    clear hz
                    obtain ⟨q, hq⟩ : ∃ q, q = f b := ⟨_, rfl⟩
                    rw [← hq] at cd
                    have Q := Lib.hid hq
                    clear hq
                    cases z with
                    | false =>
                      go_wp2
                      go_roundw
                      case rel => exact ⟨b + 1, by omega, by omega, by go_num, rfl, fun b' h1 h2 h3 => by
                        by_cases e : b' = b
                        · subst e; rw [← Z.out] at h3; cases h3
                        · exact NO.out b' h1 (by omega) h3, by trivial⟩
                      case measure => simp [intOf]; omega
                    | true =>
                      by_cases hqq : q = (left : Int) - 1
                      · have KS := Lib.hid (HK.out.step (by omega) hsb hlb Z.out.symm (Q.out.symm.trans hqq))
                        subst hqq
                        go_wp2_with (at_builtin; refine wpList_append_own _ rfl _ _ 22 rfl wo.heap.size 3 i0 (.int .i64 0) 1 8 Try.underlying22 hi0 hz0 hz1 hz2 rfl (by decide) _ _ _ rfl (hown.alloc _) ⟨wr.heap.size, 0, none⟩ 1 1 [.int .i64 (b : Int)] rfl rfl ?f1 ?f2 ?f3 ?f4 ?f5 ?_)
                        case f1 => simpa using cell_one_new2 wr (.int .i64 (b : Int)) 3
                        case f2 => intro u hu; rw [List.mem_singleton.1 hu]; rfl
                        case f3 => unfold maxLen; omega
                        case f4 => omega
                        case f5 => have := hui.size; simp; omega
                        intro v' w9 hown' hgrow _
                        have hty := fun j hj => own_ty (hown.alloc (.cells #[.int .i64 (b : Int)] 3)) j hj
                        have hui9 : Up wo w9 := Below.grown (hui.alloc (.cells #[.int .i64 (b : Int)] 3)) hgrow (by have := hui.size; simp; omega) (fun j hj => (hty j hj).2)
                        clear hgrow hty hown
                        go_wp2
                        go_roundw
                        case rel => exact ⟨c ++ [b], b, left - 1, rfl, by go_num, KS.out, by simpa using hown', hui9⟩
                        case measure => simp [intOf]; omega
                      · have hq1 : (q == (left : Int) - 1) = false := by simpa using hqq
                        go_wp2
                        go_roundw
                        case rel => exact ⟨b + 1, by omega, by omega, by go_num, rfl, fun b' h1 h2 h3 => by
                          by_cases e : b' = b
                          · subst e; rw [← Q.out]; exact hqq
                          · exact NO.out b' h1 (by omega) h3, by trivial⟩
                        case measure => simp [intOf]; omega
                  · exfalso
                    obtain ⟨u, hu20, hsu, hmu, hfu⟩ := HB.out.dn x hx20 (by have := HK.out.fx; omega)
                    exact NO.out u hsu (by omega) hmu (by rw [hfu, HK.out.fx])
              · obtain rfl : left = 1 := by omega
                obtain ⟨ax, cx, rfl⟩ := own_len hown
                have CY := Lib.hid (HK.out.done hs Y.out.symm HSF.out HB.out.one)
                go_wp2
                go_ret
                exact ⟨_, c, rfl, own_base hown hu.size, .inr CY.out, fun _ e => by subst e; simp at hkl; omega, hu.trans hui⟩
        · have hfl : 0 < fr.length := List.length_pos_iff.2 hne
          have hd22 : d ≤ 21 := by have := DN.out; rw [if_neg hne] at this; omega
          go_wp2
          obtain ⟨wo, rfl⟩ : ∃ wo : World, wo = wr := ⟨_, rfl⟩
          have BM := Lib.hid hbm
          have FB := Lib.hid (HB.out.fr_bd hs)
          have hbl := hbd.lt
          go_loopw [9, 32] (fun nv kv wi => ∃ (i : Nat) (f2 : Nat → Int) (nx : List Nat), i ≤ fr.length ∧ kv = .int .i64 i ∧ Mid M s d f2 fr nx i s (neg f) ∧ wi.ownsRow wo.heap.size 3 1 nv nx.length (nc nx) ∧ UpE 88 wo wi ∧ Blk wi (w.heap.size + 1) (dcells f2) 88 ∧ Up w wi) (fun _ kv _ => fr.length - (intOf kv).toNat)
          case atStart => exact ⟨0, f, [], by omega, rfl, HB.out.start, World.ownsRow_nil _ _ _ _, (Up.refl wo).toE 88, hbd, hu⟩
          case round =>
            obtain ⟨i, f2, nx, hi, rfl, hM, hown, hE, hbd2, hu2⟩ := hrel
            have HM := Lib.hid hM
            clear hM
            by_cases hlt : i < fr.length
            · obtain ⟨a', cap', he, _, _, _, h3'⟩ := Tjs.upE HFR.out (by decide) hE
              simp only [Value.slice.injEq] at he
              obtain ⟨rfl, hqq, rfl⟩ := he
              clear hqq
              obtain ⟨b', off', rfl, h4'⟩ := arr_at (n := 0) (cap := 0) (0 : Nat) h3' (by omega)
              obtain ⟨_, hbo, co⟩ := h4' i hlt
              rw [Nat.mul_one] at co
              have hb20 : fr.getD i 0 < 20 := FB.out _ (by simp [List.getD, hlt])
              obtain ⟨b, hb⟩ : ∃ b, b = fr.getD i 0 := ⟨_, rfl⟩
              rw [← hb] at co hb20
              have BB := Lib.hid hb
              clear hb h4' h3'
              go_wp2
              go_loopw [9, 12] (fun nv av wi => ∃ (a : Nat) (f3 : Nat → Int) (nx3 : List Nat), s ≤ a ∧ a ≤ 20 ∧ av = .int .i64 a ∧ Mid M s d f3 fr nx3 i a (neg f) ∧ wi.ownsRow wo.heap.size 3 1 nv nx3.length (nc nx3) ∧ UpE 88 wo wi ∧ Blk wi (w.heap.size + 1) (dcells f3) 88 ∧ Up w wi) (fun _ av _ => 20 - (intOf av).toNat)
              case atStart => exact ⟨s, f2, nx, by omega, by omega, rfl, HM.out, hown, hE, hbd2, hu2⟩
              case round =>
                clear hown hE hbd2 hu2 HM co
                obtain ⟨a, f3, nx3, hsa, ha, rfl, hM, hown, hE, hbd3, hu3⟩ := hrel
                have HM := Lib.hid hM
                have hcn := hM.cnt
                have hnl := neg_le f
                clear hM
                by_cases hla : a < 20
                · have hB3 := blk_upE BM.out (by decide) hE
                  obtain ⟨hm1, cm⟩ := hB3.at (mcells_at M (c := a * 20 + b) (by omega))
                  obtain ⟨hm2, cd⟩ := hbd3.at (dcells_at f3 hla)
                  have fd := hbd3.free a
                  obtain ⟨x, hx⟩ : ∃ x, x = M (a * 20 + b) := ⟨_, rfl⟩
                  rw [← hx] at cm
                  have X := Lib.hid hx
                  clear hx
                  obtain ⟨y, hy⟩ : ∃ y, y = f3 a := ⟨_, rfl⟩
                  rw [← hy] at cd
                  have Y := Lib.hid hy
                  clear hy hcn
                  cases x with
                  | false =>
                    have HMM := Lib.hid (HM.out.miss hla (fun h => by rw [← BB.out, ← X.out] at h; cases h))
                    go_wp2
                    go_roundw
                    case rel => exact ⟨a + 1, f3, nx3, by omega, by omega, by go_num, HMM.out, hown, hE, hbd3, hu3⟩
                    case measure => simp [intOf]; omega
                  | true =>
                    by_cases hyn : y < 0
                    · have HMM := Lib.hid (HM.out.hit hs hla hsa hlt (by rw [← BB.out, ← X.out]) (by rw [← Y.out]; exact hyn))
                      have hnx : nx3.length ≤ 20 := by have := HM.out.cnt; omega
                      have hE4 := upE_setCell wr (w.heap.size + 1) a none (.int .i64 (d : Int)) (blk_ty hbd3)
                      have hown4 := own_upE hown (by decide) hE4
                      have hE5 := hE.trans hE4
                      have hbd5 := hbd3.set a (.int .i64 (d : Int))
                      rw [dcells_set] at hbd5
                      have hu5 := hu3.set (b := w.heap.size + 1) (by omega) a none (.int .i64 (d : Int))
                      go_wp2_with (at_builtin; refine wpList_append_own _ rfl _ _ 22 rfl wo.heap.size 3 i0 (.int .i64 0) 1 8 Try.underlying22 hi0 hz0 hz1 hz2 rfl (by decide) _ _ _ rfl (hown4.alloc _) ⟨wr.heap.size, 0, none⟩ 1 1 [.int .i64 (a : Int)] rfl rfl ?c1 ?c2 ?c3 ?c4 ?c5 ?_)
                      first | (case c1 => simpa using cell_one_new2 (wr.setCell ⟨w.heap.size + 1, a, none⟩ (.int .i64 (d : Int))) (.int .i64 (a : Int)) 3) | skip
                      case c2 => intro u hu; rw [List.mem_singleton.1 hu]; rfl
                      case c3 => unfold maxLen; omega
                      case c4 => omega
                      case c5 => have := hE.size; simp; omega
                      intro v' w9 hown' hgrow _
                      have A5 : Up (wr.setCell ⟨w.heap.size + 1, a, none⟩ (.int .i64 (d : Int))) ((wr.setCell ⟨w.heap.size + 1, a, none⟩ (.int .i64 (d : Int))).alloc (.cells #[.int .i64 (a : Int)] 3)) := (Up.refl _).alloc _
                      have hty := fun j hj => own_ty (hown4.alloc (.cells #[.int .i64 (a : Int)] 3)) j hj
                      have hE6 := UpE.newer (hE5.trans (A5.toE 88)) hgrow (fun j hj => (hty j hj).2)
                      have hbd6 := blk_upE (hbd5.up A5) (by decide) (UpE.of_grown hgrow (fun j hj => (hty j hj).1))
                      have hu6 : Up w w9 := Below.grown (hu5.alloc (.cells #[.int .i64 (a : Int)] 3)) hgrow (by have := hu5.size; simp at this ⊢; omega) (fun j hj => Nat.le_trans hu.size (hty j hj).2)
                      clear hgrow hty hown4 hown hE5 hE4 hbd5 hu5 hE hbd3 hu3 A5
                      go_wp2
                      go_roundw
                      case rel => exact ⟨a + 1, _, nx3 ++ [a], by omega, by omega, by go_num, HMM.out, by simpa using hown', hE6, hbd6, hu6⟩
                      case measure => simp [intOf]; omega
                    · have HMM := Lib.hid (HM.out.miss hla (fun _ => by rw [← Y.out]; omega))
                      go_wp2
                      go_roundw
                      case rel => exact ⟨a + 1, f3, nx3, by omega, by omega, by go_num, HMM.out, hown, hE, hbd3, hu3⟩
                      case measure => simp [intOf]; omega
                · obtain rfl : a = 20 := by omega
                  have HMM := Lib.hid HM.out.next
                  go_wp2
                  go_roundw
                  case rel => exact ⟨i + 1, f3, nx3, by omega, by go_num, HMM.out, hown, hE, hbd3, hu3⟩
                  case measure => simp [intOf]; omega
            · obtain rfl : i = fr.length := by omega
              obtain ⟨ax, cx, rfl⟩ := own_len hown
              have HD := Lib.hid HM.out.done
              have HN2 := Lib.hid (negAt_blk hbd2)
              have CN := HM.out.cnt
              have hB2 := blk_upE BM.out (by decide) hE
              go_wp2
              go_roundw
              case rel =>
                refine ⟨d + 1, f2, nx, by go_num, HD.out, ?_, tjs_own hown, hB2, hbd2, hu2⟩
                have := DN.out
                rw [if_neg hne] at this
                split
                · omega
                · have : 0 < nx.length := List.length_pos_iff.2 (by assumption)
                  omega
              case measure =>
                rw [HN.out, HN2.out]
                simp only [slen]
                omega
end Go.Proofs.Ytfpegnlmpicekaa.C
