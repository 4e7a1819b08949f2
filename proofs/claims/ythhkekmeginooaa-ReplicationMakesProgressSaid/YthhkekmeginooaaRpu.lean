/- Replication: Elect. -/
import Derived.Test.YthhkekmeginooaaRpt
namespace Go.Proofs.Ythhkekmeginooaa.Rp
open Go Go.RowKit Hp
set_option linter.unusedVariables false

theorem oth_snoc (i : Nat) (V : List Nat) (k : Nat) (h : k < V.length) : oth i (V.take (k + 1)) = othS i (oth i (V.take k)) V[k] := by
  unfold oth
  rw [List.take_add_one, List.getElem?_eq_getElem h, Option.toList_some, List.foldl_append]
  rfl
theorem othS_len (i : Nat) (acc : List Nat) (v : Nat) : (othS i acc v).length ≤ acc.length + 1 := by
  unfold othS
  split
  · omega
  · rw [List.length_append, List.length_singleton]; omega
theorem oth_len (i : Nat) (V : List Nat) : (oth i V).length ≤ V.length := by
  suffices ∀ (V acc : List Nat), (V.foldl (othS i) acc).length ≤ acc.length + V.length by simpa [oth] using this V []
  intro V
  induction V with
  | nil => intro acc; exact Nat.le_refl _
  | cons v V ih => intro acc; have := ih (othS i acc v); have := othS_len i acc v; rw [List.foldl_cons, List.length_cons]; omega
theorem othS_self (i : Nat) (acc : List Nat) : othS i acc i = acc := by unfold othS; rw [if_pos (.inl rfl)]
theorem ci_any (l : List Nat) (x : Nat) : ((ci l).any fun y => decide (y = (x : Int))) = decide (x ∈ l) := by
  rw [Bool.eq_iff_iff, List.any_eq_true, decide_eq_true_eq]
  constructor
  · rintro ⟨y, hy, e⟩
    obtain ⟨z, hz, rfl⟩ := List.mem_map.1 hy
    have := of_decide_eq_true e
    have : z = x := by omega
    rw [← this]; exact hz
  · exact fun h => ⟨_, List.mem_map_of_mem h, decide_eq_true rfl⟩
theorem cell_nv (w : World) (v : Value) (E : TypeId) (g : Nat) (hg : w.heap.size = g) : ∀ (j : Nat) u, [v][j]? = some u → (w.alloc (.cells #[v] E)).cell? ((⟨g, 0, none⟩ : Addr).add j) = some u := by
  subst hg
  exact cells_new w #[v] E
theorem made_ic (n : Nat) : madeCells #[.int .i64 0] n = (icN (List.replicate n 0)).toArray := by
  apply Array.toList_inj.1
  rw [toList_madeCells_one]
  unfold icN
  rw [List.map_replicate]
  rfl
theorem mkI (n : Nat) (h2 : n ≤ 1000) (w : World) : (Instr.makeSlice 22 (.int .i64 (n : Int)) (.int .i64 (n : Int))).run Try.prog w = .ok (.slice (some ⟨w.heap.size, 0, none⟩) n n) (w.alloc (.cells (icN (List.replicate n 0)).toArray 3)) := by
  obtain ⟨i0, hi, hz0, hz1, hz2⟩ := info_parts Try.infoI
  have h := run_make (P := Try.prog) w 22 3 i0 (.int .i64 0) Try.underlying22 hi hz0 .i64 .i64 (n : Int) (n : Int) (by omega) (Int.le_refl _) (by rw [hz2]; omega) (by omega)
  rw [hz1, Int.toNat_natCast, Nat.mul_one, show (Value.int .i64 0).cells = #[.int .i64 0] from rfl, made_ic] at h
  exact h
section
variable {w wr W : World} {p : Nat} {C : Clu} {F : Nat → Prop} {g c n : Nat} {lv nw : Value} {ms : List MM}
theorem St.setT (h : St w wr p C F g c n lv nw ms) (hU : Up wr W) (i : Nat) (hi : i < C.srv.length) (x : Nat) (hl : ∀ k, F k → k < w.heap.size) :
    St w (W.setCell ⟨g, i * 4, none⟩ (Rp.nv x)) p (Clu.elt x C i) F g c n lv nw ms := by
  obtain ⟨ss, h1, h2, h3⟩ := h
  obtain ⟨a, b⟩ := CluP.join h2 (h1.setT hU i (by rw [h1.slen]; exact hi) x) hl
  exact ⟨_, a, b, (h3.trans (Below.chg _ hU) fun _ _ e => e).trans (chg_set W g (i * 4) none (Rp.nv x)) fun _ _ e => e⟩
theorem elts_snoc (C : Clu) (T : Nat) (L : List Nat) (j : Nat) (h : j < L.length) : C.elts T (L.take (j + 1)) = Clu.elt T (C.elts T (L.take j)) L[j] := by
  unfold Clu.elts
  rw [List.take_add_one, List.getElem?_eq_getElem h, Option.toList_some, List.foldl_append]
  rfl
theorem CluP.cellx {ss : List MS} (h : CluP w p C F (.slice (some ⟨g, 0, none⟩) n c) lv nw ss ms) (i : Nat) (hi : i < C.srv.length) : ∃ u0 u3, w.cell? ⟨g, i * 4, none⟩ = some u0 ∧ w.cell? ⟨g, i * 4 + 3, none⟩ = some u3 ∧ (∀ j, w.frozen? ⟨g, j, none⟩ = false) ∧ g < w.heap.size := by
  obtain ⟨g', c', hv, _, hgl, x0, _, _, x3, xf⟩ := h.cells i (by rw [h.slen]; exact hi)
  simp only [Value.slice.injEq, Option.some.injEq, Addr.mk.injEq, and_true] at hv
  obtain ⟨rfl, rfl, rfl⟩ := hv
  exact ⟨_, _, x0, x3, xf, hgl⟩
/-- The match of a server made anew. -/
theorem St.setM (h : St w wr p C F g c n lv nw ms) (i : Nat) (hi : i < C.srv.length) (m : List Nat) (hm : m.length ≤ 1000) (hl : ∀ k, F k → k < w.heap.size) :
    CluPost p (C.put i { C.s i with mat := m }) F w ((wr.setCell ⟨g, i * 4 + 3, none⟩ (.slice (some ⟨wr.heap.size, 0, none⟩) m.length m.length)).alloc (.cells (icN m).toArray 3)).drew := by
  obtain ⟨ss, h1, h2, h3⟩ := h
  have hi' : i < ss.length := by rw [h1.slen]; exact hi
  obtain rfl := h1.svn
  have U1 : Up wr (wr.alloc (.cells (icN m).toArray 3)) := (Up.refl wr).alloc _
  have hb : Blk (wr.alloc (.cells (icN m).toArray 3)) wr.heap.size (icN m) 3 := Blk.new wr (icN m).toArray _
  have hown : (wr.alloc (.cells (icN m).toArray 3)).ownsRow wr.heap.size 3 1 (.slice (some ⟨wr.heap.size, 0, none⟩) m.length m.length) m.length (icN m) := own_of_blk hb (by rw [icN_len, Nat.mul_one]) (by omega)
  have tg := ((own_ty h1.srv) g rfl).1
  have hgl : g < wr.heap.size := tg.lt
  rw [← World.setCell_alloc_past (o := .cells (icN m).toArray 3) (n := g) (i := i * 4 + 3) (v := .slice (some ⟨wr.heap.size, 0, none⟩) m.length m.length) (hn := hgl)]
  generalize wr.alloc (.cells (icN m).toArray 3) = W at *
  have hc := chg_set W g (i * 4 + 3) none (.slice (some ⟨wr.heap.size, 0, none⟩) m.length m.length)
  have hcc : Chg (· = g) wr (W.setCell ⟨g, i * 4 + 3, none⟩ (.slice (some ⟨wr.heap.size, 0, none⟩) m.length m.length)) := (Below.chg (· = g) U1).trans hc fun _ _ e => e
  have hrow := own_set (own_up h1.srv U1) (i * 4 + 3) (by rw [msC_len]; omega) (.slice (some ⟨wr.heap.size, 0, none⟩) m.length m.length)
  rw [show (msC ss).set (i * 4 + 3) (.slice (some ⟨wr.heap.size, 0, none⟩) m.length m.length) = msC (ss.set i { ss[i] with mv := .slice (some ⟨wr.heap.size, 0, none⟩) m.length m.length, mat := m }) from fm_set (k := 4) (f := msC1) (fun _ => rfl) ss i 3 hi' (by decide) _ _ rfl] at hrow
  have hlg := own_chg (h1.logs _ (List.getElem_mem hi')) hcc fun k hk e => by
      subst e
      exact ((own_ty (h1.logs _ (List.getElem_mem hi'))) k hk).1.ne (E' := 53) (by decide) tg
  have key := h1.serv i hi' { ss[i] with mv := .slice (some ⟨wr.heap.size, 0, none⟩) m.length m.length, mat := m } hcc (fun k _ e => .inl (by rw [e]; rfl)) hrow hlg (fun k hk => .inl hk)
    (own_base' (own_chg hown hc fun k hk e => by
      subst e
      exact ((own_ty hown) k hk).1.ne (E' := 53) (by decide) (tg.up U1)) fun _ _ => Nat.zero_le _) (fun k hk => .inr ((own_ty hown) k hk).2)
  obtain ⟨a, b⟩ := CluP.join h2 key hl
  rw [h1.s i hi']
  exact CluPost.up ⟨⟨_, _, _, _, _, a⟩, b⟩ (Up.refl _).drew hl
end
section
variable {w : World} {p : Nat} {C : Clu} {F : Nat → Prop} {LL : Nat → Lg} {ack : Nat → Nat → Nat}
set_option maxRecDepth 100000 in
set_option maxHeartbeats 4000000 in
theorem elect_any (h : CluR w p C F) (ok : Ok C LL ack) (i : Nat) (hi : i < C.srv.length) (V : List Nat) (hV : ∀ v ∈ V, v < C.srv.length) (hVl : V.length ≤ 1000) (vv : Value) (hvv : Src w 1 vv V.length (icN V)) :
    Calls Try.prog 17 #[.pointer (some ⟨p, 0, none⟩), .int .i64 (i : Int), vv] w fun e w' => e = .returned (.int .i64 (C.electE i V)) ∧ CluPost p (C.electC i V) F w w' := by
  have HV := Lib.hid (fun W (hu : Up w W) v (hv : v < C.srv.length) => valid_any (h.up hu) v hv)
  have HLT := Lib.hid h.lt
  have HSELF := Lib.hid h.self
  have HOK := Lib.hid ok
  have HIC := Lib.hid hi
  have HVV := Lib.hid hvv
  have HVM := Lib.hid hV
  obtain ⟨va, vc, rfl⟩ := src_rn hvv
  obtain ⟨ii, hii, hze0, hze1, hze2⟩ := info_parts Try.infoI
  have HH := Lib.hid h
  clear hvv hV ok hi h
  go_enter Try.func17, Try.ntmps17
  go_wp2_with (first
    | (go_at_call 23; refine (HV.out _ (Up.refl w) i HIC.out).mono ?_; rintro e w' ⟨rfl, rfl⟩)
    | fail)
  go_loopw [7, 21] (fun tv iv wr => ∃ k : Nat, k ≤ V.length ∧ iv = .int .i64 k ∧ Hid (wr.ownsRow w.heap.size 3 1 tv (oth i (V.take k)).length (icN (oth i (V.take k))) ∧ Up w wr)) (fun _ iv _ => V.length - (intOf iv).toNat)
  case atStart => exact ⟨0, by omega, rfl, World.ownsRow_nil _ _ _ _, Up.refl _⟩
  case round =>
    obtain ⟨k, hk, rfl, HQ⟩ := hrel
    obtain ⟨wo, hwo⟩ : ∃ wo : World, wo = wr := ⟨_, rfl⟩
    rw [← hwo] at HQ ⊢
    clear hwo
    have hol : (oth i (V.take k)).length ≤ 1000 := by have := oth_len i (V.take k); simp at this; omega
    obtain ⟨ta, tc, rfl, _, _, _⟩ := own_form HQ.out.1
    by_cases hlt : k < V.length
    · obtain ⟨b, off, rfl, hc⟩ := src_at HVV.out (by omega)
      have d0 := ((hc _ _ (icN_get V k hlt)).grow HQ.out.2).2
      have hlk : (k : Int) < (V.length : Int) := by omega
      have HSN := Lib.hid (oth_snoc i V k hlt)
      have HX := Lib.hid (HVM.out _ (List.getElem_mem hlt))
      generalize V[k] = x at *
      clear hc
      by_cases hxi : x = i
      · have hb1 : ((x : Int) == (i : Int)) = true := by rw [hxi]; simp
        have hxi2 : (x : Int) = (i : Int) := by omega
        have HE : Hid (othS i (oth i (V.take k)) x = oth i (V.take k)) := by rw [hxi]; exact othS_self ..
        clear hxi
        go_wp2_with (first
          | (go_at_call 23; refine (HV.out _ HQ.out.2 x HX.out).mono ?_; rintro e w' ⟨rfl, rfl⟩)
          | fail)
        go_roundw
        case rel => exact ⟨k + 1, by omega, by go_num, by rw [HSN.out, HE.out]; exact HQ.out⟩
        case measure => simp [intOf]; omega
      · have hb1 : ((x : Int) == (i : Int)) = false := beq_eq_false_iff_ne.2 (by omega)
        have hxi2 : ¬ (x : Int) = (i : Int) := by omega
        have HCT := Lib.hid (contains_any (.slice ta (oth i (V.take k)).length tc) (ci (oth i (V.take k))) (x : Int) wo (by rw [icI_ci, List.length_map]; exact own_src HQ.out.1) (by rw [List.length_map]; omega))
        rw [ci_any] at HCT
        by_cases hm : x ∈ oth i (V.take k)
        · rw [decide_eq_true hm] at HCT
          have HE : Hid (othS i (oth i (V.take k)) x = oth i (V.take k)) := by unfold Hid othS; rw [if_pos (.inr hm)]
          clear hm hxi
          go_wp2_with (first
            | (go_at_call 23; refine (HV.out _ HQ.out.2 x HX.out).mono ?_; rintro e w' ⟨rfl, rfl⟩)
            | (go_at_call 30; refine HCT.out.mono ?_; rintro e w4 ⟨rfl, h4⟩; have U4 := Lib.hid h4; clear h4)
            | fail)
          go_roundw
          case rel => exact ⟨k + 1, by omega, by go_num, by rw [HSN.out, HE.out]; exact own_up HQ.out.1 U4.out, HQ.out.2.trans U4.out⟩
          case measure => simp [intOf]; omega
        · rw [decide_eq_false hm] at HCT
          have HE : Hid (othS i (oth i (V.take k)) x = oth i (V.take k) ++ [x]) := by unfold Hid othS; rw [if_neg (fun e => e.elim hxi hm)]
          clear hm hxi
          go_wp2_with (first
            | (go_at_call 23; refine (HV.out _ HQ.out.2 x HX.out).mono ?_; rintro e w' ⟨rfl, rfl⟩)
            | (go_at_call 30; refine HCT.out.mono ?_; rintro e w4 ⟨rfl, h4⟩; have U4 := Lib.hid h4; clear h4)
            | (at_builtin; refine wpList_append_lies _ rfl (.tmp 38) (.tmp 40) 22 rfl w.heap.size 3 ii (.int .i64 0) 1 8 Try.underlying22 hii hze0 hze1 hze2 rfl (by decide) (.slice ta (oth i (V.take k)).length tc) (oth i (V.take k)).length (icN (oth i (V.take k))) rfl (own_up HQ.out.1 (U4.out.alloc _)) ⟨w4.heap.size, 0, none⟩ 1 1 [nv x] rfl rfl (cell_nv _ _ _ _ rfl) (by intro u hu; rw [List.mem_singleton.1 hu]; rfl) (by decide) (by unfold maxLen; omega) (by omega) (by have := HQ.out.2.size; have := U4.out.size; simp; omega) _ rfl ?_; intro g2 c2 w5 hown2 hgrow2 hat2 hlt2; have N5 : Hid (w5.ownsRow w.heap.size 3 1 (.slice (some ⟨g2, 0, none⟩) ((oth i (V.take k)).length + 1) c2) (oth i (V.take (k + 1))).length (icN (oth i (V.take (k + 1)))) ∧ Up w w5) := ⟨by rw [HSN.out, HE.out, List.length_append]; simpa [icN] using hown2, Below.grown (HQ.out.2.trans (U4.out.alloc _)) hgrow2 (HQ.out.2.trans (U4.out.alloc _)).size fun q hq => ((own_ty HQ.out.1) q hq).2⟩; clear hown2 hgrow2 hat2)
            | fail)
          go_roundw
          case rel => exact ⟨k + 1, by omega, by go_num, N5.out⟩
          case measure => simp [intOf]; omega
    · obtain rfl : k = V.length := by omega
      rw [List.take_length] at HQ hol ⊢
      have HOV := Lib.hid (oth_ok (i := i) HVM.out)
      have HEE : Hid (C.electE i V = if 2 * ((oth i V).length + 1) ≤ C.srv.length then 4 else if C.wins i V = true then (if 60 < C.lead.length then 18 else 0) else 21) := rfl
      have HWW : Hid (C.wins i V = (oth i V).all fun v => !newer (C.s v).log (C.s i).log) := rfl
      have HWON : Hid (C.won i V = (Clu.elts { C with lead := C.lead ++ [i] } C.lead.length (oth i V ++ [i])).put i { (Clu.elts { C with lead := C.lead ++ [i] } C.lead.length (oth i V ++ [i])).s i with mat := List.replicate C.srv.length 0 }) := rfl
      have HEC : Hid (C.electC i V = if C.electE i V = 0 then C.won i V else C) := rfl
      generalize oth i V = O at *
      clear HVV HVM
      obtain ⟨HOWN, HU⟩ : Hid (wo.ownsRow w.heap.size 3 1 (.slice ta O.length tc) O.length (icN O)) ∧ Hid (Up w wo) := HQ.out
      clear HQ
      obtain ⟨sv, lv, nw, ss, ms, hP⟩ := HH.out.up HU.out
      have HP := Lib.hid hP
      have HSL := Lib.hid hP.slen
      have HIS : Hid (i < ss.length) := by unfold Hid; rw [hP.slen]; exact HIC.out
      obtain ⟨g, c, rfl, _, hgl, _⟩ := hP.cells i HIS.out
      obtain ⟨lla, llc, rfl, _, _, _⟩ := own_form hP.lead
      have c0 := (hP.blk.at (i := 0) rfl).2
      have c1 := (hP.blk.at (i := 1) rfl).2
      have hpl := hP.blk.lt
      have hn5 : ss.length ≤ 5 := by rw [hP.slen]; exact HOK.out.n5
      have his : (i : Int) < (ss.length : Int) := by have := HIS.out; omega
      clear hP
      by_cases hq : 2 * (O.length + 1) ≤ C.srv.length
      · have hqi : 2 * ((O.length : Int) + 1) ≤ (ss.length : Int) := by have := HSL.out; omega
        have HE : Hid (C.electE i V = 4 ∧ C.electC i V = C) := by
          have e : C.electE i V = 4 := by rw [HEE.out, if_pos hq]
          exact ⟨e, by rw [HEC.out, if_neg (by rw [e]; decide)]⟩
        clear hq
        go_wp2
        go_ret
        exact ⟨by rw [HE.out.1]; rfl, by rw [HE.out.2]; exact HSELF.out.up HU.out HLT.out⟩
      · have hqi : ¬ 2 * ((O.length : Int) + 1) ≤ (ss.length : Int) := by have := HSL.out; omega
        have HQN := Lib.hid hq
        clear hq
        go_wp2
        go_loopw [55] (fun iv wr => ∃ j : Nat, j ≤ O.length ∧ iv = .int .i64 j ∧ Hid (Up wo wr) ∧ Hid (∀ a (ha : a < O.length), a < j → newer (C.s O[a]).log (C.s i).log = false)) (fun iv _ => O.length - (intOf iv).toNat)
        case atStart => exact ⟨0, by omega, rfl, Up.refl _, fun a ha h => by omega⟩
        case round =>
          obtain ⟨j, hj, rfl, HU2, HNW⟩ := hrel
          obtain ⟨wn, hwn⟩ : ∃ wn : World, wn = wr := ⟨_, rfl⟩
          rw [← hwn] at HU2 ⊢
          clear hwn
          have e0 := (HU2.out.cell (p := ⟨p, 0, none⟩) hpl).trans c0
          have e1 := (HU2.out.cell (p := ⟨p, 1, none⟩) hpl).trans c1
          have epl : p < wn.heap.size := Nat.lt_of_lt_of_le hpl HU2.out.size
          have HPN := Lib.hid (HP.out.up HU2.out)
          clear c0 c1 hpl hgl
          by_cases hlt : j < O.length
          · obtain ⟨bo, fo, rfl, hc⟩ := src_at (own_src HOWN.out) (by omega)
            have d0 := ((hc _ _ (icN_get O j hlt)).grow HU2.out).2
            have hlk : (j : Int) < (O.length : Int) := by omega
            have hxn : O[j] < C.srv.length := HOV.out.2.2.1 _ (List.getElem_mem hlt)
            have HNJ : Hid (∀ b, newer (C.s O[j]).log (C.s i).log = b → b = false → ∀ a (ha : a < O.length), a < j + 1 → newer (C.s O[a]).log (C.s i).log = false) := fun b hb hf a ha h => by
              rcases Nat.lt_or_ge a j with h1 | h1
              · exact HNW.out a ha h1
              · obtain rfl : a = j := by omega
                rw [hb, hf]
            have HWJ : Hid (newer (C.s O[j]).log (C.s i).log = true → C.wins i V = false) := fun hb => by
              rw [HWW.out]
              refine List.all_eq_false.2 ⟨O[j], List.getElem_mem hlt, ?_⟩
              rw [hb]; decide
            generalize O[j] = x at *
            have hxs : (x : Int) < (ss.length : Int) := by have := HSL.out; omega
            obtain ⟨xa, xc, _, _, x2, hx2, xf, xl, _⟩ := HPN.out.at_ x hxn
            obtain ⟨ya, yc, _, _, y2, hy2, _⟩ := HPN.out.at_ i HIC.out
            have hX60 := HOK.out.loglen hxn
            have hY60 := HOK.out.loglen HIC.out
            have HNX : Hid (∀ q, Calls Try.prog 31 #[.slice xa (C.s x).log.length xc, .slice ya (C.s i).log.length yc] (wn.drewN q) fun e w' => e = .returned (.bool (newer (C.s x).log (C.s i).log)) ∧ w' = wn.drewN q) := fun q =>
              (newer_any (own_up hx2 ((Up.refl wn).drewN q)) hX60 (own_up hy2 ((Up.refl wn).drewN q)) hY60).mono fun _ _ ⟨a, b⟩ => ⟨a, b.symm⟩
            generalize (C.s x).log.length = lx at *
            generalize (C.s i).log.length = ly at *
            clear hc hx2 hy2 hX60 hY60 hxn
            cases hnw : newer (C.s x).log (C.s i).log with
            | true =>
              rw [hnw] at HNX
              have HE : Hid (C.electE i V = 21 ∧ C.electC i V = C) := by
                have e : C.electE i V = 21 := by rw [HEE.out, if_neg HQN.out, if_neg (by rw [HWJ.out hnw]; decide)]
                exact ⟨e, by rw [HEC.out, if_neg (by rw [e]; decide)]⟩
              clear hnw
              go_upto_region 17 with fail
              go_quiet ((go_at_call 31; exact Calls.quiet_of_same (HNX.out _)))
              go_wp2
              go_ret
              exact ⟨by rw [HE.out.1]; rfl, by rw [HE.out.2]; exact HSELF.out.up (HU.out.trans (HU2.out.drewN _)) HLT.out⟩
            | false =>
              rw [hnw] at HNX
              have HN2 := Lib.hid (HNJ.out _ hnw rfl)
              clear hnw
              go_upto_region 17 with fail
              go_quiet ((go_at_call 31; exact Calls.quiet_of_same (HNX.out _)))
              go_wp2
              go_roundw
              case rel => exact ⟨j + 1, by omega, by go_num, HU2.out.drewN _, HN2.out⟩
              case measure => simp [intOf]; omega
          · obtain rfl : j = O.length := by omega
            have HW1 : Hid (C.wins i V = true) := by
              unfold Hid
              rw [HWW.out]
              refine List.all_eq_true.2 fun v hv => ?_
              obtain ⟨a, ha, rfl⟩ := List.getElem_of_mem hv
              rw [HNW.out a ha ha]; rfl
            have hll : C.lead.length ≤ 61 := HOK.out.t61
            by_cases h60 : 60 < C.lead.length
            · have h60i : (60 : Int) < (C.lead.length : Int) := by omega
              have HE : Hid (C.electE i V = 18 ∧ C.electC i V = C) := by
                have e : C.electE i V = 18 := by rw [HEE.out, if_neg HQN.out, if_pos HW1.out, if_pos h60]
                exact ⟨e, by rw [HEC.out, if_neg (by rw [e]; decide)]⟩
              clear h60
              go_wp2
              go_ret
              exact ⟨by rw [HE.out.1]; rfl, by rw [HE.out.2]; exact HSELF.out.up (HU.out.trans HU2.out) HLT.out⟩
            · have h60i : ¬ (60 : Int) < (C.lead.length : Int) := by omega
              have HE : Hid (C.electE i V = 0 ∧ C.electC i V = C.won i V) := by
                have e : C.electE i V = 0 := by rw [HEE.out, if_neg HQN.out, if_pos HW1.out, if_neg h60]
                exact ⟨e, by rw [HEC.out, if_pos e]⟩
              clear h60 HEE HEC HNW HW1 HQN
              have OLV := Lib.hid HPN.out.lead
              have HBK := Lib.hid HPN.out.blk
              have UA := Lib.hid ((Up.refl wn).alloc (.cells #[nv i] 3))
              go_upto_region 23 with (first
                | (at_builtin; refine wpList_append_lies _ rfl (.tmp 87) (.tmp 89) 22 rfl 0 3 ii (.int .i64 0) 1 8 Try.underlying22 hii hze0 hze1 hze2 rfl (by decide) (.slice lla C.lead.length llc) C.lead.length (icN C.lead) rfl (own_up OLV.out UA.out) ⟨wn.heap.size, 0, none⟩ 1 1 [nv i] rfl rfl (cell_nv _ _ _ _ rfl) (by intro u hu; rw [List.mem_singleton.1 hu]; rfl) (by decide) (by unfold maxLen; omega) (by omega) (Nat.zero_le _) _ rfl ?_; intro g5 c5 w5 hown5 hgrow5 hat5 hlt5; have HO5 := Lib.hid hown5; have HG5 := Lib.hid hgrow5; have HA5 := Lib.hid hat5; have B5 := fld_far HBK.out (by decide) OLV.out UA.out hgrow5; have b5 := (B5.at (i := 1) rfl).2; have f5 := B5.free 1; have l5 := B5.lt; clear hown5 hgrow5 hat5 B5)
                | fail)
              have K6 : Hid (CluP (w5.setCell ⟨p, 1, none⟩ (.slice (some ⟨g5, 0, none⟩) (C.lead.length + 1) c5)) p { C with lead := C.lead ++ [i] } (Fx F wn (w5.setCell ⟨p, 1, none⟩ (.slice (some ⟨g5, 0, none⟩) (C.lead.length + 1) c5))) (.slice (some ⟨g, 0, none⟩) ss.length c) (.slice (some ⟨g5, 0, none⟩) (C.lead.length + 1) c5) nw ss ms ∧ Chg F wn (w5.setCell ⟨p, 1, none⟩ (.slice (some ⟨g5, 0, none⟩) (C.lead.length + 1) c5)) ∧ Chg (fun j => (Value.slice lla C.lead.length llc).ownBlock = some j ∨ j = p) wn (w5.setCell ⟨p, 1, none⟩ (.slice (some ⟨g5, 0, none⟩) (C.lead.length + 1) c5))) := by
                obtain ⟨q1, q2, q3, q4, q5, q6, q7⟩ := fld_append (i := 1) HBK.out (by decide) OLV.out UA.out HO5.out HG5.out HA5.out UA.out.size
                have key := HPN.out.leadw (l' := C.lead ++ [i]) q4 (fun k _ e => e.elim (fun h => .inr h) fun h => .inl h) q1 (by
                  rw [List.length_append, List.length_singleton, show icN (C.lead ++ [i]) = icN C.lead ++ [nv i] by simp [icN]]
                  exact q2) (fun k hk => by
                  obtain rfl : g5 = k := by simpa [Value.ownBlock] using hk
                  exact q5)
                exact ⟨key.1, key.2, q4⟩
              have HO6 : Hid ((w5.setCell ⟨p, 1, none⟩ (.slice (some ⟨g5, 0, none⟩) (C.lead.length + 1) c5)).ownsRow w.heap.size 3 1 (.slice ta O.length tc) O.length (icN O)) := own_chg (own_up HOWN.out HU2.out) K6.out.2.2 fun k hk e => by
                have hb := ((own_ty HOWN.out) k hk).2
                rcases e with e | e
                · have := HLT.out k (HPN.out.leadF k e); omega
                · have := HLT.out k (by rw [e]; exact HPN.out.fp); omega
              have HOB : Hid (∀ k, (Value.slice ta O.length tc).ownBlock = some k → w.heap.size ≤ k ∧ k < wn.heap.size) := fun k hk => ⟨((own_ty HOWN.out) k hk).2, Nat.lt_of_lt_of_le ((own_ty HOWN.out) k hk).1.lt HU2.out.size⟩
              have HUN := Lib.hid (HU.out.trans HU2.out)
              have e0 := (K6.out.1.blk.at (i := 0) rfl).2
              have e1 := (K6.out.1.blk.at (i := 1) rfl).2
              have epl := K6.out.1.blk.lt
              clear UA HBK OLV HO5 HG5 HA5 b5 f5 l5 hlt5
              generalize w5.setCell ⟨p, 1, none⟩ (.slice (some ⟨g5, 0, none⟩) (C.lead.length + 1) c5) = w6 at *
              have hT1 : ((C.lead.length : Int) + 1) - 1 = (C.lead.length : Int) := by omega
              have hT2 : ((C.lead.length + 1 : Nat) : Int) - 1 = (C.lead.length : Int) := by omega
              go_upto_region 24 with fail
              go_upto_region 25 with (first
                | (at_builtin; refine wpList_append_lies _ rfl (.tmp 99) (.tmp 101) 22 rfl w.heap.size 3 ii (.int .i64 0) 1 8 Try.underlying22 hii hze0 hze1 hze2 rfl (by decide) (.slice ta O.length tc) O.length (icN O) rfl (own_up HO6.out ((Up.refl w6).alloc _)) ⟨w6.heap.size, 0, none⟩ 1 1 [nv i] rfl rfl (cell_nv _ _ _ _ rfl) (by intro u hu; rw [List.mem_singleton.1 hu]; rfl) (by decide) (by unfold maxLen; omega) (by omega) (by have := HUN.out.size; have := K6.out.2.1.size; simp; omega) _ rfl ?_; intro g7 c7 w7 hown7 hgrow7 hat7 hlt7; have HO7 := Lib.hid hown7; have HG7 := Lib.hid hgrow7; clear hown7 hgrow7 hat7)
                | fail)
              obtain ⟨L, hL⟩ : ∃ L, L = O ++ [i] := ⟨_, rfl⟩
              have N7 : Hid (w7.ownsRow w.heap.size 3 1 (.slice (some ⟨g7, 0, none⟩) (O.length + 1) c7) (O.length + 1) (icN L)) := by
                have := HO7.out
                rw [show icN O ++ [nv i] = icN L by rw [hL]; simp [icN]] at this
                exact this
              have HLL : Hid (L.length = O.length + 1) := by unfold Hid; rw [hL, List.length_append, List.length_singleton]
              have HLV : Hid (∀ v ∈ L, v < C.srv.length) := fun v hv => by
                rw [hL] at hv
                rcases List.mem_append.1 hv with e | e
                · exact HOV.out.2.2.1 v e
                · rw [List.mem_singleton.1 e]; exact HIC.out
              have HWL : Hid (C.won i V = (Clu.elts { C with lead := C.lead ++ [i] } C.lead.length L).put i { (Clu.elts { C with lead := C.lead ++ [i] } C.lead.length L).s i with mat := List.replicate C.srv.length 0 }) := by rw [hL]; exact HWON.out
              clear hL
              obtain ⟨C1, hC1⟩ : ∃ C1 : Clu, C1 = { C with lead := C.lead ++ [i] } := ⟨_, rfl⟩
              rw [← hC1] at K6 HWL
              have HC1 : Hid (C1.srv.length = C.srv.length) := by rw [hC1]; exact rfl
              have hc7 : Chg (fun j => (Value.slice ta O.length tc).ownBlock = some j) w6 w7 := (((Up.refl w6).alloc _).chg _).grown HG7.out fun j hj => .inl hj
              have z67 := hc7.size
              have K7 : Hid (CluPost p C1 F w w7 ∧ CluP w7 p C1 (Fx F w w7) (.slice (some ⟨g, 0, none⟩) ss.length c) (.slice (some ⟨g5, 0, none⟩) (C.lead.length + 1) c5) nw ss ms) := by
                have z1 := HUN.out.size
                have z2 := K6.out.2.1.size
                have key := (K6.out.1.chg hc7 fun k hk e => by
                  have hb := HOB.out k e
                  rcases hk with h | h
                  · have := HLT.out k h; omega
                  · omega).mono (F' := Fx F w w7) (fun k hk => by
                  rcases hk with h | h
                  · exact .inl h
                  · exact .inr ⟨by omega, by omega⟩) (fx_lt HLT.out (by omega))
                exact ⟨⟨⟨_, _, _, _, _, key⟩, (((Below.chg F HUN.out).trans K6.out.2.1 fun _ _ e => e).trans hc7 fun k hk e => by
                  have := (HOB.out k e).1; omega)⟩, key⟩
              have HS7 : Hid (St w7 w7 p C1 (Fx F w w7) g c ss.length (.slice (some ⟨g5, 0, none⟩) (C.lead.length + 1) c5) nw ms) := by
                have hl := K7.out.2.lt
                exact ⟨ss, K7.out.2.mono (fun k hk => .inl hk) (fx_lt hl (Nat.le_refl _)), Chg.refl _ _, Chg.refl _ _⟩
              have HL7 := Lib.hid K7.out.2.lt
              have HG57 : Hid (g7 ≠ g) := fun e => by
                subst e
                exact ((own_ty N7.out) _ rfl).1.ne (E' := 53) (by decide) ((own_ty K7.out.2.srv) _ rfl).1
              clear hC1 hc7 z67 HO7 HG7 HO6 HOB HOWN HPN HP e0 e1 epl hlt7
              go_loopw [104] (fun iv wr => ∃ j : Nat, j ≤ O.length + 1 ∧ iv = .int .i64 j ∧ Hid (St w7 wr p (C1.elts C.lead.length (L.take j)) (Fx F w w7) g c ss.length (.slice (some ⟨g5, 0, none⟩) (C.lead.length + 1) c5) nw ms)) (fun iv _ => O.length + 1 - (intOf iv).toNat)
              case atStart => exact ⟨0, by omega, rfl, HS7.out⟩
              case round =>
                obtain ⟨j, hj, rfl, HST⟩ := hrel
                obtain ⟨wl, hwl⟩ : ∃ wl : World, wl = wr := ⟨_, rfl⟩
                rw [← hwl] at HST ⊢
                clear hwl
                obtain ⟨s2, hs2, _, hg2⟩ := HST.out
                have e0 := (hs2.blk.at (i := 0) rfl).2
                have epl := hs2.blk.lt
                have HS2L : Hid ((C1.elts C.lead.length (L.take j)).srv.length = C.srv.length) := ((elts_n _ _ _).1).trans HC1.out
                by_cases hlt : j < O.length + 1
                · have hlt2 : j < L.length := by rw [HLL.out]; exact hlt
                  have d0 := (hg2.cell (o := j) ((own_ty N7.out) _ rfl).1.lt HG57.out).trans (own_cell N7.out (icN_get L j hlt2))
                  have dl : g7 < wl.heap.size := Nat.lt_of_lt_of_le ((own_ty N7.out) _ rfl).1.lt hg2.size
                  have hlk : (j : Int) < (O.length + 1 : Int) := by omega
                  have hlk2 : (j : Int) < ((O.length + 1 : Nat) : Int) := by omega
                  have HXN := Lib.hid (HLV.out _ (List.getElem_mem hlt2))
                  have HSN := Lib.hid (elts_snoc C1 C.lead.length L j hlt2)
                  generalize L[j] = x at *
                  have hxs : (x : Int) < (ss.length : Int) := by have := HSL.out; have := HXN.out; omega
                  obtain ⟨u0, _, xc, _, xff, hgl⟩ := hs2.cellx x (by rw [HS2L.out]; exact HXN.out)
                  have xf := xff (x * 4)
                  clear xff hs2 hg2 hlt2
                  go_wp2
                  go_roundw
                  case rel => exact ⟨j + 1, by omega, by go_num, by rw [HSN.out]; exact HST.out.setT (Up.refl wl) x (by rw [HS2L.out]; exact HXN.out) _ HL7.out⟩
                  case measure => simp [intOf]; omega
                · obtain rfl : j = O.length + 1 := by omega
                  rw [List.take_of_length_le (Nat.le_of_eq HLL.out)] at HST HS2L
                  obtain ⟨_, u3, _, xc, xff, hgl⟩ := hs2.cellx i (by rw [(elts_n _ _ _).1, HC1.out]; exact HIC.out)
                  have xf := xff (i * 4 + 3)
                  have hmk := mkI ss.length (by omega)
                  clear xff hs2 hg2
                  go_upto_region 29 with fail
                  go_region_law (fail)
                  all_goals
                    go_wp2
                    go_ret
                    refine ⟨by rw [HE.out.1]; rfl, ?_⟩
                    have key := HST.out.setM i (by rw [HS2L.out]; exact HIC.out) (List.replicate ss.length 0) (by rw [List.length_replicate]; omega) HL7.out
                    rw [List.length_replicate] at key
                    rw [HE.out.2, HWL.out, ← HSL.out]
                    exact CluPost.trans K7.out.1 key HLT.out
end
end Go.Proofs.Ythhkekmeginooaa.Rp
