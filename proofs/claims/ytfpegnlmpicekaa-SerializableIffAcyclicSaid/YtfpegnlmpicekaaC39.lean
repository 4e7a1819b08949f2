/- SerializableIffAcyclic: an order goes up along every edge, so no cycle is; a pair looked for in a slice of pairs. -/
import Derived.Test.YtfpegnlmpicekaaC38
namespace Go.Proofs.Ytfpegnlmpicekaa.C
open Go Go.RowKit Hp
set_option linter.unusedVariables false

theorem cfN_edge {l : List Hop} (hv : ∀ x ∈ l, x.tx < 20) {i j : Nat} (hj : j < 20) (h : cfN l l.length (i * 20 + j) = true) : ∃ a b, a ∈ l ∧ b ∈ l ∧ a.tx = i ∧ b.tx = j ∧ a.tx ≠ b.tx := by
  obtain ⟨p, q, hpq, hq, hh⟩ := (cfN_iff _ _ _).1 h
  rw [hgetD l (by omega), hgetD l hq] at hh
  unfold hitc at hh
  simp only [Bool.and_eq_true, decide_eq_true_eq] at hh
  have ha := List.getElem_mem (l := l) (show p < l.length by omega)
  have hb := List.getElem_mem (l := l) hq
  have := hv _ hb
  exact ⟨_, _, ha, hb, by omega, by omega, conf_tx hh.1⟩
theorem no_self {l : List Hop} (hv : ∀ x ∈ l, x.tx < 20) : ∀ s, s < 20 → cfN l l.length (s * 20 + s) = false := fun s hs => by
  rw [← Bool.not_eq_true]
  intro h
  obtain ⟨a, b, _, _, e1, e2, e3⟩ := cfN_edge hv hs h
  omega
theorem order_idx {l : List Hop} (hv : ∀ x ∈ l, x.tx < 20) {res : List Int} (h : orderOf l = some res) : ∀ u v, (u, v) ∈ cgr (cfN l l.length) 20 → idx (u == ·) res < idx (v == ·) res := fun u v huv => by
  unfold orderOf at h
  rw [topo_free _ _ _ _ (tids_range l)] at h
  obtain ⟨i, j, rfl, rfl, hi, hj, hm⟩ := mem_cgr.1 huv
  obtain ⟨a, b, ha, hb, e1, e2, e3⟩ := cfN_edge hv hj hm
  subst e1
  subst e2
  exact before_idx (topo_before _ _ _ _ _ rfl h _ _ huv (mem_tids ha hi) (mem_tids hb hj) (by omega) (by simp))
theorem no_cycle {M : Nat → Bool} {c : List Nat} (g : Int → Int) (hg : ∀ u v, (u, v) ∈ cgr M 20 → g u < g v) (hc : IsCycle M c) : False := by
  have hl := hc.len
  obtain ⟨t, ht, hmin⟩ := exists_min (fun x => - g x) (c.map fun (n : Nat) => (n : Int)) (by intro e; rw [List.map_eq_nil_iff] at e; rw [e] at hl; simp at hl)
  obtain ⟨n, hn, rfl⟩ := List.mem_map.1 ht
  obtain ⟨i, hi, rfl⟩ := List.mem_iff_getElem.1 hn
  have hq : (i + 1) % c.length < c.length := Nat.mod_lt _ (by omega)
  have he := hc.edge i hi
  rw [show c.getD i 0 = c[i] by simp [List.getD, hi], show c.getD ((i + 1) % c.length) 0 = c[(i + 1) % c.length] by simp [List.getD, hq]] at he
  have h1 := hg _ _ (mem_cgr.2 ⟨c[i], c[(i + 1) % c.length], rfl, rfl, hc.lt _ hn, hc.lt _ (List.getElem_mem hq), he⟩)
  have h2 := hmin _ (List.mem_map.2 ⟨_, List.getElem_mem hq, rfl⟩)
  omega

theorem indexP_any (v : Value) (l : List (Int × Int)) (p : Int × Int) (w : World) (h : Arr PairR 2 w v l) :
    Calls Try.prog 54 #[v, .agg #[.int .i64 p.1, .int .i64 p.2]] w fun e w' => e = .returned (.int .i64 (idx (p == ·) l)) ∧ Up w w' := by
  obtain ⟨a, cap, rfl, h1, h2, _, h3⟩ := h
  have H3 := Lib.hid h3
  clear h3
  obtain ⟨p1, p2⟩ := p
  dsimp only
  go_enter Try.func54, Try.ntmps54
  go_wp2
  have c1 := (Blk.new w #[.int .i64 p1, .int .i64 p2] 48).at (i := 0) rfl
  have c2 := (Blk.new w #[.int .i64 p1, .int .i64 p2] 48).at (i := 1) rfl
  go_loopw [8] (fun iv wr => ∃ k : Nat, k ≤ l.length ∧ iv = .int .i64 k ∧ (∀ j (h : j < l.length), j < k → ((p1, p2) == l[j]) = false) ∧ Up (w.alloc (.cells #[.int .i64 p1, .int .i64 p2] 48)) wr) (fun iv _ => l.length - (intOf iv).toNat)
  case atStart => exact ⟨0, by omega, rfl, fun j _ hj => by omega, Up.refl _⟩
  case round =>
    obtain ⟨k, hk, rfl, hb, hu⟩ := hrel
    have HB := Lib.hid hb
    have hu0 := Up.trans ((Up.refl w).alloc _) hu
    have d1 := c1.grow hu
    have d2 := c2.grow hu
    clear hb
    by_cases hlt : k < l.length
    · obtain ⟨b, off, rfl, hr⟩ := H3.out k hlt
      have hd := pairR_grows _ _ _ _ _ hr hu0
      obtain ⟨x, hx⟩ : ∃ x, x = l[k] := ⟨_, rfl⟩
      rw [← hx] at hd
      have HX := Lib.hid hx
      clear hx hr
      obtain ⟨x1, x2⟩ := x
      obtain ⟨_, ⟨_, c3⟩, ⟨_, c4⟩⟩ := hd
      have q1 := d1.2
      have q2 := d2.2
      clear d1 d2
      dsimp only at c3 c4
      have hpn := pair_neq
      have hgd := guard48
      obtain ⟨z, hz⟩ : ∃ z, z = (p1 == x1 && p2 == x2) := ⟨_, rfl⟩
      have Z : Hid (((p1, p2) == l[k]) = z) := by unfold Hid; rw [← HX.out, hz]; rfl
      have hz' := hz.symm
      clear hz
      cases z with
      | true =>
        have E := Lib.hid (idx_hit (p := ((p1, p2) == ·)) hlt Z.out HB.out)
        go_wp2
        go_quiet (fail)
        go_wp2
        go_ret
        exact ⟨ret_int E.out.symm, hu0.drewN _⟩
      | false =>
        go_wp2
        go_quiet (fail)
        go_wp2
        go_roundw
        case rel => exact ⟨k + 1, by omega, by go_num, fun j hj hjk => by
          by_cases e : j = k
          · subst e; exact Z.out
          · exact HB.out j hj (by omega), hu.drewN _⟩
        case measure => simp [intOf]; omega
    · have E := Lib.hid (idx_miss (p := ((p1, p2) == ·)) (l := l) fun j hj => HB.out j hj (by omega))
      go_wp2
      go_ret
      exact ⟨ret_int E.out.symm, hu0⟩
theorem containsP_any (v : Value) (l : List (Int × Int)) (p : Int × Int) (w : World) (h : Arr PairR 2 w v l) :
    Calls Try.prog 34 #[v, .agg #[.int .i64 p.1, .int .i64 p.2]] w fun e w' => e = .returned (.bool (l.any (p == ·))) ∧ Up w w' := by
  have H := Lib.hid (h.grow pairR_grows ((Up.refl w).alloc (.cells #[.int .i64 p.1, .int .i64 p.2] 48)))
  clear h
  have E := Lib.hid (idx_any (p == ·) l)
  go_enter Try.func34, Try.ntmps34
  go_wp2_with (go_at_call 54; refine (indexP_any _ _ p _ H.out).mono ?_; rintro e w' ⟨rfl, hu⟩)
  go_ret
  exact ⟨ret_bool E.out, ((Up.refl w).alloc _).trans (by assumption)⟩
end Go.Proofs.Ytfpegnlmpicekaa.C
