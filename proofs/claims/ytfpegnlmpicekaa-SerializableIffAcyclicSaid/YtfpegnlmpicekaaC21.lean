/- The transactions of a history; the searches of SerialOrder. -/
import Derived.Test.YtfpegnlmpicekaaC20
namespace Go.Proofs.Ytfpegnlmpicekaa.C
open Go Go.RowKit Hp
set_option linter.unusedVariables false

/-- A transaction's number in a row of numbers. -/
def TiR (w : World) (b o : Nat) (n : Int) : Prop := IntR w b o n ∧ 0 ≤ n ∧ n < 20
theorem tiR_grows : Grows TiR := fun _ _ _ _ _ h hu => ⟨At.grow h.1 hu, h.2⟩
abbrev Tis := Arr TiR 1
theorem tis_own {w : World} {base : Nat} {v : Value} {l : List Int} (h : w.ownsRow base 3 1 v l.length (ic l)) (hl : ∀ t ∈ l, 0 ≤ t ∧ t < 20) : Tis w v l :=
  own_arr h fun g hg hc i hi => by rw [Nat.mul_one]; exact ⟨hc i _ (by simp [hi]), hl _ (List.getElem_mem hi)⟩
theorem Tis.ints {w : World} {v : Value} {l : List Int} (h : Tis w v l) : Ints w v l := by
  obtain ⟨a, cap, hv, h1, h2, h2', h3⟩ := h
  exact ⟨a, cap, hv, h1, h2, h2', fun i hi => by obtain ⟨b, off, ha, hr⟩ := h3 i hi; exact ⟨b, off, ha, hr.1⟩⟩

def has (t : Int) (x : Hop) : Bool := (x.tx : Int) == t
theorem c59_any (x : Hop) (t : Int) (bt : Nat) (w : World) (ht : At w bt 0 (.int .i64 t)) :
    Calls Try.prog 59 #[hv x, .pointer (some ⟨bt, 0, none⟩)] w fun e w' => e = .returned (.bool (has t x)) ∧ Up w w' := by
  obtain ⟨hbt, ct⟩ := ht
  obtain ⟨tx, kind, key⟩ := x
  unfold hv has
  dsimp only
  go_enter Try.func59, Try.ntmps59
  go_wp2
  go_ret
  exact ⟨rfl, (Up.refl _).alloc _⟩

theorem if64_any (t : Int) (bt : Nat) (l : List Hop) (v : Value) (w : World) (h : Arr HopR 3 w v l) (hbt : At w bt 0 (.int .i64 t)) :
    Calls Try.prog 64 #[v, .func (.func 59) #[] #[.pointer (some ⟨bt, 0, none⟩)]] w fun e w' => e = .returned (.int .i64 (idx (fun x => has t x) l)) ∧ Up w w' := by
  obtain ⟨a, cap, rfl, h1, h2, _, h3⟩ := h
  have H3 := Lib.hid h3
  clear h3
  go_enter Try.func64, Try.ntmps64
  go_wp2
  go_loopw [8] (fun iv wr => ∃ k : Nat, k ≤ l.length ∧ iv = .int .i64 k ∧ (∀ j (h : j < l.length), j < k → (fun x => has t x) l[j] = false) ∧ Up w wr) (fun iv _ => l.length - (intOf iv).toNat)
  case atStart => exact ⟨0, by omega, rfl, fun j _ hj => by omega, Up.refl _⟩
  case round =>
    obtain ⟨k, hk, rfl, hbb, hu⟩ := hrel
    have HB := Lib.hid hbb
    clear hbb
    by_cases hlt : k < l.length
    · obtain ⟨b, off, rfl, hr⟩ := H3.out k hlt
      have HX : Hid (∀ x, x = l[k] → (∀ y, (fun x => has t x) x = y → (fun x => has t x) l[k] = y)) := fun x hx y hy => by rw [← hx]; exact hy
      obtain ⟨x, hx⟩ : ∃ x, x = l[k] := ⟨_, rfl⟩
      rw [← hx] at hr
      have HY := Lib.hid (HX.out x hx)
      clear hx HX
      obtain ⟨y, hy⟩ : ∃ y, y = has t x := ⟨_, rfl⟩
      have Y := Lib.hid hy.symm
      clear hy
      have hbt := hbt.grow hu
      obtain ⟨_, ⟨hbb, c0⟩, ⟨_, c1⟩, _, c2⟩ := hopR_grows _ _ _ _ _ hr hu
      obtain ⟨x1, x2, x3⟩ := x
      dsimp only at c0 c1 c2
      cases y with
      | true =>
        have E := Lib.hid (idx_hit (p := fun x => has t x) hlt (HY.out _ Y.out) HB.out)
        go_wp2_with (go_at_call 59; refine (c59_any ⟨x1, x2, x3⟩ t bt _ hbt).mono ?_; rintro e w2 ⟨rfl, hu2⟩; rw [Y.out])
        go_ret
        exact ⟨ret_int E.out.symm, Up.trans hu (by assumption)⟩
      | false =>
        go_wp2_with (go_at_call 59; refine (c59_any ⟨x1, x2, x3⟩ t bt _ hbt).mono ?_; rintro e w2 ⟨rfl, hu2⟩; rw [Y.out])
        go_roundw
        case rel => exact ⟨k + 1, by omega, by go_num, fun j hj hjk => by
          by_cases e : j = k
          · subst e; exact HY.out _ Y.out
          · exact HB.out j hj (by omega), Up.trans hu (by assumption)⟩
        case measure => simp [intOf]; omega
    · have E := Lib.hid (idx_miss (p := fun x => has t x) (l := l) fun j hj => HB.out j hj (by omega))
      go_wp2
      go_ret
      exact ⟨ret_int E.out.symm, hu⟩

theorem cf58_any (t : Int) (bt : Nat) (l : List Hop) (v : Value) (w : World) (h : Arr HopR 3 w v l) (hbt : At w bt 0 (.int .i64 t)) :
    Calls Try.prog 58 #[v, .func (.func 59) #[] #[.pointer (some ⟨bt, 0, none⟩)]] w fun e w' => e = .returned (.bool (l.any fun x => has t x)) ∧ Up w w' := by
  have E := Lib.hid (idx_any (fun x => has t x) l)
  go_enter Try.func58, Try.ntmps58
  go_wp2_with (go_at_call 64; refine (if64_any t bt l v _ h hbt).mono ?_; rintro e w1 ⟨rfl, hu1⟩)
  go_ret
  exact ⟨ret_bool E.out, by assumption⟩

def tids (l : List Hop) (m : Nat) : List Int := ((List.range m).filter fun (t : Nat) => l.any (has (t : Int))).map fun (t : Nat) => (t : Int)
theorem tids_succ (l : List Hop) (m : Nat) : tids l (m + 1) = tids l m ++ if l.any (has (m : Int)) then [(m : Int)] else [] := by
  unfold tids; rw [List.range_succ, List.filter_append, List.map_append]
  by_cases h : l.any (has (m : Int)) = true <;> simp [h]
theorem tids_len (l : List Hop) (m : Nat) : (tids l m).length ≤ m := by
  unfold tids; rw [List.length_map]; exact Nat.le_trans (List.length_filter_le _ _) (by simp)
theorem tids_range (l : List Hop) : ∀ t ∈ tids l 20, 0 ≤ t ∧ t < 20 := fun t ht => by
  unfold tids at ht
  obtain ⟨n, hn, rfl⟩ := List.mem_map.1 ht
  have := List.mem_range.1 (List.mem_filter.1 hn).1
  omega

set_option maxRecDepth 100000 in
set_option maxHeartbeats 4000000 in
theorem trans_any (vt : Value) (l : List Hop) (w : World) (ht : Hops w vt l) :
    Calls Try.prog 42 #[vt] w fun e w' => ∃ v, e = .returned v ∧ w'.ownsRow w.heap.size 3 1 v (tids l 20).length (ic (tids l 20)) ∧ Up w w' := by
  obtain ⟨i0, hi, hz0, hz1, hz2⟩ := info_parts Try.info3
  have HT := Lib.hid ht
  obtain ⟨a, cap, rfl, h1, h2, _, h3⟩ := ht
  clear h3
  go_enter Try.func42, Try.ntmps42
  go_wp2
  go_loopw [3, 5] (fun v kv wr => ∃ k : Nat, k ≤ 20 ∧ kv = .int .i64 k ∧ wr.ownsRow w.heap.size 3 1 v (tids l k).length (ic (tids l k)) ∧ Up w wr) (fun _ kv _ => 20 - (intOf kv).toNat)
  case atStart => exact ⟨0, by omega, rfl, World.ownsRow_nil _ _ _ _, Up.refl _⟩
  case round =>
    obtain ⟨k, hk, rfl, hown, hu⟩ := hrel
    by_cases hlt : k < 20
    · have TS := Lib.hid (tids_succ l k)
      have hil := tids_len l k
      obtain ⟨x, hx⟩ : ∃ x, x = l.any (has (k : Int)) := ⟨_, rfl⟩
      have X := Lib.hid hx
      clear hx
      have HT' : Hid (Hops (wr.alloc (.cells #[.int .i64 (k : Int)] 3)) (.slice a l.length cap) l) := HT.out.grow hopR_grows (hu.alloc _)
      have HB : Hid (At (wr.alloc (.cells #[.int .i64 (k : Int)] 3)) wr.heap.size 0 (.int .i64 k)) := At.new _ _ _ _ _ rfl
      cases x with
      | false =>
        go_wp2_with (go_at_call 58; refine (cf58_any k wr.heap.size l _ _ HT'.out HB.out).mono ?_; rintro e w1 ⟨he, hu1⟩; rw [← X.out] at he; obtain rfl := he)
        have hu2 := Up.trans ((Up.refl wr).alloc (.cells #[.int .i64 (k : Int)] 3)) hu1
        go_roundw
        case rel => exact ⟨k + 1, by omega, by go_num, by rw [TS.out, ← X.out]; simpa using own_up hown hu2, hu.trans hu2⟩
        case measure => simp [intOf]; omega
      | true =>
        go_wp2_with fail
        refine (cf58_any k wr.heap.size l _ _ HT'.out HB.out).mono ?_
        rintro e w1 ⟨he, hu1⟩
        rw [← X.out] at he
        obtain rfl := he
        have hu2 := Up.trans ((Up.refl wr).alloc (.cells #[.int .i64 (k : Int)] 3)) hu1
        have hown2 := own_up hown hu2
        have ⟨g0, g1⟩ := HB.out.grow hu1
        have hu3 := hu.trans hu2
        clear hown
        go_wp2_with (at_builtin; refine wpList_append_own _ rfl _ _ 22 rfl w.heap.size 3 i0 (.int .i64 0) 1 8 Try.underlying22 hi hz0 hz1 hz2 rfl (by decide) _ _ _ rfl (hown2.alloc _) ⟨w1.heap.size, 0, none⟩ 1 1 [.int .i64 (k : Int)] rfl rfl ?c1 ?c2 ?c3 ?c4 ?c5 ?_)
        first | (case c1 => exact cell_one_new2 _ _ _) | skip
        case c2 => first | rfl | (intro u hu; simp at hu; subst hu; rfl)
        case c3 => unfold maxLen; omega
        case c4 => omega
        case c5 => have := hu3.size; simp; omega
        intro v' w2 hown' hgrow _
        have hu4 : Up w w2 := Below.grown (hu3.alloc _) hgrow (by have := hu3.size; simp; omega) (fun j hj => (own_ty (hown2.alloc (.cells #[.int .i64 (k : Int)] 3)) j hj).2)
        clear hgrow hown2
        go_wp2
        go_roundw
        case rel => exact ⟨k + 1, by omega, by go_num, by rw [TS.out, ← X.out]; simpa using hown', hu4⟩
        case measure => simp [intOf]; omega
    · obtain rfl : k = 20 := by omega
      go_wp2
      go_ret
      exact ⟨_, rfl, hown, hu⟩

/-! ### SerialOrder's searches -/
def mt (M : Nat → Bool) (t s : Int) : Bool := M (s.toNat * 20 + t.toNat)
theorem c46_any (s t : Int) (bm bt : Nat) (M : Nat → Bool) (w : World) (hs : 0 ≤ s ∧ s < 20) (ht : 0 ≤ t ∧ t < 20) (hm : Blk w bm (mcells M) 72) (hbt : At w bt 0 (.int .i64 t)) :
    Calls Try.prog 46 #[.int .i64 s, .pointer (some ⟨bm, 0, none⟩), .pointer (some ⟨bt, 0, none⟩)] w fun e w' => e = .returned (.bool (mt M t s)) ∧ Up w w' := by
  obtain ⟨hs0, hs1⟩ := hs
  obtain ⟨ht0, ht1⟩ := ht
  have hc := hm.at (mcells_at M (c := s.toNat * 20 + t.toNat) (by omega))
  obtain ⟨s', rfl⟩ := Int.eq_ofNat_of_zero_le hs0
  obtain ⟨t', rfl⟩ := Int.eq_ofNat_of_zero_le ht0
  obtain ⟨hb, hc⟩ := hc
  obtain ⟨hbt, ct⟩ := hbt
  simp only [Int.toNat_natCast] at hc
  have E : Hid (mt M (t' : Int) (s' : Int) = M (s' * 20 + t')) := by simp [Hid, mt]
  clear hm
  go_enter Try.func46, Try.ntmps46
  go_wp2
  go_quiet (fail)
  go_wp2
  go_ret
  exact ⟨ret_bool E.out.symm, ((Up.refl _).drewN _)⟩

theorem if46_any (t : Int) (ht : 0 ≤ t ∧ t < 20) (bm bt : Nat) (M : Nat → Bool) (l : List Int) (v : Value) (w : World) (h : Arr TiR 1 w v l) (hm : Blk w bm (mcells M) 72) (hbt : At w bt 0 (.int .i64 t)) :
    Calls Try.prog 43 #[v, .func (.func 46) #[] #[.pointer (some ⟨bm, 0, none⟩), .pointer (some ⟨bt, 0, none⟩)]] w fun e w' => e = .returned (.int .i64 (idx (fun x => mt M t x) l)) ∧ Up w w' := by
  obtain ⟨a, cap, rfl, h1, h2, _, h3⟩ := h
  have H3 := Lib.hid h3
  clear h3
  go_enter Try.func43, Try.ntmps43
  go_wp2
  go_loopw [8] (fun iv wr => ∃ k : Nat, k ≤ l.length ∧ iv = .int .i64 k ∧ (∀ j (h : j < l.length), j < k → (fun x => mt M t x) l[j] = false) ∧ Up w wr) (fun iv _ => l.length - (intOf iv).toNat)
  case atStart => exact ⟨0, by omega, rfl, fun j _ hj => by omega, Up.refl _⟩
  case round =>
    obtain ⟨k, hk, rfl, hbb, hu⟩ := hrel
    have HB := Lib.hid hbb
    clear hbb
    by_cases hlt : k < l.length
    · obtain ⟨b, off, rfl, hr⟩ := H3.out k hlt
      have HX : Hid (∀ x, x = l[k] → (∀ y, (fun x => mt M t x) x = y → (fun x => mt M t x) l[k] = y)) := fun x hx y hy => by rw [← hx]; exact hy
      obtain ⟨x, hx⟩ : ∃ x, x = l[k] := ⟨_, rfl⟩
      rw [← hx] at hr
      have HY := Lib.hid (HX.out x hx)
      clear hx HX
      obtain ⟨y, hy⟩ : ∃ y, y = mt M t x := ⟨_, rfl⟩
      have Y := Lib.hid hy.symm
      clear hy
      have hm := hm.up hu
      have hbt := hbt.grow hu
      obtain ⟨⟨hbb, c0⟩, hx0⟩ := tiR_grows _ _ _ _ _ hr hu
      rw [Nat.mul_one] at c0
      cases y with
      | true =>
        have E := Lib.hid (idx_hit (p := fun x => mt M t x) hlt (HY.out _ Y.out) HB.out)
        go_wp2_with (go_at_call 46; refine (c46_any x t bm bt M _ hx0 ht hm hbt).mono ?_; rintro e w2 ⟨rfl, hu2⟩; rw [Y.out])
        go_ret
        exact ⟨ret_int E.out.symm, Up.trans hu (by assumption)⟩
      | false =>
        go_wp2_with (go_at_call 46; refine (c46_any x t bm bt M _ hx0 ht hm hbt).mono ?_; rintro e w2 ⟨rfl, hu2⟩; rw [Y.out])
        go_roundw
        case rel => exact ⟨k + 1, by omega, by go_num, fun j hj hjk => by
          by_cases e : j = k
          · subst e; exact HY.out _ Y.out
          · exact HB.out j hj (by omega), Up.trans hu (by assumption)⟩
        case measure => simp [intOf]; omega
    · have E := Lib.hid (idx_miss (p := fun x => mt M t x) (l := l) fun j hj => HB.out j hj (by omega))
      go_wp2
      go_ret
      exact ⟨ret_int E.out.symm, hu⟩

theorem cf46_any (t : Int) (ht : 0 ≤ t ∧ t < 20) (bm bt : Nat) (M : Nat → Bool) (l : List Int) (v : Value) (w : World) (h : Arr TiR 1 w v l) (hm : Blk w bm (mcells M) 72) (hbt : At w bt 0 (.int .i64 t)) :
    Calls Try.prog 45 #[v, .func (.func 46) #[] #[.pointer (some ⟨bm, 0, none⟩), .pointer (some ⟨bt, 0, none⟩)]] w fun e w' => e = .returned (.bool (l.any fun x => mt M t x)) ∧ Up w w' := by
  have E := Lib.hid (idx_any (fun x => mt M t x) l)
  go_enter Try.func45, Try.ntmps45
  go_wp2_with (go_at_call 43; refine (if46_any t ht bm bt M l v _ h hm hbt).mono ?_; rintro e w1 ⟨rfl, hu1⟩)
  go_ret
  exact ⟨ret_bool E.out, by assumption⟩

def fm (M : Nat → Bool) (rem : List Int) (t : Int) : Bool := !(rem.any fun s => mt M t s)
theorem c44_any (t : Int) (ht : 0 ≤ t ∧ t < 20) (br bm : Nat) (vr : Value) (rem : List Int) (M : Nat → Bool) (w : World) (hr : At w br 0 vr) (hvr : Tis w vr rem) (hm : Blk w bm (mcells M) 72) :
    Calls Try.prog 44 #[.int .i64 t, .pointer (some ⟨br, 0, none⟩), .pointer (some ⟨bm, 0, none⟩)] w fun e w' => e = .returned (.bool (fm M rem t)) ∧ Up w w' := by
  have U := (Up.refl w).alloc (.cells #[.int .i64 t] 3)
  have HV := Lib.hid (hvr.grow tiR_grows U)
  have HM := Lib.hid (hm.up U)
  have HT := Lib.hid ht
  obtain ⟨a, cap, rfl, _, _⟩ := hvr
  obtain ⟨hbr, cr⟩ := hr
  clear hm ht
  go_enter Try.func44, Try.ntmps44
  go_wp2_with (go_at_call 45; refine (cf46_any t HT.out bm w.heap.size M rem _ _ HV.out HM.out (At.new _ _ _ _ _ rfl)).mono ?_; rintro e w1 ⟨rfl, hu1⟩)
  go_ret
  exact ⟨rfl, Up.trans U (by assumption)⟩

theorem if44_any (br bm : Nat) (vr : Value) (rem : List Int) (M : Nat → Bool) (l : List Int) (v : Value) (w : World) (h : Arr TiR 1 w v l) (hbr : At w br 0 vr) (hvr : Tis w vr rem) (hm : Blk w bm (mcells M) 72) :
    Calls Try.prog 43 #[v, .func (.func 44) #[] #[.pointer (some ⟨br, 0, none⟩), .pointer (some ⟨bm, 0, none⟩)]] w fun e w' => e = .returned (.int .i64 (idx (fun x => fm M rem x) l)) ∧ Up w w' := by
  obtain ⟨a, cap, rfl, h1, h2, _, h3⟩ := h
  have H3 := Lib.hid h3
  clear h3
  go_enter Try.func43, Try.ntmps43
  go_wp2
  go_loopw [8] (fun iv wr => ∃ k : Nat, k ≤ l.length ∧ iv = .int .i64 k ∧ (∀ j (h : j < l.length), j < k → (fun x => fm M rem x) l[j] = false) ∧ Up w wr) (fun iv _ => l.length - (intOf iv).toNat)
  case atStart => exact ⟨0, by omega, rfl, fun j _ hj => by omega, Up.refl _⟩
  case round =>
    obtain ⟨k, hk, rfl, hbb, hu⟩ := hrel
    have HB := Lib.hid hbb
    clear hbb
    by_cases hlt : k < l.length
    · obtain ⟨b, off, rfl, hr⟩ := H3.out k hlt
      have HX : Hid (∀ x, x = l[k] → (∀ y, (fun x => fm M rem x) x = y → (fun x => fm M rem x) l[k] = y)) := fun x hx y hy => by rw [← hx]; exact hy
      obtain ⟨x, hx⟩ : ∃ x, x = l[k] := ⟨_, rfl⟩
      rw [← hx] at hr
      have HY := Lib.hid (HX.out x hx)
      clear hx HX
      obtain ⟨y, hy⟩ : ∃ y, y = fm M rem x := ⟨_, rfl⟩
      have Y := Lib.hid hy.symm
      clear hy
      have hbr := hbr.grow hu
      have hvr := hvr.grow tiR_grows hu
      have hm := hm.up hu
      obtain ⟨⟨hbb, c0⟩, hx0⟩ := tiR_grows _ _ _ _ _ hr hu
      rw [Nat.mul_one] at c0
      cases y with
      | true =>
        have E := Lib.hid (idx_hit (p := fun x => fm M rem x) hlt (HY.out _ Y.out) HB.out)
        go_wp2_with (go_at_call 44; refine (c44_any x hx0 br bm vr rem M _ hbr hvr hm).mono ?_; rintro e w2 ⟨rfl, hu2⟩; rw [Y.out])
        go_ret
        exact ⟨ret_int E.out.symm, Up.trans hu (by assumption)⟩
      | false =>
        go_wp2_with (go_at_call 44; refine (c44_any x hx0 br bm vr rem M _ hbr hvr hm).mono ?_; rintro e w2 ⟨rfl, hu2⟩; rw [Y.out])
        go_roundw
        case rel => exact ⟨k + 1, by omega, by go_num, fun j hj hjk => by
          by_cases e : j = k
          · subst e; exact HY.out _ Y.out
          · exact HB.out j hj (by omega), Up.trans hu (by assumption)⟩
        case measure => simp [intOf]; omega
    · have E := Lib.hid (idx_miss (p := fun x => fm M rem x) (l := l) fun j hj => HB.out j hj (by omega))
      go_wp2
      go_ret
      exact ⟨ret_int E.out.symm, hu⟩
end Go.Proofs.Ytfpegnlmpicekaa.C
