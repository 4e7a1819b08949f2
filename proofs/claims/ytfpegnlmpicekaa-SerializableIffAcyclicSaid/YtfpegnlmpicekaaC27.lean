/- SerialHistoriesAreSerializable: the walk. -/
import Derived.Test.YtfpegnlmpicekaaC26
namespace Go.Proofs.Ytfpegnlmpicekaa.C
open Go Go.RowKit Hp
set_option linter.unusedVariables false

def ext5 (z : List Int) (m : Nat) : List Int := (List.range m).map (fun i => z.getD i 0) ++ [0, 1, 2, 3, 4]
theorem ext5_len (z : List Int) (m : Nat) : (ext5 z m).length = m + 5 := by simp [ext5]
theorem ext5_cells (z : List Int) (m : Nat) : (List.range m).map (fun i => Value.int .i64 (z.getD i 0)) ++ [.int .i64 0, .int .i64 1, .int .i64 2, .int .i64 3, .int .i64 4] = ic (ext5 z m) := by
  simp [ext5, ic]
structure PermK (P : List Int) (e : List Int) (k : Nat) : Prop where
  nd : P.Nodup
  rg : ∀ x ∈ P, 0 ≤ x ∧ x < 5
  has : ∀ j, j < k → modV (e.getD j 0) 5 ∈ P
  len : P.length ≤ k
theorem PermK.all {P : List Int} {z : List Int} {m : Nat} (h : PermK P (ext5 z m) (m + 5)) : ∀ c : Nat, c < 5 → (c : Int) ∈ P := fun c hc => by
  have h1 := h.has (m + c) (by omega)
  have e : (ext5 z m).getD (m + c) 0 = (c : Int) := by
    unfold ext5
    simp only [List.getD]
    rw [List.getElem?_append_right (by simp)]
    match c, hc with
    | 0, _ => simp
    | 1, _ => simp
    | 2, _ => simp
    | 3, _ => simp
    | 4, _ => simp
  rw [e] at h1
  have e2 : modV (c : Int) 5 = (c : Int) := by unfold modV; omega
  rwa [e2] at h1

theorem cell_list_new (w : World) (cs : List Value) (E : TypeId) : ∀ (j : Nat) u, cs[j]? = some u → (w.alloc (.cells cs.toArray E)).cell? ((⟨w.heap.size, 0, none⟩ : Addr).add j) = some u := by
  intro j u hj
  rw [show (⟨w.heap.size, 0, none⟩ : Addr).add j = ⟨w.heap.size, j, none⟩ by unfold Addr.add; split <;> simp_all, World.cell?_alloc_new]
  simpa using hj
set_option maxRecDepth 100000 in
set_option maxHeartbeats 4000000 in
theorem walk11 (a2 : Option Addr) (len2 cap2 : Nat) (z2 : List Int) (a3 : Option Addr) (len3 cap3 : Nat) (z3 : List Int) (w : World) (hE : Elems w a2 len2 z2) (hl : len2 ≤ cap2) (hm : cap2 ≤ 9223372036854775807)
    (hE3 : Elems w a3 len3 z3) (hl3 : len3 ≤ cap3) (hm3 : cap3 ≤ 9223372036854775807) (hn3 : a3 = none → cap3 = 0) :
    Calls Try.prog 7 #[.slice a2 len2 cap2, .slice a3 len3 cap3] w fun e w' => e = .returned (.bool true) ∧ Up w w' := by
  obtain ⟨i0, hi, hz0, hz1, hz2⟩ := info_parts Try.info3
  have HE := Lib.hid hE
  have HE3 := Lib.hid hE3
  have HN3 := Lib.hid hn3
  obtain ⟨m, hmin, hm1, hm2⟩ : ∃ m : Nat, min (len3 : Int) 20 = (m : Int) ∧ m ≤ len3 ∧ m ≤ 20 := ⟨min len3 20, by omega, by omega, by omega⟩
  have hmc : m ≤ cap3 := by omega
  clear hE hE3 
  have HIS : Hid (∀ y, a3 = some y → ∀ j u, ((List.range m).map fun i => Value.int .i64 (z3.getD i 0))[j]? = some u → w.cell? (y.add j) = some u ∧ (y.add j).block < w.heap.size) := fun y hy j u hj => by
    have hjm : j < m := by have := (List.getElem?_eq_some_iff.1 hj).1; simpa using this
    obtain ⟨b, off, he, hb, hc⟩ := HE3.out j (by omega)
    rw [hy] at he
    cases he
    rw [Addr.add_lit]
    simp [hjm] at hj
    exact ⟨hc.trans (by rw [← hj]; simp [List.getD]), hb⟩
  cases a3 with
  | none =>
    obtain rfl := hn3 rfl
    obtain rfl : len3 = 0 := by omega
    obtain rfl : m = 0 := by omega
    have hmin : min (0 : Int) 20 = 0 := by decide
    clear hn3
    go_enter Try.func7, Try.ntmps7
    go_wp2_with (first | (go_at_call 17; refine (sworks_any _).mono ?_; rintro e w1 ⟨rfl, u1⟩) | (at_builtin; refine wpList_append_grows _ rfl _ _ 22 rfl 3 i0 (.int .i64 0) 1 8 Try.underlying22 hi hz0 hz1 hz2 rfl (by decide) none 0 0 ((List.range 0).map fun i => .int .i64 (z3.getD i 0)) rfl ?c0 ?c1 ?c2 ⟨w1.heap.size, 0, none⟩ 5 5 [.int .i64 0, .int .i64 1, .int .i64 2, .int .i64 3, .int .i64 4] rfl rfl ?c3 ?c4 ?c7 ?c5 ?c6 ?_))
    case c1 => simp
    case c2 => intro y hy j u hj; have h := HIS.out y hy j u hj; exact ((u1.alloc _).cell h.2).trans h.1
    case c3 => exact cell_list_new _ _ _
    case c4 => intro u hu; simp at hu; rcases hu with rfl | rfl | rfl | rfl | rfl <;> rfl
    case c7 => omega
    case c5 => unfold maxLen; omega
    case c6 => omega
    intro vE wE hownE hgrowE
    have huE : Up w wE := Below.grown (u1.alloc _) hgrowE (by have := u1.size; simp; omega) (fun j hj => by cases hj)
    have HX : Hid (Ints wE vE (ext5 z3 0)) := ints_own (by rw [ext5_len]; simpa [ext5, ic, Function.comp_def] using hownE)
    obtain ⟨ae, ce, rfl⟩ := own_len hownE
    clear hownE hgrowE
    have hel := ext5_len z3 0
    obtain ⟨ext, hext⟩ : ∃ ext, ext = ext5 z3 0 := ⟨_, rfl⟩
    rw [← hext] at HX hel
    have HEXT := Lib.hid hext
    have hel2 : 5 ≤ ext.length := by omega
    have hel4 : ext.length ≤ 5 := by omega
    have hel3 := Lib.hid hel
    clear hext hel
    go_wp2
    go_loopw [5, 24] (fun v kv wr => ∃ (k : Nat) (P : List Int), k ≤ 5 ∧ kv = .int .i64 k ∧ PermK P ext k ∧ wr.ownsRow wE.heap.size 3 1 v P.length (ic P) ∧ Up wE wr) (fun _ kv _ => 5 - (intOf kv).toNat)
    case atStart => exact ⟨0, [], by omega, rfl, ⟨List.nodup_nil, fun x hx => (by cases hx), fun j hj => (by omega), by simp⟩, World.ownsRow_nil _ _ _ _, Up.refl _⟩
    case round =>
      obtain ⟨k, P, hk, rfl, hP, hown, hu⟩ := hrel
      have HP := Lib.hid hP
      have hPl := hP.len
      clear hP
      obtain ⟨aP, cP, rfl⟩ := own_len hown
      by_cases hlt : k < 5
      · obtain ⟨a', cap', he, h1', h2', _, h3'⟩ := HX.out
        simp only [Value.slice.injEq] at he
        obtain ⟨rfl, hqq, rfl⟩ := he
        clear hqq
        obtain ⟨b', off', rfl, h4'⟩ := arr_at (n := 0) (cap := 0) (0 : Int) h3' (by omega)
        obtain ⟨hbo, co⟩ := intR_grows _ _ _ _ _ (h4' k (by omega)) hu
        rw [Nat.mul_one] at co
        have PN : Hid (∀ P' : List Int, (∀ x ∈ P, x ∈ P') → modV (ext.getD k 0) 5 ∈ P' → ∀ j, j < k + 1 → modV (ext.getD j 0) 5 ∈ P') := fun P' h1 h2 j hj => by
          by_cases e : j = k
          · rw [e]; exact h2
          · exact h1 _ (HP.out.has j (by omega))
        clear h4' h3' h1' h2'
        generalize ext.getD k 0 = x at *
        have y0 := modV_nonneg x 5 (by omega)
        have y1 := modV_lt x 5 (by omega)
        obtain ⟨y, hy⟩ : ∃ y, y = modV x 5 := ⟨_, rfl⟩
        have HY := Lib.hid hy
        rw [← hy] at y0 y1
        clear hy
        obtain ⟨bo, hbo'⟩ : ∃ bo, bo = P.any (y == ·) := ⟨_, rfl⟩
        have BO := Lib.hid hbo'
        clear hbo'
        have HI := Lib.hid (ints_own hown)
        cases bo with
        | true =>
          have hmem : Hid (y ∈ P) := by have := BO.out.symm; rw [List.any_eq_true] at this; obtain ⟨z, hz, hyz⟩ := this; rw [beq_iff_eq] at hyz; rw [hyz]; exact hz
          go_wp2_with (first | (go_at_call 15; refine (mod_any _ _ _ (by decide) (by decide)).mono ?_; rintro e w' ⟨rfl, rfl⟩; rw [← HY.out]) | (go_at_call 22; refine (containsI_any _ _ y _ HI.out).mono ?_; rintro e w2 ⟨rfl, rfl⟩; rw [← BO.out]))
          go_roundw
          case rel => exact ⟨k + 1, P, by omega, by go_num, ⟨HP.out.nd, HP.out.rg, PN.out P (fun _ h => h) (by rw [← HY.out]; exact hmem.out), by omega⟩, hown, hu⟩
          case measure => simp [intOf]; omega
        | false =>
          have hmem : Hid (y ∉ P) := fun hz => by have := BO.out.symm; rw [List.any_eq_false] at this; exact this y hz (by simp)
          go_wp2_with (first | (go_at_call 15; refine (mod_any _ _ _ (by decide) (by decide)).mono ?_; rintro e w' ⟨rfl, rfl⟩; rw [← HY.out]) | (go_at_call 22; refine (containsI_any _ _ y _ HI.out).mono ?_; rintro e w2 ⟨rfl, rfl⟩; rw [← BO.out]) | (at_builtin; refine wpList_append_own _ rfl _ _ 22 rfl wE.heap.size 3 i0 (.int .i64 0) 1 8 Try.underlying22 hi hz0 hz1 hz2 rfl (by decide) _ _ _ rfl (hown.alloc _) ⟨wr.heap.size, 0, none⟩ 1 1 [.int .i64 y] rfl rfl ?e1 ?e2 ?e3 ?e4 ?e5 ?_))
          first | (case e1 => exact cell_one_new2 _ _ _) | skip
          case e2 => first | rfl | (intro u hu; simp at hu; subst hu; rfl)
          case e3 => unfold maxLen; omega
          case e4 => omega
          case e5 => have := hu.size; simp; omega
          intro v' w2 hown' hgrow _
          have hu2 : Up wE w2 := Below.grown (hu.alloc _) hgrow (by have := hu.size; simp; omega) (fun j hj => (own_ty (hown.alloc (.cells #[.int .i64 y] 3)) j hj).2)
          have PK : Hid (PermK (P ++ [y]) ext (k + 1)) := ⟨by
              rw [List.nodup_append]
              exact ⟨HP.out.nd, by simp, fun a ha b hb => by
                obtain rfl := List.mem_singleton.1 hb
                rintro rfl
                exact hmem.out ha⟩,
            fun z hz => by
              rcases List.mem_append.1 hz with h | h
              · exact HP.out.rg z h
              · obtain rfl := List.mem_singleton.1 h; omega,
            PN.out _ (fun z hz => List.mem_append.2 (.inl hz)) (by rw [← HY.out]; simp), by simp; omega⟩
          clear hgrow hown
          go_wp2
          go_roundw
          case rel => exact ⟨k + 1, P ++ [y], by omega, by go_num, PK.out, by simpa using hown', hu2⟩
          case measure => simp [intOf]; omega
      · obtain rfl : k = 5 := by omega
        rw [HEXT.out] at HP
        have hAll := Lib.hid HP.out.all
        go_wp2_with fail
        refine (hist_any a2 len2 cap2 z2 wr (elems_up HE.out (huE.trans hu)) hl hm).mono ?_
        rintro e w3 ⟨vh, l, rfl, hownh, hok, hl60, u3⟩
        have OK := Lib.hid hok
        have TI : Hid (∀ x ∈ l, (x.tx : Int) ∈ P) := fun x hx => hAll.out x.tx (OK.out x hx).1
        clear hok
        go_wp2_with fail
        refine (serialize_any _ _ l P _ (hops_own hownh) (hok_valid OK.out hl60) (ints_own (own_up hown u3)) HP.out.nd (serl_len_all l HP.out.nd TI.out)).mono ?_
        rintro e w4 ⟨vs, rfl, howns, u4⟩
        have SL := Lib.hid (serl_len_all l HP.out.nd TI.out)
        have HVS : Hid (HValid (serl l P)) := hok_valid (fun x hx => OK.out x (mem_serl.1 hx).1) (by rw [SL.out]; exact hl60)
        obtain ⟨res, hres⟩ := serl_order l HP.out.nd HVS.out
        have HRES := Lib.hid hres
        clear hres
        go_wp2_with fail
        refine (sorder_any _ (serl l P) _ (hops_own howns) HVS.out).mono ?_
        rintro e w5 ⟨⟨hs, _⟩, u5⟩
        obtain ⟨v5, rfl, _⟩ := hs _ HRES.out
        clear hs
        have hfin := (((huE.trans hu).trans u3).trans u4).trans u5
        go_wp2
        go_ret
        exact ⟨rfl, hfin⟩
  | some y =>
    clear hn3
    go_enter Try.func7, Try.ntmps7
    go_wp2_with (first | (go_at_call 17; refine (sworks_any _).mono ?_; rintro e w1 ⟨rfl, u1⟩) | (at_builtin; refine wpList_append_grows _ rfl _ _ 22 rfl 3 i0 (.int .i64 0) 1 8 Try.underlying22 hi hz0 hz1 hz2 rfl (by decide) (some y) m m ((List.range m).map fun i => .int .i64 (z3.getD i 0)) rfl ?d0 ?d1 ?d2 ⟨w1.heap.size, 0, none⟩ 5 5 [.int .i64 0, .int .i64 1, .int .i64 2, .int .i64 3, .int .i64 4] rfl rfl ?d3 ?d4 ?d7 ?d5 ?d6 ?_))
    case d0 => intro h; cases h
    case d1 => simp
    case d2 => intro y hy j u hj; have h := HIS.out y hy j u hj; exact ((u1.alloc _).cell h.2).trans h.1
    case d3 => exact cell_list_new _ _ _
    case d4 => intro u hu; simp at hu; rcases hu with rfl | rfl | rfl | rfl | rfl <;> rfl
    case d7 => omega
    case d5 => unfold maxLen; omega
    case d6 => omega
    intro vE wE hownE hgrowE
    have huE : Up w wE := Below.grown (u1.alloc _) hgrowE (by have := u1.size; simp; omega) (fun j hj => by cases hj)
    have HX : Hid (Ints wE vE (ext5 z3 m)) := ints_own (by rw [ext5_len]; simpa [ext5, ic, Function.comp_def] using hownE)
    obtain ⟨ae, ce, rfl⟩ := own_len hownE
    clear hownE hgrowE
    have hel := ext5_len z3 m
    obtain ⟨ext, hext⟩ : ∃ ext, ext = ext5 z3 m := ⟨_, rfl⟩
    rw [← hext] at HX hel
    have HEXT := Lib.hid hext
    have hel2 : m + 5 ≤ ext.length := by omega
    have hel4 : ext.length ≤ m + 5 := by omega
    have hel3 := Lib.hid hel
    clear hext hel
    go_wp2
    go_loopw [5, 24] (fun v kv wr => ∃ (k : Nat) (P : List Int), k ≤ m + 5 ∧ kv = .int .i64 k ∧ PermK P ext k ∧ wr.ownsRow wE.heap.size 3 1 v P.length (ic P) ∧ Up wE wr) (fun _ kv _ => m + 5 - (intOf kv).toNat)
    case atStart => exact ⟨0, [], by omega, rfl, ⟨List.nodup_nil, fun x hx => (by cases hx), fun j hj => (by omega), by simp⟩, World.ownsRow_nil _ _ _ _, Up.refl _⟩
    case round =>
      obtain ⟨k, P, hk, rfl, hP, hown, hu⟩ := hrel
      have HP := Lib.hid hP
      have hPl := hP.len
      clear hP
      obtain ⟨aP, cP, rfl⟩ := own_len hown
      by_cases hlt : k < m + 5
      · obtain ⟨a', cap', he, h1', h2', _, h3'⟩ := HX.out
        simp only [Value.slice.injEq] at he
        obtain ⟨rfl, hqq, rfl⟩ := he
        clear hqq
        obtain ⟨b', off', rfl, h4'⟩ := arr_at (n := 0) (cap := 0) (0 : Int) h3' (by omega)
        obtain ⟨hbo, co⟩ := intR_grows _ _ _ _ _ (h4' k (by omega)) hu
        rw [Nat.mul_one] at co
        have PN : Hid (∀ P' : List Int, (∀ x ∈ P, x ∈ P') → modV (ext.getD k 0) 5 ∈ P' → ∀ j, j < k + 1 → modV (ext.getD j 0) 5 ∈ P') := fun P' h1 h2 j hj => by
          by_cases e : j = k
          · rw [e]; exact h2
          · exact h1 _ (HP.out.has j (by omega))
        clear h4' h3' h1' h2'
        generalize ext.getD k 0 = x at *
        have y0 := modV_nonneg x 5 (by omega)
        have y1 := modV_lt x 5 (by omega)
        obtain ⟨y, hy⟩ : ∃ y, y = modV x 5 := ⟨_, rfl⟩
        have HY := Lib.hid hy
        rw [← hy] at y0 y1
        clear hy
        obtain ⟨bo, hbo'⟩ : ∃ bo, bo = P.any (y == ·) := ⟨_, rfl⟩
        have BO := Lib.hid hbo'
        clear hbo'
        have HI := Lib.hid (ints_own hown)
        cases bo with
        | true =>
          have hmem : Hid (y ∈ P) := by have := BO.out.symm; rw [List.any_eq_true] at this; obtain ⟨z, hz, hyz⟩ := this; rw [beq_iff_eq] at hyz; rw [hyz]; exact hz
          go_wp2_with (first | (go_at_call 15; refine (mod_any _ _ _ (by decide) (by decide)).mono ?_; rintro e w' ⟨rfl, rfl⟩; rw [← HY.out]) | (go_at_call 22; refine (containsI_any _ _ y _ HI.out).mono ?_; rintro e w2 ⟨rfl, rfl⟩; rw [← BO.out]))
          go_roundw
          case rel => exact ⟨k + 1, P, by omega, by go_num, ⟨HP.out.nd, HP.out.rg, PN.out P (fun _ h => h) (by rw [← HY.out]; exact hmem.out), by omega⟩, hown, hu⟩
          case measure => simp [intOf]; omega
        | false =>
          have hmem : Hid (y ∉ P) := fun hz => by have := BO.out.symm; rw [List.any_eq_false] at this; exact this y hz (by simp)
          go_wp2_with (first | (go_at_call 15; refine (mod_any _ _ _ (by decide) (by decide)).mono ?_; rintro e w' ⟨rfl, rfl⟩; rw [← HY.out]) | (go_at_call 22; refine (containsI_any _ _ y _ HI.out).mono ?_; rintro e w2 ⟨rfl, rfl⟩; rw [← BO.out]) | (at_builtin; refine wpList_append_own _ rfl _ _ 22 rfl wE.heap.size 3 i0 (.int .i64 0) 1 8 Try.underlying22 hi hz0 hz1 hz2 rfl (by decide) _ _ _ rfl (hown.alloc _) ⟨wr.heap.size, 0, none⟩ 1 1 [.int .i64 y] rfl rfl ?f1 ?f2 ?f3 ?f4 ?f5 ?_))
          first | (case f1 => exact cell_one_new2 _ _ _) | skip
          case f2 => first | rfl | (intro u hu; simp at hu; subst hu; rfl)
          case f3 => unfold maxLen; omega
          case f4 => omega
          case f5 => have := hu.size; simp; omega
          intro v' w2 hown' hgrow _
          have hu2 : Up wE w2 := Below.grown (hu.alloc _) hgrow (by have := hu.size; simp; omega) (fun j hj => (own_ty (hown.alloc (.cells #[.int .i64 y] 3)) j hj).2)
          have PK : Hid (PermK (P ++ [y]) ext (k + 1)) := ⟨by
              rw [List.nodup_append]
              exact ⟨HP.out.nd, by simp, fun a ha b hb => by
                obtain rfl := List.mem_singleton.1 hb
                rintro rfl
                exact hmem.out ha⟩,
            fun z hz => by
              rcases List.mem_append.1 hz with h | h
              · exact HP.out.rg z h
              · obtain rfl := List.mem_singleton.1 h; omega,
            PN.out _ (fun z hz => List.mem_append.2 (.inl hz)) (by rw [← HY.out]; simp), by simp; omega⟩
          clear hgrow hown
          go_wp2
          go_roundw
          case rel => exact ⟨k + 1, P ++ [y], by omega, by go_num, PK.out, by simpa using hown', hu2⟩
          case measure => simp [intOf]; omega
      · obtain rfl : k = m + 5 := by omega
        rw [HEXT.out] at HP
        have hAll := Lib.hid HP.out.all
        go_wp2_with fail
        refine (hist_any a2 len2 cap2 z2 wr (elems_up HE.out (huE.trans hu)) hl hm).mono ?_
        rintro e w3 ⟨vh, l, rfl, hownh, hok, hl60, u3⟩
        have OK := Lib.hid hok
        have TI : Hid (∀ x ∈ l, (x.tx : Int) ∈ P) := fun x hx => hAll.out x.tx (OK.out x hx).1
        clear hok
        go_wp2_with fail
        refine (serialize_any _ _ l P _ (hops_own hownh) (hok_valid OK.out hl60) (ints_own (own_up hown u3)) HP.out.nd (serl_len_all l HP.out.nd TI.out)).mono ?_
        rintro e w4 ⟨vs, rfl, howns, u4⟩
        have SL := Lib.hid (serl_len_all l HP.out.nd TI.out)
        have HVS : Hid (HValid (serl l P)) := hok_valid (fun x hx => OK.out x (mem_serl.1 hx).1) (by rw [SL.out]; exact hl60)
        obtain ⟨res, hres⟩ := serl_order l HP.out.nd HVS.out
        have HRES := Lib.hid hres
        clear hres
        go_wp2_with fail
        refine (sorder_any _ (serl l P) _ (hops_own howns) HVS.out).mono ?_
        rintro e w5 ⟨⟨hs, _⟩, u5⟩
        obtain ⟨v5, rfl, _⟩ := hs _ HRES.out
        clear hs
        have hfin := (((huE.trans hu).trans u3).trans u4).trans u5
        go_wp2
        go_ret
        exact ⟨rfl, hfin⟩
end Go.Proofs.Ytfpegnlmpicekaa.C
