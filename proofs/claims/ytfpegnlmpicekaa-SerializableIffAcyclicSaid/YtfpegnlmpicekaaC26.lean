/- Serialize; SerialHistoriesAreSerializable. -/
import Derived.Test.YtfpegnlmpicekaaC25
import Derived.ArgAppend
namespace Go.Proofs.Ytfpegnlmpicekaa.C
open Go Go.RowKit Hp
set_option linter.unusedVariables false

theorem serl_split (l : List Hop) (ord : List Int) {k : Nat} (hk : k < ord.length) : serl l (ord.take (k + 1)) = serl l (ord.take k) ++ l.filter (has (ord.getD k 0)) := by
  unfold serl
  rw [List.take_succ_eq_append_getElem hk, List.flatMap_append]
  simp [List.getD, hk]
theorem serl_take_len (l : List Hop) (ord : List Int) {k : Nat} (hk : k < ord.length) : (serl l (ord.take k)).length + (l.filter (has (ord.getD k 0))).length ≤ (serl l ord).length := by
  have e : serl l ord = serl l (ord.take (k + 1)) ++ serl l (ord.drop (k + 1)) := by
    unfold serl; rw [← List.flatMap_append, List.take_append_drop]
  rw [e, serl_split l ord hk]; simp
theorem filt_succ (l : List Hop) (t : Int) {m : Nat} (hm : m < l.length) : (l.take (m + 1)).filter (has t) = (l.take m).filter (has t) ++ if has t (l.getD m h0) then [l.getD m h0] else [] := by
  rw [List.take_succ_eq_append_getElem hm, List.filter_append, ← hgetD l hm]
  generalize l.getD m h0 = x
  by_cases h : has t x = true <;> simp [h]
theorem filt_len (l : List Hop) (t : Int) (m : Nat) : ((l.take m).filter (has t)).length ≤ (l.filter (has t)).length :=
  ((List.take_sublist m l).filter _).length_le
theorem fresh (ord : List Int) (hnd : ord.Nodup) {k : Nat} (hk : k < ord.length) : (ord.take k).any (ord.getD k 0 == ·) = false := by
  rw [List.any_eq_false]
  intro x hx
  obtain ⟨i, hi, rfl⟩ := List.mem_iff_getElem.1 hx
  have hi' : i < k := by simp at hi; omega
  rw [List.getElem_take]
  have := List.pairwise_iff_getElem.1 hnd i k (by omega) hk hi'
  simp only [List.getD, List.getElem?_eq_getElem hk, Option.getD_some, beq_iff_eq]
  exact fun h => this h.symm

set_option maxRecDepth 100000 in
set_option maxHeartbeats 4000000 in
theorem serialize_any (vt vo : Value) (l : List Hop) (ord : List Int) (w : World) (ht : Hops w vt l) (hv' : HValid l) (ho : Ints w vo ord) (hnd : ord.Nodup) (hsl : (serl l ord).length = l.length) :
    Calls Try.prog 23 #[vt, vo] w fun e w' => ∃ v, e = .returned (.tuple #[v, .int .i64 0]) ∧ w'.ownsRow w.heap.size 42 3 v (serl l ord).length (hcells (serl l ord)) ∧ Up w w' := by
  obtain ⟨i0, hi, hz0, hz1, hz2⟩ := info_parts Try.info42
  have HT := Lib.hid ht
  have HO := Lib.hid ho
  have HV := Lib.hid hv'
  have ND := Lib.hid hnd
  have SL := Lib.hid hsl
  have hl200 := hv'.len
  obtain ⟨a, cap, rfl, h1, h2, _, h3⟩ := ht
  obtain ⟨a', cap', rfl, h1', h2', _, h3'⟩ := ho
  have H3 := Lib.hid h3
  have H3' := Lib.hid h3'
  clear h3 h3' hv' hnd hsl
  go_enter Try.func23, Try.ntmps23
  go_wp2_with (go_at_call 40; refine (hcheck_any _ l _ HT.out HV.out).mono ?_; rintro e w1 ⟨rfl, hu1⟩)
  go_loopw [7, 19] (fun v kv wr => ∃ k : Nat, k ≤ ord.length ∧ kv = .int .i64 k ∧ wr.ownsRow w.heap.size 42 3 v (serl l (ord.take k)).length (hcells (serl l (ord.take k))) ∧ Up w wr) (fun _ kv _ => ord.length - (intOf kv).toNat)
  case atStart => exact ⟨0, by omega, rfl, World.ownsRow_nil _ _ _ _, hu1⟩
  case round =>
    obtain ⟨k, hk, rfl, hown, hu⟩ := hrel
    by_cases hlt : k < ord.length
    · obtain ⟨b', off', rfl, h4'⟩ := arr_at (n := 0) (cap := 0) (0 : Int) H3'.out (by omega)
      obtain ⟨hbo, co⟩ := intR_grows _ _ _ _ _ (h4' k hlt) hu
      rw [Nat.mul_one] at co
      have FR := Lib.hid (fresh ord ND.out hlt)
      have SP := Lib.hid (serl_split l ord hlt)
      have hsl := serl_take_len l ord hlt
      rw [SL.out] at hsl
      have HO2 : Hid (Ints wr (.slice (some ⟨b', off', none⟩) k cap') (ord.take k)) := arr_take (HO.out.grow intR_grows hu) (by omega)
      generalize ord.getD k 0 = t at *
      clear h4'
      go_wp2_with (go_at_call 22; refine (containsI_any _ _ t _ HO2.out).mono ?_; rintro e w2 ⟨rfl, rfl⟩; rw [FR.out])
      obtain ⟨wo, rfl⟩ : ∃ wo : World, wo = wr := ⟨_, rfl⟩
      go_loopw [7, 31] (fun v kv wr => ∃ m : Nat, m ≤ l.length ∧ kv = .int .i64 m ∧ wr.ownsRow w.heap.size 42 3 v (serl l (ord.take k) ++ (l.take m).filter (has t)).length (hcells (serl l (ord.take k) ++ (l.take m).filter (has t))) ∧ Up w wr) (fun _ kv _ => l.length - (intOf kv).toNat)
      case atStart => exact ⟨0, by omega, rfl, by simpa using hown, hu⟩
      case round =>
        clear hown hu
        obtain ⟨m, hm, rfl, hown, hu⟩ := hrel
        by_cases hlm : m < l.length
        · obtain ⟨b, off, rfl, h4⟩ := arr_at (n := 0) (cap := 0) h0 H3.out (by omega)
          obtain ⟨_, ⟨hbs, c0⟩, ⟨_, c1⟩, ⟨_, c2⟩⟩ := hopR_grows _ _ _ _ _ (h4 m (by omega)) hu
          have FSu := Lib.hid (filt_succ l t hlm)
          have hfl := filt_len l t m
          have hn : (serl l (ord.take k) ++ (l.take m).filter (has t)).length ≤ l.length := by rw [List.length_append]; omega
          obtain ⟨x, hx⟩ : ∃ x, x = l.getD m h0 := ⟨_, rfl⟩
          rw [← hx] at c0 c1 c2
          have HX := Lib.hid hx
          clear hx h4
          obtain ⟨tx, kd, ky⟩ := x
          dsimp only at *
          have hsz := hu.size
          by_cases hq : (tx : Int) = t
          · have FS2 : Hid ((l.take (m + 1)).filter (has t) = (l.take m).filter (has t) ++ [⟨tx, kd, ky⟩]) := by unfold Hid; rw [FSu.out, ← HX.out]; simp [has, hq]
            have hqq : ((tx : Int) == t) = true := by simpa using hq
            clear hq
            go_wp2_with (at_builtin; refine wpList_append_own _ rfl _ _ 39 rfl w.heap.size 42 i0 (.agg #[.int .i64 0, .int .i64 0, .string ByteArray.empty]) 3 32 Try.underlying39 hi hz0 hz1 hz2 rfl (by decide) _ _ _ rfl ((hown.alloc _).alloc _) ⟨wr.heap.size + 1, 0, none⟩ 1 1 [.int .i64 (tx : Int), .int .i64 kd, .string ky] rfl rfl ?c1 ?c2 ?c3 ?c4 ?c5 ?_)
            case c1 => exact cell_three_new' _ _ _ _ _ _
            case c2 => intro u hu; simp at hu; rcases hu with rfl | rfl | rfl <;> rfl
            case c3 => unfold maxLen; omega
            case c4 => omega
            case c5 => simp; omega
            intro v' wl hown' hgrow _
            have hul : Up w wl := Below.grown ((hu.alloc _).alloc _) hgrow (by simp; omega) (fun j hj => (own_ty hown j hj).2)
            clear hown hgrow
            go_wp2
            go_roundw
            case rel => exact ⟨m + 1, by omega, by go_num, by rw [FS2.out]; simpa [hcells, Nat.add_assoc] using hown', hul⟩
            case measure => simp [intOf]; omega
          · have FS2 : Hid ((l.take (m + 1)).filter (has t) = (l.take m).filter (has t)) := by unfold Hid; rw [FSu.out, ← HX.out]; simp [has, hq]
            have hqq : ((tx : Int) == t) = false := by simpa using hq
            clear hq
            go_wp2
            go_roundw
            case rel => exact ⟨m + 1, by omega, by go_num, by rw [FS2.out]; exact own_up hown ((Up.refl _).alloc _), hu.alloc _⟩
            case measure => simp [intOf]; omega
        · obtain rfl : m = l.length := by omega
          have TK : Hid (l.take l.length = l) := by simp [Hid]
          go_wp2
          go_roundw
          case rel => exact ⟨k + 1, by omega, by go_num, by rw [SP.out]; rw [TK.out] at hown; exact hown, hu⟩
          case measure => simp [intOf]; omega
    · obtain rfl : k = ord.length := by omega
      have TK : Hid (ord.take ord.length = ord) := by simp [Hid]
      rw [TK.out] at hown
      obtain ⟨ar, cr, rfl⟩ := own_len hown
      have hne1 : ((((serl l ord).length : Nat) : Int) != (l.length : Int)) = false := by rw [SL.out]; simp
      have hne2 : ((serl l ord).length != l.length) = false := by rw [SL.out]; simp
      go_wp2
      go_ret2
      exact ⟨_, rfl, hown, hu⟩
end Go.Proofs.Ytfpegnlmpicekaa.C
