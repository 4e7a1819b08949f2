/- Replication: two logs with an entry of the same index and term are equal up to it: the walk. -/
import Derived.Test.YthhkekmeginooaaRqc
namespace Go.Proofs.Ythhkekmeginooaa.Rp
open Go Go.RowKit Hp
set_option linter.unusedVariables false

/-- The cluster after some steps. -/
structure Hist (w wr : World) (p : Nat) (n : Nat) (C : Clu) (F : Nat → Prop) : Prop where
  own : OwnC w wr p C F
  ok : OkE C
  net : NetS C
  n : C.srv.length = n
def HistE (w wr : World) (p : Nat) (n : Nat) : Prop := ∃ C F, Hist w wr p n C F
theorem Hist.new {w W wr : World} {p n : Nat} {F : Nat → Prop} (h1 : 1 ≤ n) (h5 : n ≤ 5) (hu : Up w W) (h : OwnC W wr p (newC n) F) : Hist w wr p n (newC n) F :=
  ⟨h.behind hu, ⟨_, _, newC_ok n h1 h5⟩, fun m hm => (by cases hm), newC_n h1⟩
theorem Hist.step {w wr w' : World} {p n : Nat} {C C' : Clu} {F F' : Nat → Prop} (h : Hist w wr p n C F) (o : OwnC w w' p C' F') (k : Next C C') : Hist w w' p n C' F' :=
  ⟨o, k.okE h.ok, k.net h.net, k.n.trans h.n⟩
theorem stepH {w wr : World} {p n : Nat} {C : Clu} {F : Nat → Prop} (h : Hist w wr p n C F) (op : Int) :
    Calls Try.prog 16 #[.pointer (some ⟨p, 0, none⟩), .int .i64 (n : Int), .int .i64 op] wr fun e w' => e = .returned (.tuple #[]) ∧ ∃ C' F', Hid (Hist w w' p n C' F') ∧ Hid (Next C C') ∧ Hid (Chg F wr w') := by
  have := stepO h.own h.ok h.net op
  rw [h.n] at this
  exact this.mono fun e w' ⟨a, C', F', b, c, d⟩ => ⟨a, C', F', h.step b.out c.out, c, d⟩
theorem min_two (a b : Nat) : ∃ t : Nat, min (a : Int) (b : Int) = (t : Int) ∧ (if (b : Int) < (a : Int) then (b : Int) else (a : Int)) = (t : Int) ∧ t ≤ a ∧ t ≤ b := ⟨min a b, by omega, by split <;> omega, by omega, by omega⟩
theorem src_rowE {w w' : World} {b : Nat} {v : Value} {l : Lg} (h : w.ownsRow b 44 2 v l.length (enC l)) (hu : Up w w') : Src w' 2 v l.length (enC l) := own_src (own_up h hu)
theorem agreeE {C : Clu} (h : OkE C) {i k t : Nat} (hi : i < C.srv.length) (hk : k < C.srv.length) (h1 : t < (C.s i).log.length) (h2 : t < (C.s k).log.length) (he : (C.s i).log[t].term = (C.s k).log[t].term) : (C.s i).log.take (t + 1) = (C.s k).log.take (t + 1) := by
  obtain ⟨LL, ack, ok⟩ := h
  exact (ok.inv.gl i hi).agree (ok.inv.gl k hk) (List.getElem?_eq_getElem h1) (List.getElem?_eq_getElem h2) he
theorem OkE.loglen {C : Clu} (h : OkE C) {v : Nat} (hv : v < C.srv.length) : (C.s v).log.length ≤ 60 := by
  obtain ⟨LL, ack, ok⟩ := h
  exact ok.loglen hv
set_option maxRecDepth 100000 in
set_option maxHeartbeats 4000000 in
theorem walk53 (s : Int) (a : Option Addr) (len cap : Nat) (zs : List Int) (w : World) (hE : Elems w a len zs) (hl : len ≤ cap) (hm : cap ≤ 9223372036854775807) :
    Calls Try.prog 6 #[.int .i64 s, .slice a len cap] w fun e w' => e = .returned (.bool true) ∧ Up w w' := by
  have HE := Lib.hid hE
  clear hE
  obtain ⟨m, hmin, hm1, hm2⟩ := min_len 200 len
  have hmc : (m : Int) ≤ (cap : Int) := by omega
  have hmin2 : min (len : Int) 200 = (m : Int) := by rw [← hmin]; simp only [Int.min_def]; split <;> split <;> omega
  obtain ⟨x, hx1, hx2⟩ := modV_nat s 4 (by omega)
  have HX := Lib.hid hx1
  clear hx1
  obtain ⟨n, hn⟩ : ∃ n, n = 2 + x := ⟨_, rfl⟩
  have hxn : (2 : Int) + (x : Int) = (n : Int) := by omega
  have HN : Hid (2 ≤ n ∧ n ≤ 5) := ⟨by omega, by omega⟩
  have hx3 : (x : Int) ≤ 3 := by omega
  clear hn hx2
  go_enter Try.func6, Try.ntmps6
  go_wp2_with (first
    | (go_at_call 10; refine (new_any n (by have := HN.out; omega) HN.out.2 _).mono ?_; rintro e w1 ⟨p, F0, rfl, hO0⟩; have H0 : Hid (Hist w w1 p n (newC n) F0) := Hist.new (by have := HN.out; omega) HN.out.2 U1.out hO0; clear hO0)
    | (go_at_call 8; refine (works_any _).mono ?_; rintro e w1 ⟨rfl, h1⟩; have U1 := Lib.hid h1; clear h1)
    | (go_at_call 9; refine (mod_any s 4 _ (by omega) (by omega)).mono ?_; rw [HX.out]; rintro e w' ⟨rfl, rfl⟩)
    | fail)
  clear hmin hmin2
  go_loopw [40] (fun iv wr => ∃ k : Nat, k ≤ m ∧ iv = .int .i64 k ∧ Hid (HistE w wr p n)) (fun iv _ => m - (intOf iv).toNat)
  case atStart => exact ⟨0, Nat.zero_le _, rfl, ⟨_, _, H0.out⟩⟩
  case round =>
    obtain ⟨k, hk, rfl, HI⟩ := hrel
    obtain ⟨wo, hwo⟩ : ∃ wo : World, wo = wr := ⟨_, rfl⟩
    rw [← hwo] at HI ⊢
    clear hwo
    obtain ⟨C, F, hH⟩ := HI.out
    have HH := Lib.hid hH
    clear hH HI
    by_cases hlt : k < m
    · obtain ⟨b, off, rfl, hbl, hcell⟩ := elems_up HE.out HH.out.own.up k (by omega)
      have hkm : (k : Int) < (m : Int) := by omega
      generalize zs.getD k 0 = z at *
      go_wp2_with (first
        | (go_at_call 16; refine (stepH HH.out z).mono ?_; rintro e w3 ⟨rfl, C', F', H3, N3, _⟩)
        | fail)
      go_roundw
      case rel => exact ⟨k + 1, by omega, by go_num, ⟨_, _, H3.out⟩⟩
      case measure => simp [intOf]; omega
    · obtain rfl : k = m := by omega
      clear H0 hlt
      go_wp2
      go_loopw [50] (fun iv wr => ∃ i : Nat, i ≤ n ∧ iv = .int .i64 i ∧ Hid (OwnC w wr p C F)) (fun iv _ => n - (intOf iv).toNat)
      case atStart => exact ⟨0, Nat.zero_le _, rfl, HH.out.own⟩
      case round =>
        obtain ⟨i, hi, rfl, HO⟩ := hrel
        obtain ⟨wi, hwi⟩ : ∃ wi : World, wi = wr := ⟨_, rfl⟩
        rw [← hwi] at HO ⊢
        clear hwi
        by_cases hlt : i < n
        · have hin : (i : Int) < (n : Int) := by omega
          have HIC : Hid (i < C.srv.length) := by unfold Hid; rw [HH.out.n]; exact hlt
          go_wp2_with (first
            | (go_at_call 15; refine (logO HO.out HH.out.ok i HIC.out).mono ?_; rintro e w4 ⟨va, rfl, L4, U4, O4⟩)
            | fail)
          obtain ⟨aa, ac, rfl, _, _, _⟩ := own_form L4.out
          have hla := HH.out.ok.loglen HIC.out
          go_loopw [61] (fun kv wr => ∃ k : Nat, k ≤ i ∧ kv = .int .i64 k ∧ Hid (Up w4 wr)) (fun kv _ => i - (intOf kv).toNat)
          case atStart => exact ⟨0, Nat.zero_le _, rfl, Up.refl _⟩
          case round =>
            obtain ⟨j, hj, rfl, HU⟩ := hrel
            obtain ⟨wj, hwj⟩ : ∃ wj : World, wj = wr := ⟨_, rfl⟩
            rw [← hwj] at HU ⊢
            clear hwj
            by_cases hlt2 : j < i
            · have hji : (j : Int) < (i : Int) := by omega
              have HJC : Hid (j < C.srv.length) := by unfold Hid; rw [HH.out.n]; omega
              have HO5 := Lib.hid (O4.out.grow HU.out)
              obtain ⟨t0, ht1, ht2, ht3, ht4⟩ := min_two (C.s i).log.length (C.s j).log.length
              have hlb := HH.out.ok.loglen HJC.out
              go_wp2_with (first
                | (go_at_call 15; refine (logO HO5.out HH.out.ok j HJC.out).mono ?_; rintro e w5 ⟨vb, rfl, L5, U5, O5⟩; obtain ⟨ba, bc, rfl, _, _, _⟩ := own_form L5.out)
                | fail)
              clear ht1 ht2
              have HAG := Lib.hid (fun t => @agreeE C HH.out.ok i j t HIC.out HJC.out)
              have HLA : Hid (w5.ownsRow wi.heap.size 44 2 (.slice aa (C.s i).log.length ac) (C.s i).log.length (enC (C.s i).log)) := own_up L4.out (HU.out.trans U5.out)
              go_loopw [17] (fun nv wr => ∃ t : Nat, t ≤ t0 ∧ nv = .int .i64 t ∧ Hid (Up w5 wr)) (fun nv _ => (intOf nv).toNat)
              case atStart => exact ⟨t0, Nat.le_refl _, rfl, Up.refl _⟩
              case round =>
                obtain ⟨t, ht, rfl, HU6⟩ := hrel
                obtain ⟨wt, hwt⟩ : ∃ wt : World, wt = wr := ⟨_, rfl⟩
                rw [← hwt] at HU6 ⊢
                clear hwt
                rcases Nat.eq_zero_or_pos t with h0 | h0
                · subst h0
                  go_wp2
                  go_roundw
                  case rel => exact ⟨j + 1, by omega, by go_num, (HU.out.trans U5.out).trans HU6.out⟩
                  case measure => simp [intOf]; omega
                · obtain ⟨t1, ht1⟩ : ∃ t1, t = t1 + 1 := ⟨t - 1, by omega⟩
                  have htm : (t : Int) - 1 = (t1 : Int) := by omega
                  have ht0 : (0 : Int) < (t : Int) := by omega
                  have hta : t1 < (C.s i).log.length := by omega
                  have htb : t1 < (C.s j).log.length := by omega
                  have htia : (t1 : Int) < ((C.s i).log.length : Int) := by omega
                  have htib : (t1 : Int) < ((C.s j).log.length : Int) := by omega
                  have hnz : ¬ (t : Int) < 0 := by omega
                  have hSA := src_rowE HLA.out HU6.out
                  have hSB := src_rowE L5.out HU6.out
                  have SA := Lib.hid hSA
                  have SB := Lib.hid hSB
                  have hca : (t : Int) ≤ (ac : Int) := by
                    obtain ⟨_, _, e, h1, _⟩ := own_form HLA.out
                    simp only [Value.slice.injEq] at e; omega
                  have hcb : (t : Int) ≤ (bc : Int) := by
                    obtain ⟨_, _, e, h1, _⟩ := own_form L5.out
                    simp only [Value.slice.injEq] at e; omega
                  obtain ⟨b1, o1, rfl, c1⟩ := src_at hSA (by omega)
                  obtain ⟨b2, o2, rfl, c2⟩ := src_at hSB (by omega)
                  have d1 := c1 _ _ (enC_get (C.s i).log t1 hta).1
                  have d2 := c2 _ _ (enC_get (C.s j).log t1 htb).1
                  obtain ⟨dl1, d1⟩ := d1
                  obtain ⟨dl2, d2⟩ := d2
                  have HTT := Lib.hid ht1
                  have HEQ : Hid ((C.s i).log[t1].term = (C.s j).log[t1].term → ∀ g : Gr wt, Calls Try.prog 22 #[.slice (some ⟨b1, o1, none⟩) t ac, .slice (some ⟨b2, o2, none⟩) t bc] (gr wt g) fun e w' => e = .returned (.bool true) ∧ Up (gr wt g) w') := fun he g => by
                    have hag := HAG.out t1 hta htb he
                    rw [← ht1] at hag
                    have l1 : ((C.s i).log.take t).length = t := by rw [List.length_take]; omega
                    have l2 : ((C.s j).log.take t).length = t := by rw [List.length_take]; omega
                    have key := equalE_any (.slice (some ⟨b1, o1, none⟩) t ac) (.slice (some ⟨b2, o2, none⟩) t bc) ((C.s i).log.take t) ((C.s j).log.take t) (gr wt g) (by rw [l1]; exact (src_preE SA.out (by omega)).up (gr_up wt g)) (by rw [l2]; exact (src_preE SB.out (by omega)).up (gr_up wt g)) (by omega) (by omega)
                    rw [decide_eq_true hag] at key
                    exact key
                  generalize (C.s i).log[t1].term = y1 at *
                  generalize (C.s j).log[t1].term = y2 at *
                  clear hSA hSB c1 c2 hta htb ht1
                  by_cases he : y1 = y2
                  · have HQ := Lib.hid (HEQ.out he)
                    subst he
                    go_upto_region 25 with fail
                    refine wp_region_gr (by kernel_rfl) (by kernel_rfl) ?_
                    repeat (go_big_quiet_step (first | (go_at_call 22; exact gr_call (HQ.out _)) | fail))
                    refine wpQuiet_nil ?_
                    intro _ hw'
                    obtain ⟨gg, rfl⟩ := hw'
                    go_wp2
                    go_roundw
                    case rel => exact ⟨t1, by have := HTT.out; omega, by go_num, HU6.out.trans (gr_up _ _)⟩
                    case measure => have := HTT.out; simp [intOf]; omega
                  · have hne : ((y1 : Int) == (y2 : Int)) = false := beq_eq_false_iff_ne.2 (by omega)
                    have hne2 : ¬ (y1 : Int) = (y2 : Int) := by omega
                    go_upto_region 25 with fail
                    refine wp_region_gr (by kernel_rfl) (by kernel_rfl) ?_
                    repeat (go_big_quiet_step (fail))
                    refine wpQuiet_nil ?_
                    intro _ hw'
                    obtain ⟨gg, rfl⟩ := hw'
                    go_wp2
                    go_roundw
                    case rel => exact ⟨t1, by have := HTT.out; omega, by go_num, HU6.out.trans (gr_up _ _)⟩
                    case measure => have := HTT.out; simp [intOf]; omega
            · obtain rfl : j = i := by omega
              go_wp2
              go_roundw
              case rel => exact ⟨j + 1, by omega, by go_num, O4.out.grow HU.out⟩
              case measure => simp [intOf]; omega
        · obtain rfl : i = n := by omega
          go_wp2
          go_ret
          exact ⟨rfl, HO.out.up⟩
end Go.Proofs.Ythhkekmeginooaa.Rp
