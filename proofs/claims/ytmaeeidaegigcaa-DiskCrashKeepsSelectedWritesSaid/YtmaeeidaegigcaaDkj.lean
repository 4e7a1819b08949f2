/- DiskCrashKeepsSelectedWrites: the walk. -/
import Derived.Test.YtmaeeidaegigcaaDki
namespace Go.Proofs.Ytmaeeidaegigcaa.Dk
open Go Go.RowKit Hp
set_option linter.unusedVariables false

theorem Try.infoI : (Try.prog.info? 3).map (fun i => (i.zero, i.size, i.bytes)) = some (some (.int .i64 0), 1, 8) := by kernel_rfl
theorem Try.infoBool : (Try.prog.info? 4).map (fun i => (i.zero, i.size, i.bytes)) = some (some (.bool false), 1, 1) := by kernel_rfl
/-- k times true, then false. -/
def tf (n k : Nat) : List Value := (List.range n).map fun j => .bool (decide (j < k))
theorem tf_len (n k : Nat) : (tf n k).length = n := by simp [tf]
theorem tf_at (n k : Nat) {j : Nat} (h : j < n) : (tf n k)[j]? = some (.bool (decide (j < k))) := by simp [tf, h]
theorem tf_set (n k : Nat) (h : k < n) : (tf n k).set k (.bool true) = tf n (k + 1) := by
  refine List.ext_getElem (by simp [tf]) fun i h1 h2 => ?_
  by_cases e : k = i
  · subst e; simp [tf]
  · rw [List.getElem_set_ne e]
    simp only [tf, List.getElem_map, List.getElem_range]
    congr 1
    rw [Bool.eq_iff_iff]; simp; omega
theorem made_tf (n : Nat) : madeCells #[.bool false] n = (tf n 0).toArray := by
  apply Array.toList_inj.1
  rw [toList_madeCells_one]
  refine List.ext_getElem (by simp [tf]) fun i h1 h2 => ?_
  simp [tf]
theorem own_one (w : World) (v : Value) (E : TypeId) : (w.alloc (.cells #[v] E)).ownsRow w.heap.size E 1 (.slice (some ⟨w.heap.size, 0, none⟩) 1 1) 1 [v] :=
  ⟨rfl, .inr ⟨w.heap.size, 1, #[v], rfl, Nat.le_refl _, heap_alloc_new w _, Nat.le_refl _, by unfold maxLen; omega, rfl, rfl⟩⟩
theorem Src.chg {S : Nat → Prop} {w w' : World} {size : Nat} {v : Value} {n : Nat} {xs : List Value} (h : Src w size v n xs) (hc : Chg S w w') (hS : ∀ a n c, v = .slice (some a) n c → ¬ S a.block) : Src w' size v n xs :=
  ⟨h.1, h.2.imp id fun ⟨b, off, cap, hv, h1, h2, h3⟩ => ⟨b, off, cap, hv, h1, h2, fun j u hj => (h3 j u hj).chg hc (hS ⟨b, off, none⟩ _ _ hv)⟩⟩
/-- Two disks of this call's own that hold the same; which writes survive; the writes. -/
structure Two (w wr : World) (pa pb SB k n : Nat) (d : Dsk) (Fa Fb : Nat → Prop) (v3 : Value) (xs : List Value) : Prop where
  a : KeptD w wr pa d Fa
  b : KeptD w wr pb d Fb
  dis : ∀ j, Fa j → ¬ Fb j
  sv : Blk wr SB (tf n k) 4
  svn : w.heap.size ≤ SB
  sva : ¬ Fa SB
  svb : ¬ Fb SB
  ws : Src wr 1 v3 n xs
  wn : ∀ a n c, v3 = .slice (some a) n c → a.block < wr.heap.size ∧ ¬ Fa a.block ∧ ¬ Fb a.block ∧ a.block ≠ SB
theorem Two.grow {w wr wr' : World} {pa pb SB k n : Nat} {d : Dsk} {Fa Fb : Nat → Prop} {v3 : Value} {xs : List Value} (h : Two w wr pa pb SB k n d Fa Fb v3 xs) (hu : Up wr wr') : Two w wr' pa pb SB k n d Fa Fb v3 xs :=
  ⟨h.a.grow hu, h.b.grow hu, h.dis, h.sv.up hu, h.svn, h.sva, h.svb, h.ws.up hu, fun a n c e => by have q := h.wn a n c e; have := hu.size; exact ⟨by omega, q.2⟩⟩
theorem KeptD.chg {S : Nat → Prop} {w wr wr' : World} {p : Nat} {d : Dsk} {F : Nat → Prop} (h : KeptD w wr p d F) (hc : Chg S wr wr') (hS : ∀ j, F j → ¬ S j) (hn : ∀ j, S j → w.heap.size ≤ j) : KeptD w wr' p d F :=
  ⟨h.disk.chg hc hS, h.new, ((h.up.chg fun j => False).trans hc fun j hj e => absurd (hn j e) (by omega)).up fun _ _ e => e⟩
theorem Two.store {w wr : World} {pa pb SB k n : Nat} {d : Dsk} {Fa Fb : Nat → Prop} {v3 : Value} {xs : List Value} (h : Two w wr pa pb SB k n d Fa Fb v3 xs) (hk : k < n) : Two w (wr.setCell ⟨SB, k, none⟩ (.bool true)) pa pb SB (k + 1) n d Fa Fb v3 xs := by
  have C := chg_set wr SB k none (.bool true)
  refine ⟨h.a.chg C (fun j a e => h.sva (e ▸ a)) (fun j e => e ▸ h.svn), h.b.chg C (fun j a e => h.svb (e ▸ a)) (fun j e => e ▸ h.svn), h.dis, ?_, h.svn, h.sva, h.svb, h.ws.chg C fun a n c e => (h.wn a n c e).2.2.2, fun a n c e => by have := h.wn a n c e; have := C.size; exact ⟨by omega, (h.wn a n c e).2⟩⟩
  rw [← tf_set n k hk]
  exact h.sv.set k _
theorem Two.both {w wr w5 w6 : World} {pa pb SB k n : Nat} {d d' : Dsk} {Fa Fb : Nat → Prop} {v3 : Value} {xs : List Value} (h : Two w wr pa pb SB k n d Fa Fb v3 xs) (hDa : DiskR w5 pa d' (Fx Fa wr w5)) (hCa : Chg Fa wr w5) (hDb : DiskR w6 pb d' (Fx Fb w5 w6)) (hCb : Chg Fb w5 w6) :
    Two w w6 pa pb SB k n d' (Fx Fa wr w5) (Fx Fb w5 w6) v3 xs := by
  have hz := hCa.size
  have hz2 := hCb.size
  have hw := h.a.up.size
  have nab : ∀ j, Fx Fa wr w5 j → ¬ Fb j := fun j e e2 => by
    rcases e with e | e
    · exact h.dis j e e2
    · have := h.b.disk.lt j e2; omega
  have A5 := h.a.fx hDa hCa
  have svl := h.sv.lt
  refine ⟨A5.chg hCb nab h.b.new, (h.b.chg hCa (fun j a e => h.dis j e a) h.a.new).fx hDb hCb, fun j e e2 => ?_, (h.sv.chg hCa h.sva).chg hCb h.svb, h.svn, fun e => ?_, fun e => ?_, (h.ws.chg hCa fun a n c e => (h.wn a n c e).2.1).chg hCb fun a n c e => (h.wn a n c e).2.2.1, fun a n c e => ?_⟩
  · rcases e2 with e2 | e2
    · exact nab j e e2
    · have := hDa.lt j e; omega
  · rcases e with e | e; exact h.sva e; omega
  · rcases e with e | e; exact h.svb e; omega
  · obtain ⟨q1, q2, q3, q4⟩ := h.wn a n c e
    exact ⟨by omega, fun e => by rcases e with e | e; exact q2 e; omega, fun e => by rcases e with e | e; exact q3 e; omega, q4⟩

set_option maxRecDepth 100000 in
set_option maxHeartbeats 4000000 in
theorem walk6 (a2 : Option Addr) (len2 cap2 : Nat) (z2 : List Int) (w : World) (hE : Elems w a2 len2 z2) (hl : len2 ≤ cap2) (hm : cap2 ≤ 9223372036854775807) (hnil : a2 = none → cap2 = 0) :
    Calls Try.prog 5 #[.slice a2 len2 cap2] w fun e w' => e = .returned (.bool true) ∧ Up w w' := by
  obtain ⟨i0, hi, hz0, hz1, hz2⟩ := info_parts Try.infoI
  obtain ⟨i1, hj, hj0, hj1, hj2⟩ := info_parts Try.infoBool
  have HE := Lib.hid hE
  clear hE
  obtain ⟨m, hmin', hm1, hm2⟩ := min_len 60 len2
  have hmin : (if (60 : Int) < (len2 : Int) then (60 : Int) else (len2 : Int)) = (m : Int) := hmin'
  clear hmin'
  have hmk : ∀ (n : Nat) (w : World), n ≤ 100 → (Instr.makeSlice 40 (.int .i64 n) (.int .i64 n)).run Try.prog w = .ok (.slice (some ⟨w.heap.size, 0, none⟩) n n) (w.alloc (.cells (tf n 0).toArray 4)) := fun n w hn => by
    have h := run_make (P := Try.prog) w 40 4 i1 (.bool false) Try.underlying40 hj hj0 .i64 .i64 n n (by omega) (Int.le_refl _) (by rw [hj2]; omega) (by omega)
    rw [hj1, Int.toNat_natCast, Nat.mul_one] at h
    rw [← made_tf]
    exact h
  have HMK := Lib.hid hmk
  clear hj hj0 hj1 hj2 hmk
  have APP : Hid (∀ w1, Up w w1 → ∃ xs : List Value, xs.length = m * 1 ∧ xs = (List.range m).map (fun i => Value.int .i64 (z2.getD i 0)) ∧ (∀ y, a2 = some y → ∀ j u, xs[j]? = some u → w1.cell? (y.add j) = some u) ∧ ∀ u ∈ xs, u.oneCell' = true) := fun w1 hu => by
    refine ⟨_, by simp, rfl, fun y hy j u hju => ?_, fun u hu => by obtain ⟨x, _, rfl⟩ := List.mem_map.1 hu; rfl⟩
    have hjm : j < m := by have := (List.getElem?_eq_some_iff.1 hju).1; simpa using this
    obtain ⟨b, off, he, hb, hc⟩ := (elems_up HE.out hu) j (by omega)
    rw [hy] at he
    cases he
    rw [Addr.add_lit]
    simp [hjm] at hju
    rw [hc, ← hju]; simp [List.getD]
  go_enter Try.func5, Try.ntmps5
  go_wp2_with fail
  refine (new_any 4 _ (by omega) (by omega)).mono ?_
  rintro e w1 ⟨pa, rfl, hDa, hua⟩
  go_wp2_with fail
  refine (new_any 4 _ (by omega) (by omega)).mono ?_
  rintro e w2 ⟨pb, rfl, hDb, hub⟩
  have KA := (KeptD.of_new hDa hua).grow hub
  have KB : KeptD w w2 pb (.new 4) fun k => w1.heap.size ≤ k ∧ k < w2.heap.size := ⟨hDb, fun j e => Nat.le_trans hua.size e.1, hua.trans hub⟩
  have hdd : (Dsk.new 4).dur.length = 4 := by simp [Dsk.new]
  have hpp : (Dsk.new 4).pend.length = 0 := rfl
  clear hDa hDb
  have U2 : Up w2 (w2.alloc (.cells #[.int .i64 5] 3)) := (Up.refl _).alloc _
  obtain ⟨xs, hxl, hxe, hxc, hx1⟩ := APP.out _ ((hua.trans hub).trans U2)
  have XE := Lib.hid hxe
  have XL := Lib.hid hxl
  have XC := Lib.hid hxc
  have X1 := Lib.hid hx1
  have HN := Lib.hid hnil
  have O1 : Hid ((w2.alloc (.cells #[.int .i64 5] 3)).ownsRow w2.heap.size 3 1 (.slice (some ⟨w2.heap.size, 0, none⟩) 1 1) 1 [.int .i64 5]) := own_one w2 _ _
  clear hxe hxl hxc hx1 hnil hua hub
  go_wp2_with (at_builtin; refine wl_append_any rfl (.tmp 38) (.tmp 43) 22 rfl w2.heap.size 3 i0 (.int .i64 0) 1 8 Try.underlying22 hi hz0 hz1 hz2 rfl (by decide) _ _ _ rfl O1.out a2 m cap2 xs rfl ?n1 XL.out XC.out X1.out (by unfold maxLen; omega) (by omega) (by simp) ?_)
  case n1 => intro h; exact ⟨by have := HN.out h; omega, HN.out h⟩
  intro v3 w3 hown3 hg3 _
  have U3 : Up w2 w3 := Below.grown U2 hg3 (by simp) fun j hj => by simp [Value.ownBlock] at hj; omega
  obtain ⟨n, hn⟩ : ∃ n, n = 1 + m := ⟨_, rfl⟩
  rw [← hn] at hown3
  have hn1 : 1 ≤ n := by omega
  have hn61 : n ≤ 61 := by omega
  have WL : Hid (Src w3 1 v3 n ([.int .i64 5] ++ xs)) := own_src hown3
  have WV : Hid (∀ j, j < n → ∃ x : Int, ([Value.int .i64 5] ++ xs)[j]? = some (.int .i64 x)) := fun j hj => by
    rw [XE.out]
    cases j with
    | zero => exact ⟨5, rfl⟩
    | succ j => exact ⟨z2.getD j 0, by simp [show j < m by omega]⟩
  obtain ⟨v3a, v3c, rfl, hv31, hv32, _⟩ := own_form hown3
  have hmk := fun w => HMK.out n w (by omega)
  have hne : ((n : Int) != (n : Int)) = false := by simp
  have hne2 : (n != n) = false := by simp
  have KA3 := Lib.hid (KA.grow U3)
  have KB3 := Lib.hid (KB.grow U3)
  have hw12 := KB.up.size
  have hz12 : w1.heap.size ≤ w2.heap.size := by have := KB.disk.at'; obtain ⟨_, _, _, _, hp, hb, _⟩ := this; have := hb.lt; omega
  have WN : ∀ a n c, Value.slice v3a n v3c = .slice (some a) n c → a.block < w3.heap.size ∧ w2.heap.size ≤ a.block := fun a n c e => by
    have := (own_ty hown3) a.block (by simp only [Value.slice.injEq] at e; rw [e.1]; rfl)
    exact ⟨this.1.lt, this.2⟩
  have T0 : Two w (w3.alloc (.cells (tf n 0).toArray 4)) pa pb w3.heap.size 0 n (.new 4) (fun k => w.heap.size ≤ k ∧ k < w1.heap.size) (fun k => w1.heap.size ≤ k ∧ k < w2.heap.size) (.slice v3a n v3c) ([.int .i64 5] ++ xs) := by
    have U4 := (Up.refl w3).alloc (.cells (tf n 0).toArray 4)
    have hz3 := U3.size
    refine ⟨KA3.out.grow U4, KB3.out.grow U4, fun j e e2 => by omega, Blk.new w3 _ _, KA3.out.up.size, fun e => by omega, fun e => by omega, WL.out.up U4, fun a n' c e => ?_⟩
    have e' := e
    simp only [Value.slice.injEq] at e
    obtain ⟨e1, rfl, rfl⟩ := e
    have := WN a n v3c (by rw [e1])
    refine ⟨by rw [World.size_alloc]; omega, fun q => by omega, fun q => by omega, by omega⟩
  clear hown3 hg3 U2 KA KB WN KA3 KB3 hw12 hz12
  clear hn hmin
  go_wp2
  obtain ⟨SB, hSB⟩ : ∃ SB, SB = w3.heap.size := ⟨_, rfl⟩
  rw [← hSB] at T0 ⊢
  clear hSB
  go_loopw [50] (fun iv wr => ∃ (k : Nat) (d : Dsk) (Fa Fb : Nat → Prop), k ≤ n ∧ iv = .int .i64 k ∧ Two w wr pa pb SB k n d Fa Fb (.slice v3a n v3c) ([.int .i64 5] ++ xs) ∧ d.dur.length = 4 ∧ d.pend.length = k) (fun iv _ => n - (intOf iv).toNat)
  case atStart => exact ⟨0, _, _, _, by omega, rfl, T0, hdd, hpp⟩
  case round =>
    clear T0 hdd hpp
    obtain ⟨k, d, Fa, Fb, hk, rfl, hT, hdl, hpl⟩ := hrel
    have TT := Lib.hid hT
    have DL := Lib.hid hdl
    have PL := Lib.hid hpl
    clear hT hdl hpl
    by_cases hlt : k < n
    · obtain ⟨x, hx⟩ := WV.out k hlt
      obtain ⟨b, off, hv, hcell⟩ : ∃ b off, v3a = some ⟨b, off, none⟩ ∧ wr.cell? ⟨b, off + k, none⟩ = some (.int .i64 x) := by
        rcases TT.out.ws.2 with ⟨_, h0⟩ | ⟨b, off, cap, hv, _, _, h3⟩
        · omega
        · simp only [Value.slice.injEq] at hv
          exact ⟨b, off, hv.1, (h3 k _ hx).2⟩
      subst hv
      have csv := TT.out.sv.cell k
      rw [tf_at n k hlt] at csv
      have fsv := TT.out.sv.free k
      obtain ⟨q, hq⟩ := Int.eq_ofNat_of_zero_le (modV_nonneg (wrap64 (x.tdiv 16)) 4 (by decide))
      have hq4 : q < 4 := by have := modV_lt (wrap64 (x.tdiv 16)) 4 (by decide); omega
      have HQ := Lib.hid hq
      clear hq hx
      go_wp2_with (go_at_call 15; refine (mod_any _ _ _ (by decide) (by decide)).mono ?_; rintro e w' ⟨rfl, rfl⟩; rw [HQ.out])
      have T1 := (TT.out.store hlt).grow ((Up.refl _).alloc (.cells #[.int .u8 (x % 256), .int .u8 (x / 256 % 256)] 5))
      have hz : (wr.setCell ⟨SB, k, none⟩ (.bool true)).heap.size = wr.heap.size := by simp [World.setCell]
      have hbv := bytes_new (wr.setCell ⟨SB, k, none⟩ (.bool true)) [x % 256, x / 256 % 256] (by simp)
      rw [hz] at hbv
      refine (write_any pa q d Fa _ [x % 256, x / 256 % 256] _ T1.a.disk (by rw [DL.out]; exact hq4) hbv (by simp) (by rw [PL.out]; omega)).mono ?_
      rintro e w5 ⟨rfl, hDa, hCa⟩
      have hbv5 := Lib.hid (hbv.chg hCa fun a n c e h => by
        simp only [Value.slice.injEq, Option.some.injEq] at e
        have := TT.out.a.disk.lt a.block h
        rw [← e.1] at this
        simp at this)
      have hDb5 := T1.b.disk.chg hCa fun j a e => T1.dis j e a
      go_wp2_with (go_at_call 15; refine (mod_any _ _ _ (by decide) (by decide)).mono ?_; rintro e w' ⟨rfl, rfl⟩; rw [HQ.out])
      refine (write_any pb q d Fb _ [x % 256, x / 256 % 256] _ hDb5 (by rw [DL.out]; exact hq4) hbv5.out (by simp) (by rw [PL.out]; omega)).mono ?_
      rintro e w6 ⟨rfl, hDb, hCb⟩
      have T2 := Lib.hid (T1.both hDa hCa hDb hCb)
      clear hDa hCa hDb hCb T1 hbv hDb5
      go_wp2
      go_roundw
      case rel => exact ⟨k + 1, _, _, _, by omega, by go_num, T2.out, DL.out, by simp [Dsk.write, PL.out]⟩
      case measure => simp [intOf]; omega
    · have hkn : n ≤ k := by omega
      have PN : Hid (d.pend.length = n) := by unfold Hid; rw [PL.out]; omega
      have TN : Hid (Two w wr pa pb SB n n d Fa Fb (.slice v3a n v3c) ([.int .i64 5] ++ xs)) := by
        have h := TT.out
        rw [show k = n by omega] at h
        exact h
      go_wp2_with fail
      refine (pending_any pa d Fa _ TN.out.a.disk).mono ?_
      rintro e w' ⟨rfl, rfl⟩
      rw [PN.out]
      go_wp2_with fail
      refine (flush_any pa d Fa _ TN.out.a.disk).mono ?_
      rintro e w5 ⟨rfl, hDa, hCa⟩
      have hDb5 := TN.out.b.disk.chg hCa fun j a e => TN.out.dis j e a
      have SVB : Hid (Bools w5 (.slice (some ⟨SB, 0, none⟩) n n) (List.replicate n true)) := by
        have h := TN.out.sv.chg hCa TN.out.sva
        refine ⟨_, n, by simp, by simp, by omega, (fun h => by cases h), fun i hi => ⟨SB, 0, rfl, ?_⟩⟩
        have hi' : i < n := by simpa using hi
        rw [Nat.mul_one, Nat.zero_add]
        exact h.at (by rw [tf_at n n hi']; simp [hi'])
      go_wp2_with fail
      refine (crash_any pb d Fb (List.replicate n true) _ _ hDb5 SVB.out (fun a n' c h e => by
        simp only [Value.slice.injEq, Option.some.injEq] at h
        rw [← h.1] at e
        exact TN.out.svb e)).mono ?_
      rintro e w6 ⟨rfl, hDb, hCb⟩
      rw [crash_all d _ (fun i hi => by rw [PN.out] at hi; simp [List.getD, hi])] at hDb
      have T2 := TN.out.both hDa hCa hDb hCb
      have DF : Hid (d.flush.dur.length = 4) := by unfold Hid; show (applyW d.dur d.pend).length = 4; rw [applyW_len]; exact DL.out
      have PF : Hid (d.flush.pend = []) := rfl
      clear hDa hCa hDb hCb hDb5
      generalize d.flush = df at *
      generalize Fx Fa _ _ = Fa2 at *
      generalize Fx Fb _ _ = Fb2 at *
      have T2 := Lib.hid T2
      go_wp2
      go_loopw [91] (fun iv wr => ∃ i : Nat, i ≤ 4 ∧ iv = .int .i64 i ∧ Up w6 wr) (fun iv _ => 4 - (intOf iv).toNat)
      case atStart => exact ⟨0, by omega, rfl, Up.refl _⟩
      case round =>
        obtain ⟨i, hi4, rfl, hu⟩ := hrel
        by_cases hil : i < 4
        · go_wp2_with fail
          refine (read_any pa i df Fa2 _ (T2.out.a.disk.up hu) (by rw [DF.out]; exact hil) (by rw [DF.out]; decide) (by rw [PF.out]; simp)).mono ?_
          rintro e w7 ⟨v, rfl, hv, hu7⟩
          obtain ⟨av, cv, rfl, _, _, _⟩ := own_form hv
          have Y1 := Lib.hid (own_bytes hv)
          have HU7 := Lib.hid (hu.trans hu7)
          clear hv hu hu7
          go_wp2_with fail
          refine (read_any pb i df Fb2 _ (T2.out.b.disk.up HU7.out) (by rw [DF.out]; exact hil) (by rw [DF.out]; decide) (by rw [PF.out]; simp)).mono ?_
          rintro e w8 ⟨v, rfl, hv, hu8⟩
          obtain ⟨av', cv', rfl, _, _, _⟩ := own_form hv
          have Y2 := Lib.hid (own_bytes hv)
          have Y3 := Lib.hid (Y1.out.grow byteR_grows hu8)
          have HU8 := Lib.hid (HU7.out.trans hu8)
          clear hv hu8
          go_wp2_with fail
          refine (equalB_same _ _ (df.read i) _ Y3.out Y2.out).mono ?_
          rintro e w9 ⟨rfl, rfl⟩
          go_wp2
          go_roundw
          case rel => exact ⟨i + 1, by omega, by go_num, HU8.out⟩
          case measure => simp [intOf]; omega
        · go_wp2
          go_ret
          exact ⟨rfl, T2.out.a.up.trans hu⟩
end Go.Proofs.Ytmaeeidaegigcaa.Dk
