/- Recovery: after a crash every page has the value that was committed last. -/
import Derived.Test.YtjalpppmgoepiaaRvv
import Derived.Test.YtjalpppmgoepiaaRvw
namespace Go.Proofs.Ytjalpppmgoepiaa.Rv
open Go Go.RowKit Hp
set_option linter.unusedVariables false

theorem EI.crh {E : Eng} (h : EI E) (h1 : E.log.length ≤ 10000) (h2 : E.last ≤ 1000) : CrH E :=
  ⟨h.fl, h1, by rw [h.dl]; omega, by rw [h.dl]; omega, fun r hr _ => by
    obtain ⟨l1, l2, e⟩ := List.append_of_mem hr
    rw [h.dl]
    exact (h.lg l1 r l2 e).pg, fun r hr => by have := h.la r hr; omega⟩
/-- The value of a page, where nobody owns it. -/
theorem EI.val {E : Eng} (h : EI E) (ho : ∀ p, (lsl E.log).own p = 0) {k : Nat} (hk : k < 6) (hb : k < E.buf.length) : E.buf[k].1 = (lsl E.log).cm k := by
  have h1 := rp_vl E.log h.lg k hk
  rw [← h.bf] at h1
  rw [← (ki _ h.lg).k1 k (ho k), ← h1]
  unfold at_
  simp [List.getD, hb]
theorem EI.bl {E : Eng} (h : EI E) : E.buf.length = 6 := by rw [h.bf, rp_len]
theorem PI.crash {E : Eng} {C : List Int} {A : List Nat} {g : Nat → Nat → Option Int} (h : PI E C A g 150) {k : Nat} (hk : k < 6) (hb : k < (crE E).buf.length) : (crE E).buf[k].1 = C.getD k 0 := by
  obtain ⟨e1, e2, e3, _⟩ := h.ei.crash
  rw [e1.val e2 hk hb, e3, h.cm k hk]
theorem PI.crh {E : Eng} {C : List Int} {A : List Nat} {g : Nat → Nat → Option Int} (h : PI E C A g 150) : CrH E := h.ei.crh (by have := h.ph; omega) (by have := h.la; omega)
theorem Try.arr6 : Try.prog.underlying 28 = some (.array 6 3) := by kernel_rfl
theorem Try.intT : ∃ d, Try.prog.underlying 3 = some d ∧ d.isRow = false := ⟨.int .i64, by kernel_rfl, rfl⟩
theorem Try.intS : (Try.prog.info? 3).map (·.size) = some 1 := by kernel_rfl
/-- The run, as a law sees it. -/
theorem run_law (p : Nat) (F : Nat → Prop) (a : Option Addr) (len cap : Nat) (zs : List Int) (w W : World) (h : OE w W p (newE 6) F) (hE : Elems w a len zs) (hl : len ≤ cap) (hm : cap ≤ 9223372036854775807) :
    Calls Try.prog 8 #[.pointer (some ⟨p, 0, none⟩), .slice a len cap] W fun e w' => ∃ E c0 c1 c2 c3 c4 c5 A g G, e = .returned (.tuple #[.agg #[.int .i64 c0, .int .i64 c1, .int .i64 c2, .int .i64 c3, .int .i64 c4, .int .i64 c5], .bool true]) ∧ PI E [c0, c1, c2, c3, c4, c5] A g 150 ∧ OE w w' p E G := by
  refine (run_any p F a len cap zs w W h.er hE hl hm h.up h.gf).mono fun e w' ⟨E, C, A, g, G, h1, h2, h3, h4, h5⟩ => ?_
  obtain ⟨c0, c1, c2, c3, c4, c5, rfl⟩ := six h2.cl
  exact ⟨E, c0, c1, c2, c3, c4, c5, A, g, G, h1, h2, h3, fun j hj => by
    have := h.up.size
    rcases h4 j hj with q | q
    · exact h.gf j q
    · omega, ((h.up.chg F).trans h5 fun _ _ e => e).up fun k hk e => by have := h.gf k e; omega⟩
set_option maxRecDepth 100000 in
set_option maxHeartbeats 4000000 in
theorem walk18 (a : Option Addr) (len cap : Nat) (zs : List Int) (w : World) (hE : Elems w a len zs) (hl : len ≤ cap) (hm : cap ≤ 9223372036854775807) :
    Calls Try.prog 3 #[.slice a len cap] w fun e w' => e = .returned (.bool true) ∧ Up w w' := by
  have HRUN := Lib.hid (fun p F W h => run_law p F a len cap zs w W h hE hl hm)
  have HU6 := Lib.hid Try.arr6
  obtain ⟨dI, hI, hdI⟩ := Try.intT
  have HI3 := Lib.hid hI
  have HS3 := Lib.hid Try.intS
  clear hE hI
  go_enter Try.func3, Try.ntmps3
  go_wp2_with (first
    | (go_at_call 6; refine (works_any _).mono ?_; rintro e w1 ⟨rfl, h1⟩; have U1 := Lib.hid h1; clear h1)
    | (go_at_call 7; refine (new_any 6 (by decide) (by decide) _).mono ?_; rintro e w2 ⟨p, rfl, F, h1, h2, h3⟩; have O2 : Hid (OE w w2 p (newE 6) F) := ⟨h1, fun j hj => Nat.le_trans U1.out.size (h2 j hj), U1.out.trans h3⟩; clear h1 h2 h3)
    | (go_at_call 8; refine (HRUN.out _ _ _ O2.out).mono ?_; rintro e w3 ⟨E, c0, c1, c2, c3, c4, c5, A, g, G, rfl, h1, h2⟩; have P3 := Lib.hid h1; have O3 := Lib.hid (h2.upw ((Up.refl w3).alloc (.cells #[.int .i64 c0, .int .i64 c1, .int .i64 c2, .int .i64 c3, .int .i64 c4, .int .i64 c5] 28))); have HG3 := Lib.hid h2.er.lt; clear h1 h2)
    | (go_at_call 9; refine (crash_any p E G _ O3.out.er P3.out.crh).mono ?_; rintro e w4 ⟨rd, rfl, h5⟩; have O4 := Lib.hid (O3.out.eng h5)
       have B4 := Lib.hid ((Blk.new w3 #[.int .i64 c0, .int .i64 c1, .int .i64 c2, .int .i64 c3, .int .i64 c4, .int .i64 c5] 28).chg h5.2 (fun e => by have := HG3.out _ e; omega))
       have x0 := (B4.out.at (i := 0) rfl).2
       have x1 := (B4.out.at (i := 1) rfl).2
       have x2 := (B4.out.at (i := 2) rfl).2
       have x3 := (B4.out.at (i := 3) rfl).2
       have x4 := (B4.out.at (i := 4) rfl).2
       have x5 := (B4.out.at (i := 5) rfl).2
       have xl := B4.out.lt
       clear h5)
    | fail)
  have HV := Lib.hid (fun k hk hb => P3.out.crash (k := k) hk hb)
  have HBL := Lib.hid P3.out.ei.crash.1.bl
  generalize crE E = E2 at *
  go_loopw [34] (fun kv wr => ∃ k : Nat, k ≤ 6 ∧ kv = .int .i64 k ∧ Hid (OE w wr p E2 (Fx G (w3.alloc (.cells #[.int .i64 c0, .int .i64 c1, .int .i64 c2, .int .i64 c3, .int .i64 c4, .int .i64 c5] 28)) w4))) (fun kv _ => 6 - (intOf kv).toNat)
  case atStart => exact ⟨0, by omega, rfl, O4.out⟩
  case round =>
    obtain ⟨k, hk, rfl, HO⟩ := hrel
    clear x0 x1 x2 x3 x4 x5 xl
    by_cases hlt : k < 6
    · have hki : (k : Int) < 6 := by omega
      have hb : k < E2.buf.length := by rw [HBL.out]; exact hlt
      have HRD := read_any p E2 _ k wr HO.out.er hb
      rw [HV.out k hlt hb] at HRD
      have HRD := Lib.hid HRD
      have hx := iv_get [c0, c1, c2, c3, c4, c5] k (by simpa using hlt)
      have HX : Hid (([Value.int .i64 c0, .int .i64 c1, .int .i64 c2, .int .i64 c3, .int .i64 c4, .int .i64 c5])[k]? = some (.int .i64 ([c0, c1, c2, c3, c4, c5].getD k 0))) := hx
      clear hx hb
      generalize ([c0, c1, c2, c3, c4, c5].getD k 0) = vk at *
      go_wp2_with (first
        | (with_reducible refine wl_index_one rfl 28 _ _ rfl [.int .i64 c0, .int .i64 c1, .int .i64 c2, .int .i64 c3, .int .i64 c4, .int .i64 c5] k _ 6 3 _ rfl rfl HU6.out hlt HI3.out hdI HS3.out HX.out ?_)
        | (go_at_call 10; refine HRD.out.mono ?_; rintro e w6 ⟨rfl, h6⟩; have O6 := Lib.hid (HO.out.upw h6); clear h6)
        | fail)
      go_roundw
      case rel => exact ⟨k + 1, by omega, by go_num, O6.out⟩
      case measure => simp [intOf]; omega
    · obtain rfl : k = 6 := by omega
      go_wp2
      go_ret
      exact ⟨rfl, HO.out.up⟩
end Go.Proofs.Ytjalpppmgoepiaa.Rv
