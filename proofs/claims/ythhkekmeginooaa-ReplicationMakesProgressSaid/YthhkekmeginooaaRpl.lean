/- Replication: InFlight. -/
import Derived.Test.YthhkekmeginooaaRpk
namespace Go.Proofs.Ythhkekmeginooaa.Rp
open Go Go.RowKit Hp
set_option linter.unusedVariables false

section
variable {w : World} {p : Nat} {C : Clu} {F : Nat → Prop}
set_option maxRecDepth 100000 in
set_option maxHeartbeats 2000000 in
theorem flight_any (h : CluR w p C F) (hn : C.net.length ≤ 100) (hlen : ∀ m ∈ C.net, m.ents.length ≤ 60) :
    Calls Try.prog 19 #[.pointer (some ⟨p, 0, none⟩)] w fun e w' => ∃ a c, e = .returned (.slice a C.net.length c) ∧ Hid (Up w w') := by
  obtain ⟨sv, lv, nw, ss, ms, h⟩ := h
  have H := Lib.hid h
  have hmn : ms.length = C.net.length := h.mlen
  rw [← hmn] at hn ⊢
  have HLEN : Hid (∀ m ∈ ms, m.ents.length ≤ 60) := fun m hm => by
    have : erM m ∈ C.net := by rw [← h.em]; exact List.mem_map_of_mem hm
    exact hlen _ this
  clear hlen hmn
  obtain ⟨na, nc, rfl, hn1, _, hn3⟩ := own_form h.net
  have c2 := (h.blk.at (i := 2) rfl).2
  have hpl := h.blk.lt
  obtain ⟨im, him, hm0, hm1, hm2⟩ := info_parts Try.infoM
  clear h
  go_enter Try.func19, Try.ntmps19
  go_wp2
  go_loopw [3, 11] (fun s3 iv wr => ∃ (k : Nat) (xs : List Value), k ≤ ms.length ∧ iv = .int .i64 (k : Int) ∧ Hid (wr.ownsRow 0 59 8 s3 k xs) ∧ Hid (∀ j, s3.ownBlock = some j → w.heap.size ≤ j) ∧ Hid (Up w wr)) (fun _ iv _ => ms.length - (intOf iv).toNat)
  case atStart => exact ⟨0, [], Nat.zero_le _, rfl, World.ownsRow_nil _ _ _ _, fun j hj => (by cases hj), Up.refl w⟩
  case round =>
    obtain ⟨k, xs, hk, rfl, HO, HB, HU⟩ := hrel
    obtain ⟨va, vc, rfl, _, _, _⟩ := own_form HO.out
    by_cases hlt : k < ms.length
    · have hki : (k : Int) < (ms.length : Int) := by omega
      have HR := Lib.hid (H.out.up HU.out)
      obtain ⟨g, c, hv, _, hgl, hcell⟩ := msg_cells HR.out k hlt
      simp only [Value.slice.injEq, true_and] at hv
      obtain ⟨rfl, rfl⟩ := hv
      have hev := HR.out.ents _ (List.getElem_mem hlt)
      have hl6 := HLEN.out _ (List.getElem_mem hlt)
      obtain ⟨m, hm⟩ : ∃ m, m = ms[k] := ⟨_, rfl⟩
      rw [← hm] at hcell hev hl6
      obtain ⟨kind, frm, tgt, term, idx, prev, com, ev, ents⟩ := m
      simp only at hev hl6
      obtain ⟨ea, ec, rfl, _, _, _⟩ := own_form hev
      have d0 := hcell 0 _ rfl
      have d1 := hcell 1 _ rfl
      have d2 := hcell 2 _ rfl
      have d3 := hcell 3 _ rfl
      have d4 := hcell 4 _ rfl
      have d5 := hcell 5 _ rfl
      have d6 := hcell 6 _ rfl
      have d7 := hcell 7 _ rfl
      rw [Nat.add_zero] at d0
      have HCL : Hid (∀ W, Up wr W → Calls Try.prog 21 #[.slice ea ents.length ec] W fun e w' => ∃ x y, e = .returned (.slice x ents.length y) ∧ Hid (Up W w')) := fun W hW => by
        refine (cloneE _ ents.length (enC ents) W (own_src (own_up hev hW)) (enC_one ents) (by omega)).mono ?_
        rintro e w' ⟨v', rfl, a1, a2⟩
        obtain ⟨x, y, rfl, _⟩ := own_form a1
        exact ⟨x, y, rfl, a2⟩
      clear hcell hev hm
      go_upto_region 6 with (first
        | (go_at_call 21; refine (HCL.out _ ((Up.refl wr).alloc _)).mono ?_; rintro e w3 ⟨x3, y3, rfl, U3⟩; have B3 := (Blk.new wr #[nv kind, nv frm, nv tgt, nv term, nv idx, nv prev, nv com, .slice ea ents.length ec] 59).up U3.out; have e7 := (B3.at (i := 7) rfl).2; have b7 := B3.free 7; have bl := B3.lt; have HB3 := Lib.hid B3; clear B3)
        | fail)
      have B4 := Blk.set HB3.out 7 (.slice x3 ents.length y3)
      have c4 := chg_set w3 wr.heap.size 7 none (.slice x3 ents.length y3)
      have U4 : Hid (Up wr (w3.setCell ⟨wr.heap.size, 7, none⟩ (.slice x3 ents.length y3))) := Up.set (((Up.refl wr).alloc _).trans U3.out) (Nat.le_refl _) 7 none _
      generalize w3.setCell ⟨wr.heap.size, 7, none⟩ (.slice x3 ents.length y3) = w4 at *
      generalize wr.heap.size = bx at *
      have f0 := (B4.at (i := 0) rfl).2
      have f1 := (B4.at (i := 1) rfl).2
      have f2 := (B4.at (i := 2) rfl).2
      have f3 := (B4.at (i := 3) rfl).2
      have f4 := (B4.at (i := 4) rfl).2
      have f5 := (B4.at (i := 5) rfl).2
      have f6 := (B4.at (i := 6) rfl).2
      have f7 := (B4.at (i := 7) rfl).2
      have fl := B4.lt
      obtain ⟨news, hnews⟩ : ∃ news : List Value, news = [nv kind, nv frm, nv tgt, nv term, nv idx, nv prev, nv com, .slice x3 ents.length y3] := ⟨_, rfl⟩
      have HNEWS := Lib.hid (cells_new w4 #[nv kind, nv frm, nv tgt, nv term, nv idx, nv prev, nv com, .slice x3 ents.length y3] 59)
      have O5 : Hid ((w4.alloc (.cells #[nv kind, nv frm, nv tgt, nv term, nv idx, nv prev, nv com, .slice x3 ents.length y3] 59)).ownsRow 0 59 8 (.slice va k vc) k xs) := own_up HO.out (U4.out.trans ((Up.refl w4).alloc _))
      have U5 := Lib.hid (HU.out.trans (U4.out.trans ((Up.refl w4).alloc (.cells #[nv kind, nv frm, nv tgt, nv term, nv idx, nv prev, nv com, .slice x3 ents.length y3] 59))))
      clear d0 d1 d2 d3 d4 d5 d6 d7 e7 b7 B4 c4 hnews
      go_wp2_with (at_builtin; refine wpList_append_own_at _ rfl (.tmp 19) (.tmp 21) 41 rfl 0 59 im _ 8 80 Try.underlying41 him hm0 hm1 hm2 rfl (by decide) (.slice va k vc) k _ rfl O5.out ⟨w4.heap.size, 0, none⟩ 1 1 [nv kind, nv frm, nv tgt, nv term, nv idx, nv prev, nv com, .slice x3 ents.length y3] rfl rfl HNEWS.out (by intro u' hu'; simp at hu'; rcases hu' with rfl | rfl | rfl | rfl | rfl | rfl | rfl | rfl <;> rfl) (by unfold maxLen; omega) (by omega) (by omega) ?_)
      intro v6 w6 hown6 hg6 _ hat6
      have O6 := Lib.hid hown6
      have U6 : Hid (Up w w6) := Below.grown U5.out hg6 U5.out.size fun j hj => HB.out j hj
      have B6 : Hid (∀ j, v6.ownBlock = some j → w.heap.size ≤ j) := fun j hj => by
        rcases hat6 with e | e
        · rw [e] at hj; exact HB.out j hj
        · rw [e] at hj
          obtain rfl := Option.some.inj hj
          have := U5.out.size
          simpa using this
      clear hown6 hg6 hat6
      go_wp2
      go_roundw
      case rel => exact ⟨k + 1, _, hlt, by go_num, O6, B6, U6⟩
      case measure => simp [intOf]; omega
    · obtain rfl : k = ms.length := by omega
      go_wp2
      go_ret
      exact ⟨va, vc, rfl, HU⟩
end
end Go.Proofs.Ythhkekmeginooaa.Rp
