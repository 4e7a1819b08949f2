/- Replication: a step of a history. -/
import Derived.Test.YthhkekmeginooaaRpv
import Derived.Test.YthhkekmeginooaaEl
import Derived.Test.YthhkekmeginooaaRpl
namespace Go.Proofs.Ythhkekmeginooaa.Rp
open Go Go.RowKit Hp
set_option linter.unusedVariables false

theorem modV_nat (k n : Int) (h : 0 < n) : ∃ i : Nat, modV k n = (i : Int) ∧ (i : Int) < n := ⟨(modV k n).toNat, by have := modV_nonneg k n h; omega, by have := modV_nonneg k n h; have := modV_lt k n h; omega⟩
/-- Messages are small. -/
def NetS (C : Clu) : Prop := ∀ m ∈ C.net, m.ents.length ≤ 3
structure Next (C C' : Clu) : Prop where
  n : C'.srv.length = C.srv.length
  net : NetS C → NetS C'
  ok : ∀ LL ack, Ok C LL ack → ∃ LL' ack', Nx C LL ack C' LL' ack'
theorem Next.refl (C : Clu) : Next C C := ⟨rfl, id, fun _ _ h => ⟨_, _, h.refl⟩⟩
theorem Next.app (C : Clu) (i : Nat) (hi : i < C.srv.length) (y : ByteArray) : Next C (C.appC i y) := by
  unfold Clu.appC
  split
  · rename_i h
    exact ⟨put_n .., id, fun LL ack ok => by obtain ⟨a, b, h1, _⟩ := ok.app i hi h.1 h.2 y; exact ⟨a, b, h1⟩⟩
  · exact Next.refl C
theorem Next.send (C : Clu) (i t : Nat) (hi : i < C.srv.length) (ht : t < C.srv.length) : Next C (C.sendC i t) := by
  unfold Clu.sendC
  split
  · rename_i h
    refine ⟨rfl, fun hn m hm => ?_, fun LL ack ok => ⟨_, _, ok.send i t hi ht h.1 h.2.1 h.2.2⟩⟩
    rcases List.mem_append.1 hm with e | e
    · exact hn m e
    · rw [List.mem_singleton.1 e]
      exact List.length_take_le _ _
  · exact Next.refl C
theorem Next.dropC (C : Clu) (k : Nat) : Next C (C.dropC k) := by
  unfold Clu.dropC
  split
  · rename_i h
    exact ⟨rfl, fun hn m hm => hn m (cut_mem hm), fun LL ack ok => ⟨_, _, ok.drop k h⟩⟩
  · exact Next.refl C
theorem del_net (C : Clu) (m : Msg) : (C.del m).srv.length = C.srv.length ∧ ∀ x ∈ (C.del m).net, x ∈ C.net ∨ x.ents = [] := by
  unfold Clu.del
  split
  · exact ⟨rfl, fun x hx => .inl hx⟩
  · split
    · refine ⟨put_n .., fun x hx => ?_⟩
      unfold Clu.recv at hx
      simp only at hx
      split at hx
      · rcases List.mem_append.1 hx with e | e
        · exact .inl e
        · rw [List.mem_singleton.1 e]; exact .inr rfl
      · exact .inl hx
    · split
      · exact ⟨put_n .., fun x hx => .inl hx⟩
      · exact ⟨rfl, fun x hx => .inl hx⟩
theorem Next.deliver (C : Clu) (k : Nat) : Next C (C.deliver k) := by
  refine ⟨?_, fun hn m hm => ?_, fun LL ack ok => ⟨_, ok.deliver k⟩⟩
  · unfold Clu.deliver
    split
    · exact (del_net _ _).1
    · rfl
  · unfold Clu.deliver at hm
    split at hm
    · rcases (del_net _ _).2 m hm with e | e
      · exact hn m (cut_mem e)
      · rw [e]; exact Nat.zero_le _
    · exact hn m hm
theorem Next.elect (C : Clu) (i : Nat) (hi : i < C.srv.length) (V : List Nat) (hV : ∀ v ∈ V, v < C.srv.length) : Next C (C.electC i V) := by
  refine ⟨?_, fun hn => ?_, fun LL ack ok => ok.elect i hi V hV⟩
  · unfold Clu.electC
    split
    · exact (put_n ..).trans (elts_n _ _ _).1
    · rfl
  · unfold Clu.electC
    split
    · intro m hm
      have e : (C.won i V).net = C.net := (elts_n (oth i V ++ [i]) ({ C with lead := C.lead ++ [i] } : Clu) C.lead.length).2.2
      rw [e] at hm
      exact hn m hm
    · exact hn
def StepPost (p : Nat) (C : Clu) (F : Nat → Prop) (w : World) (e : Ending) (w' : World) : Prop := e = .returned (.tuple #[]) ∧ ∃ C', CluPost p C' F w w' ∧ Next C C'
section
variable {w : World} {p : Nat} {C : Clu} {F : Nat → Prop} {LL : Nat → Lg} {ack : Nat → Nat → Nat}
theorem max_one (x : Nat) : ∃ y : Nat, max (1 : Int) (x : Int) = (y : Int) ∧ (if (1 : Int) < (x : Int) then (x : Int) else 1) = (y : Int) ∧ 1 ≤ y ∧ y ≤ x + 1 := by
  refine ⟨max 1 x, by omega, by split <;> omega, by omega, by omega⟩
set_option maxRecDepth 100000 in
set_option maxHeartbeats 4000000 in
theorem step_any (h : CluR w p C F) (ok : Ok C LL ack) (hs : NetS C) (op : Int) :
    Calls Try.prog 16 #[.pointer (some ⟨p, 0, none⟩), .int .i64 (C.srv.length : Int), .int .i64 op] w fun e w' => StepPost p C F w e w' := by
  have H := Lib.hid h
  have HOK := Lib.hid ok
  have HLT := Lib.hid h.lt
  have hn1 : 1 ≤ C.srv.length := ok.n1
  have hn5 : C.srv.length ≤ 5 := ok.n5
  have HF := Lib.hid (flight_any h ok.net fun m hm => Nat.le_trans (hs m hm) (by decide))
  have hnn := ok.net
  obtain ⟨i, hi1, hi2⟩ := modV_nat (wrap64 (op.tdiv 16)) (C.srv.length : Int) (by omega)
  obtain ⟨y, hy1, hy1b, hy2, hy3⟩ := max_one C.net.length
  obtain ⟨k, hk1, hk2⟩ := modV_nat (wrap64 (op.tdiv 128)) (y : Int) (by omega)
  obtain ⟨t, ht1, ht2⟩ := modV_nat (wrap64 (op.tdiv 128)) (C.srv.length : Int) (by omega)
  obtain ⟨u, hu1, hu2⟩ := modV_nat (wrap64 (op.tdiv 1024)) (C.srv.length : Int) (by omega)
  obtain ⟨z, hz1, hz2⟩ := modV_nat (wrap64 (op.tdiv 128)) 26 (by omega)
  obtain ⟨m, hm1, hm2⟩ := modV_nat op 16 (by omega)
  have M0 := Lib.hid (fun W => mod_any (wrap64 (op.tdiv 16)) (C.srv.length : Int) W (by omega) (by omega))
  have M1 := Lib.hid (fun W => mod_any (wrap64 (op.tdiv 128)) (y : Int) W (by omega) (by omega))
  have M2 := Lib.hid (fun W => mod_any (wrap64 (op.tdiv 128)) (C.srv.length : Int) W (by omega) (by omega))
  have M3 := Lib.hid (fun W => mod_any (wrap64 (op.tdiv 1024)) (C.srv.length : Int) W (by omega) (by omega))
  have M4 := Lib.hid (fun W => mod_any (wrap64 (op.tdiv 128)) 26 W (by omega) (by omega))
  have M5 := Lib.hid (fun W => mod_any op 16 W (by omega) (by omega))
  rw [hi1] at M0
  rw [hk1] at M1
  rw [ht1] at M2
  rw [hu1] at M3
  rw [hz1] at M4
  rw [hm1] at M5
  clear hi1 hk1 ht1 hu1 hz1 hm1 h ok hs
  have hil : i < C.srv.length := by omega
  have htl : t < C.srv.length := by omega
  have hul : u < C.srv.length := by omega
  have HIL := Lib.hid hil
  have HTL := Lib.hid htl
  have HUL := Lib.hid hul
  clear hil htl hul
  have hcv := conv1 (P := Try.prog) 57 9 5 Try.underlying57 Try.underlying5 Try.underlying9
  go_enter Try.func16, Try.ntmps16
  go_upto_region 1 with (first
    | (go_at_call 9; have q9 := U1; clear q9; refine (M1.out _).mono ?_; rintro e w' ⟨rfl, rfl⟩)
    | (go_at_call 19; refine HF.out.mono ?_; rintro e w1 ⟨na, nc, rfl, U1⟩)
    | (go_at_call 9; refine (M0.out _).mono ?_; rintro e w' ⟨rfl, rfl⟩)
    | fail)
  have HC1 := Lib.hid (H.out.up U1.out)
  have FIN : Hid (∀ C' w2, CluPost p C' F w1 w2 → Next C C' → StepPost p C F w (.returned (.tuple #[])) w2) := fun C' w2 h1 h2 => ⟨rfl, C', CluPost.behind U1.out h1 HLT.out, h2⟩
  go_upto_region 3 with (first
    | (go_at_call 9; refine (M5.out _).mono ?_; rintro e w' ⟨rfl, rfl⟩)
    | fail)
  have hcase : (m = 0 ∨ m = 1 ∨ m = 2 ∨ m = 3) ∨ (m = 4 ∨ m = 5 ∨ m = 6 ∨ m = 7) ∨ (m = 8 ∨ m = 9 ∨ m = 10 ∨ m = 11 ∨ m = 12) ∨ m = 13 ∨ (m = 14 ∨ m = 15) := by omega
  clear hm2 hi2 hk2 ht2 hu2 hy1 hy1b
  rcases hcase with hc | hc | hc | rfl | hc
  · have HA := Lib.hid (fun (W : World) (hW : Up w1 W) => app_any (H.out.up (U1.out.trans hW)) HOK.out i HIL.out)
    rcases hc with rfl | rfl | rfl | rfl
    all_goals
      go_wp2_with (first
        | (go_at_call 11; refine (HA.out _ (((Up.refl w1).alloc _)) _ (by show (1 : Nat) ≤ 24; omega)).mono ?_; rintro e w3 ⟨rfl, h3⟩; have P3 := Lib.hid (CluPost.behind ((Up.refl w1).alloc _) h3 (fun k hk => Nat.lt_of_lt_of_le (HLT.out k hk) U1.out.size)); clear h3)
        | (go_at_call 9; refine (M4.out _).mono ?_; rintro e w' ⟨rfl, rfl⟩)
        | fail)
      go_end0
      exact FIN.out _ _ P3.out (Next.app C i HIL.out _)
  · have HS := Lib.hid (fun (W : World) (hW : Up w1 W) => send_any (H.out.up (U1.out.trans hW)) HOK.out i t HIL.out HTL.out)
    rcases hc with rfl | rfl | rfl | rfl
    all_goals
      go_wp2_with (first
        | (go_at_call 13; refine (HS.out _ (Up.refl w1)).mono ?_; rintro e w3 ⟨rfl, h3⟩; have P3 := Lib.hid h3; clear h3)
        | (go_at_call 9; refine (M2.out _).mono ?_; rintro e w' ⟨rfl, rfl⟩)
        | fail)
      go_end0
      exact FIN.out _ _ P3.out (Next.send C i t HIL.out HTL.out)
  · have HD := Lib.hid (deliver_any HC1.out HOK.out k)
    rcases hc with rfl | rfl | rfl | rfl | rfl
    all_goals
      go_wp2_with (first
        | (go_at_call 14; refine HD.out.mono ?_; rintro e w3 ⟨rfl, h3⟩; have P3 := Lib.hid h3; clear h3)
        | fail)
      go_end0
      exact FIN.out _ _ P3.out (Next.deliver C k)
  · have HD := Lib.hid (dropAll HC1.out k hnn)
    go_wp2_with (first
      | (go_at_call 29; refine HD.out.mono ?_; rintro e w3 ⟨rfl, h3⟩; have P3 := Lib.hid h3; clear h3)
      | fail)
    go_end0
    exact FIN.out _ _ P3.out (Next.dropC C k)
  · have HV2 : Hid (∀ v ∈ [t, u], v < C.srv.length) := fun v hv => by
      simp only [List.mem_cons, List.not_mem_nil, or_false] at hv
      rcases hv with rfl | rfl
      · exact HTL.out
      · exact HUL.out
    have HE := Lib.hid (fun (W : World) (hW : Up w1 W) (vv : Value) => elect_any (H.out.up (U1.out.trans hW)) HOK.out i HIL.out [t, u] HV2.out (by show (2 : Nat) ≤ 1000; omega) vv)
    rcases hc with rfl | rfl
    all_goals
      go_wp2_with (first
        | (go_at_call 17; refine (HE.out _ ((Up.refl w1).alloc _) _ (blk_src (Blk.new w1 #[nv t, nv u] 3) rfl (Nat.le_refl 2) (by omega))).mono ?_; rintro e w3 ⟨rfl, h3⟩; have P3 := Lib.hid (CluPost.behind ((Up.refl w1).alloc _) h3 (fun k hk => Nat.lt_of_lt_of_le (HLT.out k hk) U1.out.size)); clear h3)
        | (go_at_call 9; have q9 := V1; clear q9; refine (M3.out _).mono ?_; rintro e w' ⟨rfl, rfl⟩)
        | (go_at_call 9; refine (M2.out _).mono ?_; rintro e w' ⟨rfl, rfl⟩; have V1 : Hid True := trivial)
        | fail)
      go_end0
      exact FIN.out _ _ P3.out (Next.elect C i HIL.out _ HV2.out)
end
end Go.Proofs.Ythhkekmeginooaa.Rp
