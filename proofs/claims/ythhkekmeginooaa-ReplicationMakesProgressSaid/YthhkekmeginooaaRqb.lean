/- Replication: one known result; starting with a prefix. -/
import Derived.Test.YthhkekmeginooaaRqa
namespace Go.Proofs.Ythhkekmeginooaa.Rp
open Go Go.RowKit Hp
set_option linter.unusedVariables false

/-- Where no majority has got so far. -/
theorem mid_lt (l : List Nat) (h : 1 ≤ l.length) (b : Nat) (hV : ∀ V : List Nat, V.Nodup → (∀ v ∈ V, v < l.length ∧ b ≤ l.getD v 0) → 2 * V.length ≤ l.length) : mid l < b := by
  rcases Nat.lt_or_ge (mid l) b with h1 | h1
  · exact h1
  · obtain ⟨V, h2, h3, h4⟩ := (mid_maj l h).mono fun v hv hk => Nat.le_trans h1 hk
    have := hV V h2 h3
    omega
theorem nodup_sub : ∀ (V W : List Nat), V.Nodup → (∀ v ∈ V, v ∈ W) → V.length ≤ W.length
  | [], _, _, _ => Nat.zero_le _
  | a :: V, W, hn, h => by
    have ha := h a (List.mem_cons_self ..)
    have := nodup_sub V (W.erase a) (List.nodup_cons.1 hn).2 fun x hx => (List.mem_erase_of_ne (fun e => (List.nodup_cons.1 hn).1 (by rw [← e]; exact hx))).2 (h x (List.mem_cons_of_mem _ hx))
    rw [List.length_erase, if_pos ha] at this
    have : 0 < W.length := List.length_pos_of_mem ha
    rw [List.length_cons]
    omega
theorem mid10 : mid [1, 0] = 0 := by
  have := mid_lt [1, 0] (by decide) 1 fun V hn hV => by
    have := nodup_sub V [0] hn fun v hv => by
      obtain ⟨h1, h2⟩ := hV v hv
      have h1 : v < 2 := h1
      match v, h1, h2 with
      | 0, _, _ => exact List.mem_cons_self ..
      | 1, _, h2 => exact absurd h2 (by decide)
    show 2 * V.length ≤ 2
    rw [List.length_singleton] at this
    omega
  omega
theorem mid11 : mid [1, 1] = 1 := by
  have h1 := mid_le [1, 1] (by decide) 1 (by decide)
  have h2 := mid_ge [1, 1] (by decide) 1 (by decide)
  omega
theorem adv_no (s : Srv) (i k : Nat) (hk : mid (s.mat.set i s.log.length) = k) (h : ¬ s.com < k) : s.adv i = { s with mat := s.mat.set i s.log.length } := by
  unfold Srv.adv
  rw [hk, if_neg (fun e => h e.1)]
theorem adv_yes (s : Srv) (i k : Nat) (hk : mid (s.mat.set i s.log.length) = k) (h1 : s.com < k) (h2 : s.log[k - 1]?.map Ent.term = some s.term) : s.adv i = { s with mat := s.mat.set i s.log.length, com := k } := by
  unfold Srv.adv
  rw [hk, if_pos ⟨h1, h2⟩]
def wA : ByteArray := ⟨#[97]⟩
def wk0 : Clu := newC 2
def wk1 : Clu := ⟨[⟨1, 0, [⟨1, wA⟩], [1, 0]⟩, ⟨1, 0, [], []⟩], [0, 0], []⟩
def wk2 : Clu := ⟨[⟨1, 0, [⟨1, wA⟩], [1, 0]⟩, ⟨1, 0, [], []⟩], [0, 0], [⟨1, 0, 1, 1, 0, 0, 0, [⟨1, wA⟩]⟩]⟩
def wk3 : Clu := ⟨[⟨1, 0, [⟨1, wA⟩], [1, 0]⟩, ⟨1, 0, [⟨1, wA⟩], []⟩], [0, 0], [⟨2, 1, 0, 1, 1, 0, 0, []⟩]⟩
def wk4 : Clu := ⟨[⟨1, 1, [⟨1, wA⟩], [1, 1]⟩, ⟨1, 0, [⟨1, wA⟩], []⟩], [0, 0], []⟩
theorem wk01 : wk0.appC 0 wA = wk1 ∧ wk0.appE 0 = 0 := by
  refine ⟨?_, rfl⟩
  show wk0.app 0 wA = wk1
  have e : Srv.adv ⟨1, 0, [⟨1, wA⟩], [0, 0]⟩ 0 = ⟨1, 0, [⟨1, wA⟩], [1, 0]⟩ := adv_no _ _ 0 mid10 (by decide)
  show wk0.put 0 (Srv.adv ⟨1, 0, [⟨1, wA⟩], [0, 0]⟩ 0) = wk1
  rw [e]
  rfl
theorem wk12 : wk1.sendC 0 1 = wk2 ∧ wk1.sendE 0 1 = 0 := ⟨rfl, rfl⟩
theorem wk23 : wk2.deliver 0 = wk3 ∧ wk2.netE 0 = 0 := ⟨rfl, rfl⟩
theorem wk34 : wk3.deliver 0 = wk4 ∧ wk3.netE 0 = 0 := by
  refine ⟨?_, rfl⟩
  have e : Srv.adv ⟨1, 0, [⟨1, wA⟩], [1, 1]⟩ 0 = ⟨1, 1, [⟨1, wA⟩], [1, 1]⟩ := adv_yes _ _ 1 mid11 (by decide) rfl
  show (⟨[⟨1, 0, [⟨1, wA⟩], [1, 0]⟩, ⟨1, 0, [⟨1, wA⟩], []⟩], [0, 0], []⟩ : Clu).put 0 (Srv.adv ⟨1, 0, [⟨1, wA⟩], [1, 1]⟩ 0) = wk4
  rw [e]
  rfl
def OkE (C : Clu) : Prop := ∃ LL ack, Ok C LL ack
theorem Next.okE {C C' : Clu} (h : Next C C') (k : OkE C) : OkE C' := by
  obtain ⟨LL, ack, ok⟩ := k
  obtain ⟨a, b, h1⟩ := h.ok LL ack ok
  exact ⟨a, b, h1.ok⟩
theorem wkOk : OkE wk0 ∧ OkE wk1 ∧ OkE wk2 ∧ OkE wk3 ∧ OkE wk4 := by
  have h0 : OkE wk0 := ⟨_, _, newC_ok 2 (by decide) (by decide)⟩
  have h1 := (Next.app wk0 0 (by decide) wA).okE h0
  rw [wk01.1] at h1
  have h2 := (Next.send wk1 0 1 (by decide) (by decide)).okE h1
  rw [wk12.1] at h2
  have h3 := (Next.deliver wk2 0).okE h2
  rw [wk23.1] at h3
  have h4 := (Next.deliver wk3 0).okE h3
  rw [wk34.1] at h4
  exact ⟨h0, h1, h2, h3, h4⟩
section
variable {w W : World} {p : Nat} {C : Clu} {F : Nat → Prop}
/-- The operations on a cluster of the law's own. -/
theorem appO (h : OwnC w W p C F) (k : OkE C) (i : Nat) (hi : i < C.srv.length) (y : ByteArray) (hy : y.size ≤ 24) :
    Calls Try.prog 11 #[.pointer (some ⟨p, 0, none⟩), .int .i64 (i : Int), .string y] W fun e w' => e = .returned (.int .i64 (C.appE i)) ∧ ∃ F', Hid (OwnC w w' p (C.appC i y) F') := by
  obtain ⟨LL, ack, ok⟩ := k
  exact (app_any h.clu ok i hi y hy).mono fun e w' ⟨a, b⟩ => ⟨a, _, h.step b⟩
theorem sendO (h : OwnC w W p C F) (k : OkE C) (i t : Nat) (hi : i < C.srv.length) (ht : t < C.srv.length) :
    Calls Try.prog 13 #[.pointer (some ⟨p, 0, none⟩), .int .i64 (i : Int), .int .i64 (t : Int)] W fun e w' => e = .returned (.int .i64 (C.sendE i t)) ∧ ∃ F', Hid (OwnC w w' p (C.sendC i t) F') := by
  obtain ⟨LL, ack, ok⟩ := k
  exact (send_any h.clu ok i t hi ht).mono fun e w' ⟨a, b⟩ => ⟨a, _, h.step b⟩
theorem deliverO (h : OwnC w W p C F) (k : OkE C) (i : Nat) :
    Calls Try.prog 14 #[.pointer (some ⟨p, 0, none⟩), .int .i64 (i : Int)] W fun e w' => e = .returned (.int .i64 (C.netE i)) ∧ ∃ F', Hid (OwnC w w' p (C.deliver i) F') := by
  obtain ⟨LL, ack, ok⟩ := k
  exact (deliver_any h.clu ok i).mono fun e w' ⟨a, b⟩ => ⟨a, _, h.step b⟩
theorem electO (h : OwnC w W p C F) (k : OkE C) (i : Nat) (hi : i < C.srv.length) (V : List Nat) (hV : ∀ v ∈ V, v < C.srv.length) (hVl : V.length ≤ 1000) (vv : Value) (hvv : Src W 1 vv V.length (icN V)) :
    Calls Try.prog 17 #[.pointer (some ⟨p, 0, none⟩), .int .i64 (i : Int), vv] W fun e w' => e = .returned (.int .i64 (C.electE i V)) ∧ (∃ F', Hid (OwnC w w' p (C.electC i V) F')) ∧ Chg F W w' := by
  obtain ⟨LL, ack, ok⟩ := k
  exact (elect_any h.clu ok i hi V hV hVl vv hvv).mono fun e w' ⟨a, b⟩ => ⟨a, ⟨_, h.step b⟩, b.2⟩
theorem logO (h : OwnC w W p C F) (k : OkE C) (i : Nat) (hi : i < C.srv.length) :
    Calls Try.prog 15 #[.pointer (some ⟨p, 0, none⟩), .int .i64 (i : Int)] W fun e w' => ∃ v, e = .returned (.tuple #[v, .int .i64 ((C.s i).com : Int), .int .i64 0]) ∧ Hid (w'.ownsRow W.heap.size 44 2 v (C.s i).log.length (enC (C.s i).log)) ∧ Hid (Up W w') ∧ Hid (OwnC w w' p C F) := by
  obtain ⟨LL, ack, ok⟩ := k
  exact (log_any h.clu i hi (ok.loglen hi)).mono fun e w' ⟨v, a, b, c⟩ => ⟨v, a, b, c, h.grow c.out⟩
theorem stepO (h : OwnC w W p C F) (k : OkE C) (hs : NetS C) (op : Int) :
    Calls Try.prog 16 #[.pointer (some ⟨p, 0, none⟩), .int .i64 (C.srv.length : Int), .int .i64 op] W fun e w' => e = .returned (.tuple #[]) ∧ ∃ C' F', Hid (OwnC w w' p C' F') ∧ Hid (Next C C') ∧ Hid (Chg F W w') := by
  obtain ⟨LL, ack, ok⟩ := k
  exact (step_any h.clu ok hs op).mono fun e w' ⟨a, C', b, c⟩ => ⟨a, C', _, h.step b, c, b.2⟩
end
set_option maxRecDepth 100000 in
set_option maxHeartbeats 2000000 in
theorem works_any (w : World) : Calls Try.prog 8 #[] w fun e w' => e = .returned (.bool true) ∧ Up w w' := by
  go_enter Try.func8, Try.ntmps8
  go_wp2_with (first
    | (go_at_call 15; refine (logO O4.out wkOk.2.2.2.2 0 (by decide)).mono ?_; rintro e w6 ⟨v6, rfl, L6, U6, O6⟩)
    | (go_at_call 14; refine (deliverO O3.out wkOk.2.2.2.1 0).mono ?_; rw [wk34.1, wk34.2]; rintro e w5 ⟨rfl, F4, O4⟩)
    | (go_at_call 14; refine (deliverO O2.out wkOk.2.2.1 0).mono ?_; rw [wk23.1, wk23.2]; rintro e w4 ⟨rfl, F3, O3⟩)
    | (go_at_call 13; refine (sendO O1.out wkOk.2.1 0 1 (by decide) (by decide)).mono ?_; rw [wk12.1, wk12.2]; rintro e w3 ⟨rfl, F2, O2⟩)
    | (go_at_call 11; refine (appO O0.out wkOk.1 0 (by decide) wA (by decide)).mono ?_; rw [wk01.1, wk01.2]; rintro e w2 ⟨rfl, F1, O1⟩)
    | (go_at_call 10; refine (new_any 2 (by decide) (by decide) _).mono ?_; rintro e w1 ⟨p, F0, rfl, hO0⟩; have O0 : Hid (OwnC w w1 p wk0 F0) := Lib.hid hO0; clear hO0)
    | fail)
  go_ret
  exact ⟨rfl, O6.out.up⟩
end Go.Proofs.Ythhkekmeginooaa.Rp
