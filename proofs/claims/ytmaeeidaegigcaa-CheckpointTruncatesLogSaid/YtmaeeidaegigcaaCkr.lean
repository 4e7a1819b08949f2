/- joined: Ckq, Ckr -/
import Derived.Test.YtmaeeidaegigcaaCkp
/- The checkpoint's laws: what they hold; the store's calls as the laws make them. -/
namespace Go.Proofs.Ytmaeeidaegigcaa.Ck
open Go Go.RowKit Hp So
open Dk (Dsk DiskR bc Bytes pad)
open Wl (Log LogR LogPost fx_lt St IsB BytD)
set_option linter.unusedVariables false

/-! ### Keys and updates -/
def keyB (k : Int) : ByteArray := one ((97 + modV k 6) % 256)
theorem one_size (x : Int) : (one x).size = 1 := rfl
def updB (op : Int) : ByteArray × ByteArray := (keyB op, if 0 < modV (wrap64 (op.tdiv 8)) 5 then one ((97 + modV (wrap64 (op.tdiv 64)) 26) % 256) else ByteArray.empty)
theorem updB_key (op : Int) : (updB op).1.size = 1 := rfl
theorem updB_val (op : Int) : (updB op).2.size ≤ 1 := by
  unfold updB
  split
  · exact Nat.le_of_eq (one_size _)
  · exact Nat.zero_le _
theorem updB_rec (op : Int) : (recU (updB op)).length ≤ 3 := by rw [recU_len, updB_key]; have := updB_val op; omega
def keyN (m : Nat) : ByteArray := one ((97 + (m : Int)) % 256)
/-- Six keys at most. -/
def K6 (l : Ws) : Prop := ∀ e ∈ l, ∃ m, m < 6 ∧ e.1 = keyN m
theorem updB_k6 (op : Int) : ∃ m, m < 6 ∧ (updB op).1 = keyN m := by
  have h1 := modV_nonneg op 6 (by decide)
  have h2 := modV_lt op 6 (by decide)
  refine ⟨(modV op 6).toNat, by omega, ?_⟩
  show one ((97 + modV op 6) % 256) = one ((97 + (((modV op 6).toNat : Nat) : Int)) % 256)
  rw [Int.toNat_of_nonneg h1]
theorem nodup_len : ∀ (n : Nat) (V : List Nat), V.Nodup → (∀ v ∈ V, v < n) → V.length ≤ n
  | 0, V, _, h => by
    cases V with
    | nil => exact Nat.le_refl _
    | cons a V => have := h a (List.mem_cons_self ..); omega
  | n + 1, V, hn, h => by
    have h1 := nodup_len n (V.erase n) (hn.erase n) fun v hv => by
      have := h v (List.mem_of_mem_erase hv)
      have : v ≠ n := fun e => by subst e; exact (List.Nodup.not_mem_erase hn) hv
      omega
    have : V.length ≤ (V.erase n).length + 1 := by rw [List.length_erase]; split <;> omega
    omega
theorem K6.list : ∀ (l : Ws), K6 l → ∃ ms : List Nat, l.map Prod.fst = ms.map keyN ∧ ∀ m ∈ ms, m < 6
  | [], _ => ⟨[], rfl, fun m hm => by cases hm⟩
  | e :: l, h => by
    obtain ⟨ms, h1, h2⟩ := K6.list l fun e he => h e (List.mem_cons_of_mem _ he)
    obtain ⟨m, h3, h4⟩ := h e (List.mem_cons_self ..)
    exact ⟨m :: ms, by rw [List.map_cons, List.map_cons, h1, h4], fun m' hm => (List.mem_cons.1 hm).elim (fun e => by rw [e]; exact h3) fun e => h2 m' e⟩
theorem K6.len {l : Ws} (h : K6 l) (hs : Srt l) : l.length ≤ 6 := by
  obtain ⟨ms, h1, h2⟩ := K6.list l h
  have hn : (l.map Prod.fst).Nodup := by
    refine List.pairwise_map.2 (hs.imp fun {a b} hab e => ?_)
    rw [e] at hab
    exact slt_irrefl _ hab
  rw [h1] at hn
  have hm : ms.Nodup := by
    have := List.pairwise_map.1 hn
    exact this.imp fun h e => h (by rw [e])
  have := nodup_len 6 ms hm h2
  have e := congrArg List.length h1
  rw [List.length_map, List.length_map] at e
  omega
theorem apL_mem {l : Ws} {u e : ByteArray × ByteArray} (h : e ∈ apL l u) : e ∈ l ∨ e = u := by
  unfold apL at h
  split at h
  · split at h
    · rcases List.mem_append.1 h with h | h
      · exact .inl (List.mem_of_mem_take h)
      · exact .inl (List.mem_of_mem_drop h)
    · rcases List.mem_or_eq_of_mem_set h with h | h
      · exact .inl h
      · exact .inr h
  · split at h
    · exact .inl h
    · rcases List.mem_append.1 h with h | h
      · exact .inl (List.mem_of_mem_take h)
      · rcases List.mem_cons.1 h with h | h
        · exact .inr h
        · exact .inl (List.mem_of_mem_drop h)
theorem K6.ap {l : Ws} (h : K6 l) (op : Int) : K6 (apL l (updB op)) := fun e he => by
  rcases apL_mem he with h1 | h1
  · exact h e h1
  · rw [h1]; exact updB_k6 op
theorem K6.full {l : Ws} (h : K6 l) (hs : Srt l) (u : ByteArray × ByteArray) : fullL l u = false := by
  have := h.len hs
  unfold fullL
  rw [decide_eq_false (show ¬ l.length = 20 by omega), Bool.and_false]

set_option maxRecDepth 100000 in
set_option maxHeartbeats 1000000 in
theorem key_any (k : Int) (w : World) : Calls Try.prog 53 #[.int .i64 k] w fun e w' => e = .returned (.string (keyB k)) ∧ Up w w' := by
  have hcv := conv1 (P := Try.prog) 28 9 5 Try.underlying28 Try.underlying5 Try.underlying9
  go_enter Try.func53, Try.ntmps53
  go_wp2_with (go_at_call 15; refine (Dk.mod_any k 6 _ (by omega) (by omega)).mono ?_; rintro e w' ⟨rfl, rfl⟩)
  go_ret
  exact ⟨rfl, (Up.refl w).alloc _⟩

/-! ### A law's store and its updates -/
/-- The store at p, the law's row of updates, apart from it; w is the world at the law's start. -/
def Hold (w wr : World) (p : Nat) (C : Ck) (uv : Value) (U : Ws) : Prop :=
  ∃ F, CkR wr p C F ∧ (∀ k, F k → w.heap.size ≤ k) ∧ wr.ownsRow 0 62 2 uv U.length (ec U) ∧ (∀ k, uv.ownBlock = some k → w.heap.size ≤ k ∧ ¬ F k) ∧ Up w wr
section
variable {w wr w' : World} {p : Nat} {C C' : Ck} {uv : Value} {U : Ws}
theorem Hold.world (h : Hold w wr p C uv U) : Up w wr := by obtain ⟨F, _, _, _, _, h⟩ := h; exact h
theorem Hold.mv (h : Hold w wr p C uv U) (hu : Up wr w') : Hold w w' p C uv U := by
  obtain ⟨F, h1, h2, h3, h4, h5⟩ := h
  exact ⟨F, h1.up hu, h2, own_up h3 hu, h4, h5.trans hu⟩
theorem Hold.post {F : Nat → Prop} (h1 : CkR wr p C F) (h2 : ∀ k, F k → w.heap.size ≤ k) (h3 : wr.ownsRow 0 62 2 uv U.length (ec U)) (h4 : ∀ k, uv.ownBlock = some k → w.heap.size ≤ k ∧ ¬ F k) (h5 : Up w wr) (hP : CkPost p C' F wr w') : Hold w w' p C' uv U := by
  refine ⟨Fx F wr w', hP.1, fun k hk => ?_, own_chg h3 hP.2 fun k hk => (h4 k hk).2, fun k hk => ⟨(h4 k hk).1, fun e => ?_⟩, ?_⟩
  · rcases hk with e | e
    · exact h2 k e
    · have := h5.size; omega
  · rcases e with e | e
    · exact (h4 k hk).2 e
    · have := own_lt h3 k hk; omega
  · exact Below.trans h5 (hP.2.below h5.size fun k hk e => by have := h2 k e; omega)
theorem Hold.poke {F : Nat → Prop} {rb : Nat} (h1 : CkR wr p C F) (h2 : ∀ k, F k → w.heap.size ≤ k) (h3 : wr.ownsRow 0 62 2 uv U.length (ec U)) (h4 : ∀ k, uv.ownBlock = some k → w.heap.size ≤ k ∧ ¬ F k) (h5 : Up w wr) (hc : Chg (· = rb) wr w') (hF : ¬ F rb) (hu : ¬ uv.ownBlock = some rb) (hb : w.heap.size ≤ rb) : Hold w w' p C uv U :=
  ⟨F, h1.chg hc fun k hk e => hF (e ▸ hk), h2, own_chg h3 hc fun k hk e => hu (e ▸ hk), h4, Below.trans h5 (hc.below h5.size fun k hk e => by omega)⟩
/-- An append to the law's row. -/
theorem Hold.app {uv' : Value} {u : ByteArray × ByteArray} (h : Hold w wr p C uv U) (h1 : w'.ownsRow 0 62 2 uv' (U.length + 1) (ec U ++ [.string u.1, .string u.2])) (hg : wr.grownBy w' uv.ownBlock) (hat : uv'.ownBlock = uv.ownBlock ∨ ∃ g, uv'.ownBlock = some g ∧ wr.heap.size ≤ g) : Hold w w' p C uv' (U ++ [u]) := by
  obtain ⟨F, a1, a2, a3, a4, a5⟩ := h
  have hc : Chg (fun k => uv.ownBlock = some k) wr w' := (Chg.refl _ wr).grown hg fun k hk => .inl hk
  refine ⟨F, a1.chg hc fun k hk e => (a4 k e).2 hk, a2, ?_, fun k hk => ?_, Below.grown a5 hg a5.size fun k hk => (a4 k hk).1⟩
  · rw [List.length_append, List.length_singleton, ec_app]; exact h1
  · rcases hat with e | ⟨g, e, hg⟩
    · rw [e] at hk; exact a4 k hk
    · rw [e] at hk
      obtain rfl := Option.some.inj hk
      exact ⟨Nat.le_trans a5.size hg, fun e => by have := a1.lt _ e; omega⟩
end
/-- What is told of a store: its base, the updates behind it, d of them synced. -/
structure Cs (n i : Nat) (C : Ck) (base us : Ws) (d : Nat) : Prop where
  st : St n i C.log d (us.map recU)
  ci : CI C base us
  kb : K6 base
  ku : K6 us
theorem K6.fold : ∀ (us base : Ws), K6 base → K6 us → K6 (us.foldl apL base)
  | [], _, h, _ => h
  | u :: us, base, h, hu => K6.fold us (apL base u) (fun e he => by
      rcases apL_mem he with h1 | h1
      · exact h e h1
      · rw [h1]; exact hu u (List.mem_cons_self ..)) fun e he => hu e (List.mem_cons_of_mem _ he)
theorem K6.take {l : Ws} (h : K6 l) (k : Nat) : K6 (l.take k) := fun e he => h e (List.mem_of_mem_take he)
theorem K6.drop {l : Ws} (h : K6 l) (k : Nat) : K6 (l.drop k) := fun e he => h e (List.mem_of_mem_drop he)
theorem Cs.k6 {n i d : Nat} {C : Ck} {base us : Ws} (h : Cs n i C base us d) : K6 C.ents := by rw [h.ci.ents]; exact K6.fold _ _ h.kb h.ku
section
variable {w wr : World} {p : Nat} {C : Ck} {uv : Value} {U : Ws} {n i d : Nat} {base us : Ws}
theorem Cs.mono (h : Cs n i C base us d) {j : Nat} (hij : i ≤ j) : Cs n j C base us d := ⟨h.st.mono hij, h.ci, h.kb, h.ku⟩
theorem hall (h : Hold w wr p C uv U) (hc : Cs n i C base us d) :
    Calls Try.prog 39 #[.pointer (some ⟨p, 0, none⟩)] wr fun e w' => ∃ v, e = .returned v ∧ Hid (w'.ownsRow 0 62 2 v C.ents.length (ec C.ents)) ∧ Hid (Up wr w') ∧ Hid (Hold w w' p C uv U) := by
  obtain ⟨F, h1, h2⟩ := id h
  refine (all_any h1 (by have := hc.ci.ewok.len; omega)).mono ?_
  rintro e w' ⟨v, rfl, a1, a2⟩
  exact ⟨v, rfl, own_base' a1.out fun _ _ => Nat.zero_le _, a2, h.mv a2.out⟩
theorem hloglen (h : Hold w wr p C uv U) (hc : Cs n i C base us d) (hi : i ≤ 900) :
    Calls Try.prog 36 #[.pointer (some ⟨p, 0, none⟩)] wr fun e w' => e = .returned (.int .i64 (us.length : Int)) ∧ Hid (Hold w w' p C uv U) := by
  obtain ⟨F, h1, h2⟩ := id h
  refine (loglen_any h1 hc.st (by omega)).mono ?_
  rintro e w' ⟨rfl, a2⟩
  rw [List.length_map]
  exact ⟨rfl, h.mv a2.out⟩
theorem hsync (h : Hold w wr p C uv U) (hc : Cs n i C base us d) :
    Calls Try.prog 37 #[.pointer (some ⟨p, 0, none⟩)] wr fun e w' => e = .returned (.tuple #[]) ∧ ∃ L', Hid (Cs n (i + 1) { C with log := L' } base us us.length) ∧ Hid (Hold w w' p { C with log := L' } uv U) := by
  obtain ⟨F, h1, h2, h3, h4, h5⟩ := h
  refine (csync_any h1 hc.st).mono ?_
  rintro e w' ⟨rfl, L', a1, a2⟩
  have a1 := a1.out
  rw [List.length_map] at a1
  exact ⟨rfl, L', ⟨a1, hc.ci.log L', hc.kb, hc.ku⟩, Hold.post h1 h2 h3 h4 h5 a2.out⟩
theorem hbegin (h : Hold w wr p C uv U) (hc : Cs n i C base us d) (hi : i ≤ 900) (hn : C.next < 0) :
    Calls Try.prog 34 #[.pointer (some ⟨p, 0, none⟩)] wr fun e w' => e = .returned (.int .i64 0) ∧ Hid (Cs n i { C with pend := C.ents, next := 0, cov := us.length } base us d) ∧ Hid (Hold w w' p { C with pend := C.ents, next := 0, cov := us.length } uv U) := by
  obtain ⟨F, h1, h2, h3, h4, h5⟩ := h
  refine (begin_any h1 hc.st (by omega) (by have := hc.ci.ewok.len; omega) hn).mono ?_
  rintro e w' ⟨rfl, a2⟩
  rw [List.length_map] at a2
  exact ⟨rfl, ⟨hc.st, hc.ci.begin hn, hc.kb, hc.ku⟩, Hold.post h1 h2 h3 h4 h5 a2⟩
theorem hbegin_no (h : Hold w wr p C uv U) (hn : 0 ≤ C.next) :
    Calls Try.prog 34 #[.pointer (some ⟨p, 0, none⟩)] wr fun e w' => e = .returned (.int .i64 15) ∧ Hid (Hold w w' p C uv U) := by
  have H := Lib.hid h
  obtain ⟨F, ⟨q, r, Fl, Fd, ev, pv, h1⟩, _⟩ := h
  have c5 := (h1.blk.at (i := 5) rfl).2
  have hpl := h1.blk.lt
  clear h1
  go_enter Try.func34, Try.ntmps34
  go_wp2
  go_ret
  exact ⟨rfl, H⟩
theorem hstep_no (h : Hold w wr p C uv U) (hn : C.next < 0) :
    Calls Try.prog 35 #[.pointer (some ⟨p, 0, none⟩)] wr fun e w' => e = .returned (.tuple #[.bool false, .int .i64 15]) ∧ Hid (Hold w w' p C uv U) := by
  have H := Lib.hid h
  obtain ⟨F, ⟨q, r, Fl, Fd, ev, pv, h1⟩, _⟩ := h
  have c5 := (h1.blk.at (i := 5) rfl).2
  have hpl := h1.blk.lt
  clear h1
  go_enter Try.func35, Try.ntmps35
  go_wp2
  go_ret2
  exact ⟨rfl, H⟩
theorem hstep1 (h : Hold w wr p C uv U) (hc : Cs n i C base us d) (m : Nat) (hm : C.next = (m : Int)) (hm2 : m < C.pend.length) (hck : C.cks < 1000) :
    Calls Try.prog 35 #[.pointer (some ⟨p, 0, none⟩)] wr fun e w' => e = .returned (.tuple #[.bool false, .int .i64 0]) ∧ Hid (Cs n i (C.step1 (C.pend[m]'hm2)) base us d) ∧ Hid (Hold w w' p (C.step1 (C.pend[m]'hm2)) uv U) := by
  obtain ⟨F, h1, h2, h3, h4, h5⟩ := h
  have hw := hc.ci.pwok (by omega)
  have hk := wk_key hw hm2
  refine (step1_any h1 m hm hm2 hc.ci.dl (by have := hc.ci.pnd0; omega) (by omega) hw.len hk.1 hk.2).mono ?_
  rintro e w' ⟨rfl, a2⟩
  exact ⟨rfl, ⟨hc.st, hc.ci.step1 m hm hm2, hc.kb, hc.ku⟩, Hold.post h1 h2 h3 h4 h5 a2⟩
theorem hstep2 (h : Hold w wr p C uv U) (hc : Cs n i C base us d) (hm : C.next = (C.pend.length : Int)) (hck : C.cks < 1000) (hn1 : 4 ≤ n) (hn2 : n ≤ 256) (hi : i ≤ 900) :
    Calls Try.prog 35 #[.pointer (some ⟨p, 0, none⟩)] wr fun e w' => e = .returned (.tuple #[.bool true, .int .i64 0]) ∧ ∃ L', Hid (Cs n (i + 1) (C.done L') C.pend (us.drop C.cov) (dT C.cov d us.length)) ∧ Hid (Hold w w' p (C.done L') uv U) := by
  obtain ⟨F, h1, h2, h3, h4, h5⟩ := h
  have hw := hc.ci.pwok (by omega)
  obtain ⟨m, _, g1, g2, _⟩ := hc.ci.nx.resolve_left fun e => by omega
  refine (step2_any h1 hc.st hn1 hn2 (by omega) hm hc.ci.dl (by omega) hw.len (by rw [List.length_map]; exact g1)).mono ?_
  rintro e w' ⟨rfl, L', a1, a2⟩
  have a1 := a1.out
  rw [List.length_map, ← List.map_drop] at a1
  exact ⟨rfl, L', ⟨a1, hc.ci.done L' hm (by omega), by rw [g2]; exact K6.fold _ _ hc.kb (hc.ku.take _), hc.ku.drop _⟩, Hold.post h1 h2 h3 h4 h5 a2.out⟩
theorem hcrash (h : Hold w wr p C uv U) (hc : Cs n i C base us d) (hn1 : 4 ≤ n) (hn2 : n ≤ 256) (hi : i ≤ 900) (hck : C.cks < 1000) (cw lw : List Bool) (cv lv : Value) (hcv : Bools w cv cw) (hlv : Bools w lv lw) :
    Calls Try.prog 41 #[.pointer (some ⟨p, 0, none⟩), cv, lv] wr fun e w' => e = .returned (.tuple #[]) ∧ ∃ C' j, d ≤ j ∧ j ≤ us.length ∧ C'.ents = (us.take j).foldl apL base ∧ Hid (Cs n (i + 1) C' base (us.take j) j) ∧ Hid (Hold w w' p C' uv U) := by
  obtain ⟨F, h1, h2, h3, h4, h5⟩ := h
  have far : ∀ (v : Value) (sv : List Bool), Bools w v sv → sv ≠ [] → ∀ a n c, v = .slice (some a) n c → ¬ F a.block := fun v sv hb hne a n' c' e g => by
    obtain ⟨a', cap, e', _, _, _, hx⟩ := hb
    have : 0 < sv.length := by cases sv with
      | nil => exact absurd rfl hne
      | cons => simp
    obtain ⟨b, off, ha, hr⟩ := hx 0 this
    rw [e', ha] at e
    cases e
    have := hr.1
    have := h2 _ g
    simp only at *
    omega
  obtain ⟨f1, f2⟩ := hc.ci.found cw
  refine (ccrash_any h1 hc.st hn1 hn2 hi cw lw cv lv (Arr.grow boolR_grows hcv h5) (Arr.grow boolR_grows hlv h5) (far cv cw hcv) (far lv lw hlv) hc.ci.byt hc.ci.dl base us C.cks (by omega) f1 f2 (fun e he => hc.ci.bwok.key e he) hc.ci.bwok.len rfl hc.ci.key hc.ci.wok).mono ?_
  rintro e w' ⟨rfl, L', j, g1, g2, g3, g4⟩
  have g3 := g3.out
  rw [← List.map_take] at g3
  refine ⟨rfl, _, j, g1, g2, rfl, ⟨g3, hc.ci.crash cw L' j g2, hc.kb, hc.ku.take j⟩, Hold.post h1 h2 h3 h4 h5 g4.out⟩
def PutR (n i d : Nat) (base us : Ws) (C : Ck) (u : ByteArray × ByteArray) (w : World) (p : Nat) (uv : Value) (U : Ws) (k : Int) (w' : World) : Prop :=
  if C.log.full (recU u).length then k = 18 ∧ Hold w w' p C uv U else k = 0 ∧ ∃ L', Cs n (i + 1) { C with log := L', ents := apL C.ents u } base (us ++ [u]) d ∧ Hold w w' p { C with log := L', ents := apL C.ents u } uv U
set_option maxRecDepth 100000 in
set_option maxHeartbeats 2000000 in
theorem hput (h : Hold w wr p C uv U) (hc : Cs n i C base us d) (hn1 : 4 ≤ n) (hn2 : n ≤ 256) (hi : i ≤ 900) (op : Int) :
    Calls Try.prog 33 #[.pointer (some ⟨p, 0, none⟩), .int .i64 op] wr fun e w' => ∃ k, e = .returned (.tuple #[.agg #[.string (updB op).1, .string (updB op).2], .int .i64 k]) ∧ PutR n i d base us C (updB op) w p uv U k w' := by
  have H := Lib.hid h
  obtain ⟨u, hu⟩ : ∃ u, u = updB op := ⟨_, rfl⟩
  have hk1 := updB_key op
  have hx1 := updB_val op
  have HP : Hid (∀ W, Up wr W → wr.heap.size < W.heap.size → Calls Try.prog 51 #[.pointer (some ⟨p, 0, none⟩), .string u.1, .string u.2] W fun e w' => ∃ k, e = .returned (.int .i64 k) ∧ Hid (∀ b, wr.heap.size ≤ b → b < W.heap.size → w'.heap[b]? = W.heap[b]?) ∧ Hid (W.heap.size ≤ w'.heap.size) ∧ Hid (∀ w2, Chg (· = wr.heap.size) w' w2 → PutR n i d base us C u w p uv U k w2)) := by
    intro W hW hWs
    obtain ⟨F, h1, h2, h3, h4, h5⟩ := id h
    have hlt := h1.lt
    have hnf : ¬ F wr.heap.size := fun e => by have := hlt _ e; omega
    have hnu : ¬ uv.ownBlock = some wr.heap.size := fun e => by have := own_lt h3 _ e; omega
    rw [hu]
    have hf := hc.k6.full hc.ci.ewok.srt (updB op)
    refine (put_any (h1.up hW) hc.st hn1 hn2 (by omega) hc.ci.ewok (updB op).1 (updB op).2 (by omega) (by omega) hf).mono ?_
    intro e w' hh
    cases hfl : C.log.full (recU (updB op)).length with
    | true =>
      rw [if_pos hfl] at hh
      exact ⟨18, hh.1, fun b _ hb => hh.2.out.block b hb, hh.2.out.size, fun w2 hc2 => by unfold PutR; rw [hfl, if_pos rfl]; exact ⟨rfl, Hold.poke ((h1.up hW).up hh.2.out) h2 (own_up (own_up h3 hW) hh.2.out) h4 ((h5.trans hW).trans hh.2.out) hc2 hnf hnu h5.size⟩⟩
    | false =>
      rw [if_neg (by rw [hfl]; decide)] at hh
      obtain ⟨he, L', s1, p1⟩ := hh
      have h9 : ∀ w2, Chg (· = wr.heap.size) w' w2 → Hold w w2 p { C with log := L', ents := apL C.ents (updB op) } uv U := fun w2 hc2 => by
        have hz := hW.size
        have h5' := h5.size
        exact Hold.poke p1.out.1 (fun k hk => by
          rcases hk with e | e
          · exact h2 k e
          · omega) (own_chg (own_up h3 hW) p1.out.2 fun k hk => (h4 k hk).2) (fun k hk => ⟨(h4 k hk).1, fun e => by
          rcases e with e | e
          · exact (h4 k hk).2 e
          · have := own_lt h3 k hk; omega⟩) (Below.trans (h5.trans hW) (p1.out.2.below (by omega) fun k hk e => by have := h2 k e; omega)) hc2 (fun e => by
          rcases e with e | e
          · exact hnf e
          · omega) hnu h5.size
      have h8 : Cs n (i + 1) { C with log := L', ents := apL C.ents (updB op) } base (us ++ [updB op]) d := by
        refine ⟨?_, hc.ci.put L' (updB op) (by omega) (by omega) (by omega) hf, hc.kb, ?_⟩
        · rw [List.map_append]; exact s1.out
        · intro e he
          rcases List.mem_append.1 he with g | g
          · exact hc.ku e g
          · rw [List.mem_singleton.1 g]; exact updB_k6 op
      exact ⟨0, he, fun b hb1 hb2 => p1.out.2.block b hb2 fun hb => by have := hlt b hb; omega, p1.out.2.size, fun w2 hc2 => by unfold PutR; rw [hfl, if_neg (by decide)]; exact ⟨rfl, L', h8, h9 w2 hc2⟩⟩
  have HK := Lib.hid (fun W => key_any op W)
  have HU := Lib.hid hu
  have hsz := h.world.size
  clear h hu hk1 hx1 hc
  by_cases hv : 0 < modV (wrap64 (op.tdiv 8)) 5
  · have HUV : Hid (u = (keyB op, one ((97 + modV (wrap64 (op.tdiv 64)) 26) % 256))) := by unfold Hid; rw [HU.out]; unfold updB; rw [if_pos hv]
    go_enter Try.func33, Try.ntmps33
    go_upto_region 3 with (first
      | (go_at_call 15; refine (Dk.mod_any (wrap64 (op.tdiv 8)) 5 _ (by omega) (by omega)).mono ?_; rintro e w' ⟨rfl, rfl⟩)
      | (go_at_call 53; refine (HK.out _).mono ?_; rintro e w1 ⟨rfl, h1⟩; have U1 := Lib.hid h1; clear h1)
      | fail)
    have hcv := conv1 (P := Try.prog) 28 9 5 Try.underlying28 Try.underlying5 Try.underlying9 (w1.alloc (.cells #[.string (keyB op), .string { data := #[] }] 62)) ((97 + modV (wrap64 (op.tdiv 64)) 26) % 256) 1 5
    rw [show (w1.alloc (.cells #[.string (keyB op), .string { data := #[] }] 62)).heap.size = w1.heap.size + 1 by simp] at hcv
    go_upto_region 4 with (first
      | (go_at_call 15; refine (Dk.mod_any (wrap64 (op.tdiv 64)) 26 _ (by omega) (by omega)).mono ?_; rintro e w' ⟨rfl, rfl⟩)
      | fail)
    have hbx : wr.heap.size + 1 ≤ w1.heap.size := by have := U1.out.size; simpa using this
    have BX : Blk ((w1.alloc (.cells #[.string (keyB op), .string (one ((97 + modV (wrap64 (op.tdiv 64)) 26) % 256))] 62)).alloc (.cells #[.int .u8 ((97 + modV (wrap64 (op.tdiv 64)) 26) % 256)] 5)) w1.heap.size [.string u.1, .string u.2] 62 := by
      rw [HUV.out]
      exact (Blk.new w1 #[.string (keyB op), .string (one ((97 + modV (wrap64 (op.tdiv 64)) 26) % 256))] 62).up ((Up.refl _).alloc _)
    have BR := ((Blk.new wr #[.string { data := #[] }, .string { data := #[] }] 62).up U1.out).up (((Up.refl w1).alloc (.cells #[.string (keyB op), .string (one ((97 + modV (wrap64 (op.tdiv 64)) 26) % 256))] 62)).alloc (.cells #[.int .u8 ((97 + modV (wrap64 (op.tdiv 64)) 26) % 256)] 5))
    have UW := Lib.hid ((((Up.refl wr).alloc _).trans U1.out).trans (((Up.refl w1).alloc (.cells #[.string (keyB op), .string (one ((97 + modV (wrap64 (op.tdiv 64)) 26) % 256))] 62)).alloc (.cells #[.int .u8 ((97 + modV (wrap64 (op.tdiv 64)) 26) % 256)] 5)))
    generalize ((w1.alloc (.cells #[.string (keyB op), .string (one ((97 + modV (wrap64 (op.tdiv 64)) 26) % 256))] 62)).alloc (.cells #[.int .u8 ((97 + modV (wrap64 (op.tdiv 64)) 26) % 256)] 5)) = W at *
    clear hcv U1
    have hrb : wr.heap.size ≤ wr.heap.size := Nat.le_refl _
    generalize hbq : w1.heap.size = bx at *
    generalize hrq : wr.heap.size = rb at *
    have y0 := (BX.at (i := 0) rfl).2
    have y1 := (BX.at (i := 1) rfl).2
    have z0 := (BR.at (i := 0) rfl).2
    have z1 := (BR.at (i := 1) rfl).2
    have zf0 := BR.free 0
    have zf1 := BR.free 1
    have yl := BX.lt
    have zl := BR.lt
    have hne : ¬ bx = rb := by omega
    have HBX := Lib.hid BX
    have HBR := Lib.hid BR
    clear BX BR
    go_region_held3 (fun w' => w'.cell? ⟨bx, 0, none⟩ = some (.string u.1) ∧ w'.cell? ⟨bx, 1, none⟩ = some (.string u.2)) (first | exact ⟨y0, y1⟩ | exact ⟨r0, r1⟩ | exact ⟨(Chg.cell ((chg_set w5 rb 0 none _).trans (chg_set _ rb 1 none _) fun _ _ e => e) bl hne).trans r0, (Chg.cell ((chg_set w5 rb 0 none _).trans (chg_set _ rb 1 none _) fun _ _ e => e) bl hne).trans r1⟩ | go_keep) (first
      | (go_at_call 51; refine (HP.out _ (UW.out.drew) (by simpa using zl)).mono ?_; rintro e w5 ⟨k, rfl, P1, P2, P3⟩; have q0 : w5.cell? ⟨rb, 0, none⟩ = some (.string { data := #[] }) := (World.cell?_of_block (w := W) (a := ⟨rb, 0, none⟩) (P1.out rb (by omega) (by simpa using zl))).trans z0; have q1 : w5.cell? ⟨rb, 1, none⟩ = some (.string { data := #[] }) := (World.cell?_of_block (w := W) (a := ⟨rb, 1, none⟩) (P1.out rb (by omega) (by simpa using zl))).trans z1; have qf0 : w5.frozen? ⟨rb, 0, none⟩ = false := (Blk.free (b := rb) (xs := [.string { data := #[] }, .string { data := #[] }]) (E := 62) ((P1.out rb (by omega) (by simpa using zl)).trans HBR.out) 0); have qf1 : w5.frozen? ⟨rb, 1, none⟩ = false := (Blk.free (b := rb) (xs := [.string { data := #[] }, .string { data := #[] }]) (E := 62) ((P1.out rb (by omega) (by simpa using zl)).trans HBR.out) 1); have ql : rb < w5.heap.size := (by have := P2.out; have h := zl; simp at this; omega); have bl : bx < w5.heap.size := (by have := P2.out; have h := yl; simp at this; omega); have r0 : w5.cell? ⟨bx, 0, none⟩ = some (.string u.1) := (World.cell?_of_block (w := W) (a := ⟨bx, 0, none⟩) (P1.out bx (by omega) (by simpa using yl))).trans y0; have r1 : w5.cell? ⟨bx, 1, none⟩ = some (.string u.2) := (World.cell?_of_block (w := W) (a := ⟨bx, 1, none⟩) (P1.out bx (by omega) (by simpa using yl))).trans y1)
      | fail)
    all_goals
      clear y0 y1 z0 z1 zf0 zf1 yl zl r0 r1
      go_wp2
      (try simp only [Exit.inBlock, Exit.then])
      refine bodyPost_ret (v := .tuple #[.agg #[.string u.1, .string u.2], .int .i64 k]) ?_ rfl ⟨k, by rw [HU.out], ?_⟩
      · rw [results_cell_tmp rfl]; go_simp
      · rw [← HU.out]
        exact P3.out _ ((chg_set w5 rb 0 none _).trans (chg_set _ rb 1 none _) fun _ _ e => e)
  · have HUV : Hid (u = (keyB op, { data := #[] })) := by unfold Hid; rw [HU.out]; unfold updB; rw [if_neg hv]; rfl
    go_enter Try.func33, Try.ntmps33
    go_upto_region 4 with (first
      | (go_at_call 15; refine (Dk.mod_any (wrap64 (op.tdiv 8)) 5 _ (by omega) (by omega)).mono ?_; rintro e w' ⟨rfl, rfl⟩)
      | (go_at_call 53; refine (HK.out _).mono ?_; rintro e w1 ⟨rfl, h1⟩; have U1 := Lib.hid h1; clear h1)
      | fail)
    have hbx : wr.heap.size + 1 ≤ w1.heap.size := by have := U1.out.size; simpa using this
    have BX : Blk (w1.alloc (.cells #[.string (keyB op), .string { data := #[] }] 62)) w1.heap.size [.string u.1, .string u.2] 62 := by
      rw [HUV.out]
      exact Blk.new w1 #[.string (keyB op), .string { data := #[] }] 62
    have BR := ((Blk.new wr #[.string { data := #[] }, .string { data := #[] }] 62).up U1.out).up ((Up.refl w1).alloc (.cells #[.string (keyB op), .string { data := #[] }] 62))
    have UW := Lib.hid ((((Up.refl wr).alloc _).trans U1.out).trans ((Up.refl w1).alloc (.cells #[.string (keyB op), .string { data := #[] }] 62)))
    generalize (w1.alloc (.cells #[.string (keyB op), .string { data := #[] }] 62)) = W at *
    clear U1
    have hrb : wr.heap.size ≤ wr.heap.size := Nat.le_refl _
    generalize hbq : w1.heap.size = bx at *
    generalize hrq : wr.heap.size = rb at *
    have y0 := (BX.at (i := 0) rfl).2
    have y1 := (BX.at (i := 1) rfl).2
    have z0 := (BR.at (i := 0) rfl).2
    have z1 := (BR.at (i := 1) rfl).2
    have zf0 := BR.free 0
    have zf1 := BR.free 1
    have yl := BX.lt
    have zl := BR.lt
    have hne : ¬ bx = rb := by omega
    have HBX := Lib.hid BX
    have HBR := Lib.hid BR
    clear BX BR
    go_region_held3 (fun w' => w'.cell? ⟨bx, 0, none⟩ = some (.string u.1) ∧ w'.cell? ⟨bx, 1, none⟩ = some (.string u.2)) (first | exact ⟨y0, y1⟩ | exact ⟨r0, r1⟩ | exact ⟨(Chg.cell ((chg_set w5 rb 0 none _).trans (chg_set _ rb 1 none _) fun _ _ e => e) bl hne).trans r0, (Chg.cell ((chg_set w5 rb 0 none _).trans (chg_set _ rb 1 none _) fun _ _ e => e) bl hne).trans r1⟩ | go_keep) (first
      | (go_at_call 51; refine (HP.out _ (UW.out.drew) (by simpa using zl)).mono ?_; rintro e w5 ⟨k, rfl, P1, P2, P3⟩; have q0 : w5.cell? ⟨rb, 0, none⟩ = some (.string { data := #[] }) := (World.cell?_of_block (w := W) (a := ⟨rb, 0, none⟩) (P1.out rb (by omega) (by simpa using zl))).trans z0; have q1 : w5.cell? ⟨rb, 1, none⟩ = some (.string { data := #[] }) := (World.cell?_of_block (w := W) (a := ⟨rb, 1, none⟩) (P1.out rb (by omega) (by simpa using zl))).trans z1; have qf0 : w5.frozen? ⟨rb, 0, none⟩ = false := (Blk.free (b := rb) (xs := [.string { data := #[] }, .string { data := #[] }]) (E := 62) ((P1.out rb (by omega) (by simpa using zl)).trans HBR.out) 0); have qf1 : w5.frozen? ⟨rb, 1, none⟩ = false := (Blk.free (b := rb) (xs := [.string { data := #[] }, .string { data := #[] }]) (E := 62) ((P1.out rb (by omega) (by simpa using zl)).trans HBR.out) 1); have ql : rb < w5.heap.size := (by have := P2.out; have h := zl; simp at this; omega); have bl : bx < w5.heap.size := (by have := P2.out; have h := yl; simp at this; omega); have r0 : w5.cell? ⟨bx, 0, none⟩ = some (.string u.1) := (World.cell?_of_block (w := W) (a := ⟨bx, 0, none⟩) (P1.out bx (by omega) (by simpa using yl))).trans y0; have r1 : w5.cell? ⟨bx, 1, none⟩ = some (.string u.2) := (World.cell?_of_block (w := W) (a := ⟨bx, 1, none⟩) (P1.out bx (by omega) (by simpa using yl))).trans y1)
      | fail)
    all_goals
      clear y0 y1 z0 z1 zf0 zf1 yl zl r0 r1
      go_wp2
      (try simp only [Exit.inBlock, Exit.then])
      refine bodyPost_ret (v := .tuple #[.agg #[.string u.1, .string u.2], .int .i64 k]) ?_ rfl ⟨k, by rw [HU.out], ?_⟩
      · rw [results_cell_tmp rfl]; go_simp
      · rw [← HU.out]
        exact P3.out _ ((chg_set w5 rb 0 none _).trans (chg_set _ rb 1 none _) fun _ _ e => e)
end
end Go.Proofs.Ytmaeeidaegigcaa.Ck

/- checkpointWorks. -/
namespace Go.Proofs.Ytmaeeidaegigcaa.Ck
open Go Go.RowKit Hp So
open Wl (Log LogR LogPost fx_lt St IsB BytD)
set_option linter.unusedVariables false

theorem one_pos (k x : ByteArray) : pos [(k, x)] k = 0 := pos_eq (Nat.zero_le _) (fun j _ h => absurd h (Nat.not_lt_zero _)) fun _ => slt_irrefl k
theorem one_has (k x : ByteArray) : has [(k, x)] k = true := by
  unfold has
  rw [decide_eq_true_eq]
  refine ⟨by rw [one_pos]; exact Nat.zero_lt_one, ?_⟩
  simp only [one_pos]
  rfl
section
variable {w wr : World} {p : Nat} {C : Ck} {uv : Value} {U : Ws} {n i d : Nat} {base us : Ws}
set_option maxRecDepth 100000 in
set_option maxHeartbeats 1000000 in
theorem hget (h : Hold w wr p C uv U) (k x : ByteArray) (he : C.ents = [(k, x)]) :
    Calls Try.prog 52 #[.pointer (some ⟨p, 0, none⟩), .string k] wr fun e w' => e = .returned (.tuple #[.string x, .int .i64 0]) ∧ Up wr w' := by
  obtain ⟨F, ⟨q, r, Fl, Fd, ev, pv, h1⟩, _⟩ := h
  have h2 := h1.ent
  rw [he] at h2
  obtain ⟨g, c, rfl, g1, g2, g3, g4, _⟩ := own_some h2 Nat.zero_lt_one
  have HS := Lib.hid (search_any _ [(k, x)] k wr h2 (List.pairwise_singleton _ _) (by show 1 ≤ 1000; decide))
  rw [one_pos, one_has] at HS
  have c0 := (h1.blk.at (i := 0) rfl).2
  have hpl := h1.blk.lt
  have B1 := Lib.hid h1.blk
  have x1 := g4 1 (.string x) rfl
  clear h1 h2 g4
  go_enter Try.func52, Try.ntmps52
  go_wp2_with (first
    | (go_at_call 69; refine HS.out.mono ?_; rintro e w1 ⟨rfl, h1⟩; have y0 := (h1.cell (p := ⟨p, 0, none⟩) hpl).trans c0; have y1 := (h1.cell (p := ⟨g, 1, none⟩) g3).trans x1; have U1 := Lib.hid h1; clear h1)
    | fail)
  go_ret2
  exact ⟨rfl, U1.out⟩
theorem hnew (n : Nat) (w : World) (h1 : 4 ≤ n) (h2 : n ≤ 256) :
    Calls Try.prog 32 #[.int .i64 (n : Int)] w fun e w' => ∃ p, e = .returned (.tuple #[.pointer (some ⟨p, 0, none⟩), .int .i64 0]) ∧ Hid (Hold w w' p (newC n) (.slice none 0 0) []) ∧ Hid (Up w w') := by
  refine (new_any n w h1 h2).mono ?_
  rintro e w' ⟨p, F, rfl, a1, a2, a3⟩
  exact ⟨p, rfl, ⟨F, a1, a2, World.ownsRow_nil _ _ _ _, fun k hk => (by cases hk), a3⟩, a3⟩
theorem Cs.new (n : Nat) (h : 4 ≤ n) : Cs n 0 (newC n) [] [] 0 := ⟨St.new n h, CI.new n, fun e he => (by cases he), fun e he => (by cases he)⟩
theorem put_one (h : Hold w wr p (newC 10) uv U) :
    Calls Try.prog 51 #[.pointer (some ⟨p, 0, none⟩), .string { data := #[97] }, .string { data := #[120] }] wr fun e w' => e = .returned (.int .i64 0) ∧ ∃ L', Hid (Cs 10 1 { newC 10 with log := L', ents := [({ data := #[97] }, { data := #[120] })] } [] [({ data := #[97] }, { data := #[120] })] 0) ∧ Hid (Hold w w' p { newC 10 with log := L', ents := [({ data := #[97] }, { data := #[120] })] } uv U) := by
  obtain ⟨F, h1, h2, h3, h4, h5⟩ := h
  have hc := Cs.new 10 (by decide)
  have hf : fullL (newC 10).ents ({ data := #[97] }, { data := #[120] }) = false := by unfold fullL; rw [show decide ((newC 10).ents.length = 20) = false from rfl, Bool.and_false]
  have hnf : (newC 10).log.full (recU ({ data := #[97] }, { data := #[120] })).length = false := notfull_log hc.st _ (by rw [recU_len]; show 0 + 2 + _ + 40 ≤ 160; decide)
  have ha : apL (newC 10).ents ({ data := #[97] }, { data := #[120] }) = [({ data := #[97] }, { data := #[120] })] := by
    show apL [] _ = _
    unfold apL
    rw [if_neg (by unfold has; simp), if_neg (fun e => by have := congrArg ByteArray.size e; revert this; decide)]
    rfl
  refine (put_any h1 hc.st (by decide) (by decide) (by decide) WOk.nil { data := #[97] } { data := #[120] } (by decide) (by decide) hf).mono ?_
  intro e w' hh
  rw [hnf, if_neg (by decide)] at hh
  obtain ⟨he, L', s1, p1⟩ := hh
  rw [ha] at p1
  refine ⟨he, L', ⟨s1.out, ?_, fun e he => (by cases he), ?_⟩, Hold.post h1 h2 h3 h4 h5 p1.out⟩
  · have := hc.ci.put L' ({ data := #[97] }, { data := #[120] }) (by decide) (by decide) (by decide) hf
    rw [ha] at this
    exact this
  · intro e he
    rw [List.mem_singleton.1 he]
    exact ⟨0, by decide, rfl⟩
set_option maxRecDepth 100000 in
set_option maxHeartbeats 2000000 in
theorem works_any (w : World) : Calls Try.prog 31 #[] w fun e w' => e = .returned (.bool true) ∧ Up w w' := by
  go_enter Try.func31, Try.ntmps31
  go_wp2_with (first
    | (go_at_call 52; refine (hget H4.out { data := #[97] } { data := #[120] } HE.out).mono ?_; rintro e w5 ⟨rfl, h5⟩; have U5 := Lib.hid (H4.out.world.trans h5); clear h5)
    | (go_at_call 41; refine (hcrash H3.out S3.out (by decide) (by decide) (by decide) (by show 0 < 1000; decide) [] [] _ _ (Arr.nil _ _ _) (Arr.nil _ _ _)).mono ?_; rintro e w4 ⟨rfl, C4, j4, g1, g2, g3, S4, H4⟩; have HE : Hid (C4.ents = [({ data := #[97] }, { data := #[120] })]) := (by rw [show j4 = 1 from Nat.le_antisymm g2 g1] at g3; exact g3); clear g1 g2 g3)
    | (go_at_call 37; refine (hsync H2.out S2.out).mono ?_; rintro e w3 ⟨rfl, L3, S3, H3⟩)
    | (go_at_call 51; refine (put_one H1.out).mono ?_; rintro e w2 ⟨rfl, L2, S2, H2⟩)
    | (go_at_call 32; refine (hnew 10 _ (by decide) (by decide)).mono ?_; rintro e w1 ⟨p, rfl, H1, U1⟩)
    | fail)
  go_ret
  exact ⟨by first | rfl | simp, U5.out⟩
end
end Go.Proofs.Ytmaeeidaegigcaa.Ck
