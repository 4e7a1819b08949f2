/- joined: Mvn, Mvo -/
import Derived.Test.YtnbhdpmhgamjfaaMvi
/- The multi-version store: Scan. -/
namespace Go.Proofs.Ytnbhdpmhgamjfaa.Mv
open Go Go.RowKit Hp So
set_option linter.unusedVariables false

/-- Records as Scan hands them out. -/
structure RM where
  key : ByteArray
  rv : Value
  row : List Val
def rmC1 (r : RM) : List Value := [.string r.key, r.rv]
def rmC (l : List RM) : List Value := l.flatMap rmC1
theorem rmC_len (l : List RM) : (rmC l).length = l.length * 2 := fm_len (k := 2) (fun _ => rfl) l
def erR (r : RM) : ByteArray × List Val := (r.key, r.row)
theorem scan_take (l : List PC) (ts : Int) (k : Nat) (h : k < l.length) : scanL (l.take (k + 1)) ts = scanL (l.take k) ts ++ (match vis1 l[k].2 ts with | some r => [(l[k].1, r)] | none => []) := by
  unfold scanL
  rw [List.take_succ_eq_append_getElem h, List.filterMap_append]
  cases hv : vis1 l[k].2 ts <;> simp [hv]
theorem scan_len (l : List PC) (ts : Int) : (scanL l ts).length ≤ l.length := List.length_filterMap_le _ _
theorem rcell (w : World) (g : Nat) (hg : w.heap.size = g) (a b : Value) (E : TypeId) : ∀ (j : Nat) u, [a, b][j]? = some u → (w.alloc (.cells #[a, b] E)).cell? ((⟨g, 0, none⟩ : Addr).add j) = some u := by
  subst hg
  exact cells_new w #[a, b] E

end Go.Proofs.Ytnbhdpmhgamjfaa.Mv

/- The multi-version store: Vacuum, the plain part and what its loop keeps. -/
namespace Go.Proofs.Ytnbhdpmhgamjfaa.Mv
open Go Go.RowKit Hp So
set_option linter.unusedVariables false

/-- How many versions of a chain go. -/
def vdrop (l : List PV) (ts : Int) : Nat :=
  if 0 < l.findIdx (fun v => decide (ts < v.ts)) ∧ (l.getD (l.findIdx (fun v => decide (ts < v.ts)) - 1) ⟨0, false, []⟩).tomb = true then l.findIdx (fun v => decide (ts < v.ts)) else l.findIdx (fun v => decide (ts < v.ts)) - 1
def vac1 (c : PC) (ts : Int) : Option PC := if vdrop c.2 ts < c.2.length then some (c.1, c.2.drop (vdrop c.2 ts)) else none
def vacL (l : List PC) (ts : Int) : List PC := l.filterMap fun c => vac1 c ts
def vacuumL (l : List PC) (hz ts : Int) : List PC × Int × Int := if ts < 0 ∨ 1099511627776 < ts then (l, hz, 1) else if ts ≤ hz then (l, hz, 0) else (vacL l ts, ts, 0)
/-- Where the loop comes to a stand. -/
theorem vidx_stop {l : List PV} (hs : l.Pairwise fun a b => a.ts < b.ts) {ts : Int} {f : Nat} (hf : f < l.length) (h1 : ∀ j (h : j < l.length), 1 ≤ j → j ≤ f → l[j].ts ≤ ts) (h2 : ∀ h : f + 1 < l.length, ts < l[f + 1].ts) : l.findIdx (fun v => decide (ts < v.ts)) - 1 = f ∧ (0 < l.findIdx (fun v => decide (ts < v.ts)) ↔ l[f].ts ≤ ts) := by
  by_cases h0 : l[0].ts ≤ ts
  · have e : l.findIdx (fun v => decide (ts < v.ts)) = f + 1 := by
      have low : ∀ j, j < f + 1 → ∀ (h : j < l.length), l[j].ts ≤ ts := fun j hj h => by
        rcases Nat.eq_zero_or_pos j with e | e
        · subst e; exact h0
        · exact h1 j h e (by omega)
      by_cases h : f + 1 < l.length
      · exact (List.findIdx_eq h).2 ⟨by simpa using h2 h, fun j hj => by have := low j hj (by omega); simp; omega⟩
      · have : f + 1 = l.length := by omega
        rw [this, List.findIdx_eq_length]
        intro x hx
        obtain ⟨j, hj, rfl⟩ := List.getElem_of_mem hx
        have := low j (by omega) hj
        simp; omega
    rw [e]
    refine ⟨by omega, fun _ => ?_, fun _ => by omega⟩
    rcases Nat.eq_zero_or_pos f with e2 | e2
    · subst e2; exact h0
    · exact h1 f hf e2 (Nat.le_refl _)
  · have f0 : f = 0 := by
      rcases Nat.eq_zero_or_pos f with e2 | e2
      · exact e2
      · have a := h1 f hf e2 (Nat.le_refl _)
        have b := List.pairwise_iff_getElem.1 hs 0 f (by omega) hf e2
        omega
    subst f0
    have e : l.findIdx (fun v => decide (ts < v.ts)) = 0 := (List.findIdx_eq hf).2 ⟨by simp; omega, fun j hj => by omega⟩
    rw [e]
    exact ⟨rfl, fun h => by omega, fun h => absurd h h0⟩
theorem vdrop_stop {l : List PV} (hs : l.Pairwise fun a b => a.ts < b.ts) {ts : Int} {f : Nat} (hf : f < l.length) (h1 : ∀ j (h : j < l.length), 1 ≤ j → j ≤ f → l[j].ts ≤ ts) (h2 : ∀ h : f + 1 < l.length, ts < l[f + 1].ts) : vdrop l ts = if l[f].ts ≤ ts ∧ l[f].tomb = true then f + 1 else f := by
  obtain ⟨e1, e2⟩ := vidx_stop hs hf h1 h2
  unfold vdrop
  rw [e1]
  have gd : l.getD f ⟨0, false, []⟩ = l[f] := by simp [List.getD, hf]
  rw [gd]
  by_cases h : l[f].ts ≤ ts
  · have := e2.2 h
    by_cases ht : l[f].tomb = true
    · rw [if_pos ⟨this, ht⟩, if_pos ⟨h, ht⟩]; omega
    · rw [if_neg (fun e => ht e.2), if_neg (fun e => ht e.2)]
  · rw [if_neg (fun e => h (e2.1 e.1)), if_neg (fun e => h e.1)]
theorem vac_take (l : List PC) (ts : Int) (k : Nat) (h : k < l.length) : vacL (l.take (k + 1)) ts = vacL (l.take k) ts ++ (vac1 l[k] ts).toList := by
  unfold vacL
  rw [List.take_succ_eq_append_getElem h, List.filterMap_append]
  cases hv : vac1 l[k] ts <;> simp [hv]
theorem vac_len (l : List PC) (ts : Int) : (vacL l ts).length ≤ l.length := List.length_filterMap_le _ _
theorem vac_mem {l : List PC} {ts : Int} {c : PC} (h : c ∈ vacL l ts) : ∃ c0 ∈ l, c.1 = c0.1 ∧ c.2 = c0.2.drop (vdrop c0.2 ts) ∧ c.2 ≠ [] := by
  obtain ⟨c0, hc0, he⟩ := List.mem_filterMap.1 h
  unfold vac1 at he
  split at he
  · rename_i hlt
    simp only [Option.some.injEq] at he
    subst he
    refine ⟨c0, hc0, rfl, rfl, fun e => ?_⟩
    have := congrArg List.length e
    simp at this
    omega
  · cases he
theorem cnt_vac (l : List PC) (ts : Int) : cnt (vacL l ts) ≤ cnt l := by
  induction l with
  | nil => simp [vacL, cnt]
  | cons a l ih =>
    unfold vacL at *
    rw [List.filterMap_cons]
    have ea : cnt (a :: l) = a.2.length + cnt l := by simp [cnt]
    cases hv : vac1 a ts with
    | none => simp only; omega
    | some b =>
      simp only
      have : cnt (b :: l.filterMap fun c => vac1 c ts) = b.2.length + cnt (l.filterMap fun c => vac1 c ts) := by simp [cnt]
      have hb : b.2.length ≤ a.2.length := by
        unfold vac1 at hv
        split at hv
        · simp only [Option.some.injEq] at hv; subst hv; simp
        · cases hv
      omega
theorem SOk.vac {l : List PC} {hz : Int} (h : SOk l hz) (ts : Int) : SOk (vacL l ts) ts := by
  refine ⟨?_, fun c hc => ?_, Nat.le_trans (cnt_vac l ts) h.cnt, fun c hc => ?_, fun c hc v hv => ?_, fun c hc v hv => ?_, fun c hc => ?_⟩
  · unfold Srt vacL
    rw [List.pairwise_filterMap]
    refine h.srt.imp fun {a b} hab c hc d hd => ?_
    have : ∀ {x y : PC}, vac1 x ts = some y → y.1 = x.1 := fun {x y} e => by
      unfold vac1 at e
      split at e
      · simp only [Option.some.injEq] at e; subst e; rfl
      · cases e
    rw [this hc, this hd]; exact hab
  · obtain ⟨_, _, _, _, h4⟩ := vac_mem hc; exact h4
  · obtain ⟨c0, h1, h2, _⟩ := vac_mem hc; rw [h2]; exact h.key c0 h1
  · obtain ⟨c0, h1, _, h3, _⟩ := vac_mem hc; rw [h3] at hv; exact h.row c0 h1 v (List.mem_of_mem_drop hv)
  · obtain ⟨c0, h1, _, h3, _⟩ := vac_mem hc; rw [h3] at hv; exact h.ts c0 h1 v (List.mem_of_mem_drop hv)
  · obtain ⟨c0, h1, _, h3, _⟩ := vac_mem hc; rw [h3]; exact (h.inc c0 h1).sublist (List.drop_sublist _ _)

/-! ### In memory -/
/-- The chains that are being built. -/
structure VacP (w : World) (B : Nat) (F : Nat → Prop) (v : Value) (ms : List MC) : Prop where
  chn : w.ownsRow B 97 2 v ms.length (mcC ms)
  vrs : ∀ c ∈ ms, w.ownsRow B 94 3 c.vv c.vs.length (mvC c.vs)
  vrd : ms.Pairwise fun a b => ∀ k, a.vv.ownBlock = some k → b.vv.ownBlock ≠ some k
  rws : ∀ c ∈ ms, ∀ v ∈ c.vs, RowIn w F v.rv v.row
theorem VacP.chg {S F : Nat → Prop} {w w' : World} {B : Nat} {v : Value} {ms : List MC} (h : VacP w B F v ms) (hc : Chg S w w') (hS : ∀ k, B ≤ k → ¬ S k) (hS2 : ∀ k, F k → Ty w k 47 → ¬ S k) : VacP w' B F v ms :=
  ⟨own_chg h.chn hc fun k hk => hS k ((own_ty h.chn) k hk).2, fun c hcm => own_chg (h.vrs c hcm) hc fun k hk => hS k ((own_ty (h.vrs c hcm)) k hk).2, h.vrd, fun c hcm v hv => (h.rws c hcm v hv).chg hc fun k hk ht => ⟨hS2 k hk ht, hk⟩⟩
theorem VacP.up {F : Nat → Prop} {w w' : World} {B : Nat} {v : Value} {ms : List MC} (h : VacP w B F v ms) (hu : Up w w') : VacP w' B F v ms := h.chg (Below.chg (fun _ => False) hu) (fun _ _ e => e) fun _ _ _ e => e
theorem VacP.nil (w : World) (B : Nat) (F : Nat → Prop) : VacP w B F (.slice none 0 0) [] := ⟨World.ownsRow_nil _ _ _ _, (fun c hc => by cases hc), List.Pairwise.nil, fun c hc => by cases hc⟩
/-- One chain more. -/
theorem VacP.snoc {w w1 w2 W : World} {B : Nat} {F : Nat → Prop} {v v' vv : Value} {ms : List MC} {key : ByteArray} {vs : List MV} (h : VacP w B F v ms) (hB : B ≤ w.heap.size) (hW : Up w W) (hown : w1.ownsRow W.heap.size 94 3 vv vs.length (mvC vs)) (h1 : Up W w1)
    (ho2 : w2.ownsRow B 97 2 v' (ms.length + 1) (mcC ms ++ mcC1 ⟨key, vv, vs⟩)) (hc : Chg (fun j => v.ownBlock = some j) w1 w2) (hrow : ∀ x ∈ vs, RowIn W F x.rv x.row) : VacP w2 B F v' (ms ++ [⟨key, vv, vs⟩]) := by
  have hb := h1.size
  have hb2 := hW.size
  have H1 := h.up (Up.trans hW h1)
  have far : ∀ k T, Ty w1 k T → T ≠ 97 → ¬ v.ownBlock = some k := fun k T ht hT e => ht.ne hT ((own_ty H1.chn) k e).1
  have hnew : w2.ownsRow B 94 3 vv vs.length (mvC vs) := own_base' (own_chg hown hc fun k hk => far k _ ((own_ty hown) k hk).1 (by decide)) fun k hk => by have := ((own_ty hown) k hk).2; omega
  refine ⟨?_, fun c hcm => ?_, List.pairwise_append.2 ⟨h.vrd, List.pairwise_singleton _ _, fun a ha b hb' k hk => ?_⟩, fun c hcm x hx => ?_⟩
  · rw [List.length_append]
    simpa [mcC, List.flatMap_append] using ho2
  · rcases List.mem_append.1 hcm with hcm | hcm
    · exact own_chg (H1.vrs c hcm) hc fun k hk => far k _ ((own_ty (H1.vrs c hcm)) k hk).1 (by decide)
    · rw [List.mem_singleton.1 hcm]; exact hnew
  · rw [List.mem_singleton.1 hb']
    intro e
    have := own_lt (h.vrs a ha) k hk
    have := ((own_ty hown) k e).2
    omega
  · rcases List.mem_append.1 hcm with hcm | hcm
    · exact (H1.rws c hcm x hx).chg hc fun k hk ht => ⟨far k _ ht (by decide), hk⟩
    · rw [List.mem_singleton.1 hcm] at hx
      exact ((hrow x hx).chg (F' := F) (Below.chg (fun _ => False) h1) fun k hk _ => ⟨fun e => e, hk⟩).chg hc fun k hk ht => ⟨far k _ ht (by decide), hk⟩
/-- Behind the last store. -/
theorem VacP.done {w w1 : World} {p : Nat} {F : Nat → Prop} {cv v : Value} {ms : List MC} {ts hz : Int} (hF : ∀ k, F k → k < w.heap.size) (hfp : F p) (hb : Blk w1 p [cv, .int .i64 ts] 83) (h : VacP w1 w.heap.size F v ms) (hC : Chg (fun j => j = p) w w1) :
    StP (w1.setCell ⟨p, 0, none⟩ v) p ms ts (Fx F w (w1.setCell ⟨p, 0, none⟩ v)) v ∧ Chg F w (w1.setCell ⟨p, 0, none⟩ v) := by
  have hz3 : (w1.setCell ⟨p, 0, none⟩ v).heap.size = w1.heap.size := by simp [World.setCell]
  have S1 := chg_set w1 p 0 none v
  have A : Chg (fun j => j = p) w (w1.setCell ⟨p, 0, none⟩ v) := hC.trans S1 fun _ _ e => e
  have far : ∀ k T, Ty w1 k T → T ≠ 83 → ¬ k = p := fun k T ht hT e => by subst e; exact ht.ne hT (blk_ty hb)
  refine ⟨⟨fx_lt hF A.size, .inl hfp, hb.set 0 v, own_base' (own_chg h.chn S1 fun k hk => far k _ ((own_ty h.chn) k hk).1 (by decide)) (fun _ _ => Nat.zero_le _), fun k hk => .inr ⟨((own_ty h.chn) k hk).2, by rw [hz3]; exact own_lt h.chn k hk⟩,
    fun c hcm => own_base' (own_chg (h.vrs c hcm) S1 fun k hk => far k _ ((own_ty (h.vrs c hcm)) k hk).1 (by decide)) (fun _ _ => Nat.zero_le _), fun c hcm k hk => .inr ⟨((own_ty (h.vrs c hcm)) k hk).2, by rw [hz3]; exact own_lt (h.vrs c hcm) k hk⟩, h.vrd,
    fun c hcm x hx => (h.rws c hcm x hx).chg S1 fun k hk ht => ⟨far k _ ht (by decide), .inl hk⟩⟩, A.mono fun j _ e => by subst e; exact hfp⟩
end Go.Proofs.Ytnbhdpmhgamjfaa.Mv
