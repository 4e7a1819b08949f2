/- The multi-version store: Scan. -/
import Derived.Test.YtinmpodnfofmdaaMvh
namespace Go.Proofs.Ytinmpodnfofmdaa.Mv
open Go Go.RowKit Hp So
set_option linter.unusedVariables false

theorem Try.infoRec : (Try.prog.info? 45).map (fun i => (i.zero, i.size, i.bytes)) = some (some (.agg #[.string ByteArray.empty, .slice none 0 0]), 2, 40) := by kernel_rfl
/-- Records as Scan hands them out. -/
structure RM where
  key : ByteArray
  rv : Value
  row : List Val
def rmC1 (r : RM) : List Value := [.string r.key, r.rv]
def rmC (l : List RM) : List Value := l.flatMap rmC1
theorem rmC_len (l : List RM) : (rmC l).length = l.length * 2 := fm_len (k := 2) (fun _ => rfl) l
def erR (r : RM) : ByteArray × List Val := (r.key, r.row)
/-- A slice of records with rows of their own, all from block B on. -/
def RecsR (w : World) (B : Nat) (v : Value) (l : List (ByteArray × List Val)) : Prop :=
  ∃ rs : List RM, rs.map erR = l ∧ w.ownsRow B 45 2 v rs.length (rmC rs) ∧ (∀ r ∈ rs, w.ownsRow B 39 3 r.rv r.row.length (rowC r.row)) ∧ rs.Pairwise fun a b => ∀ k, a.rv.ownBlock = some k → b.rv.ownBlock ≠ some k
theorem RecsR.chg {S : Nat → Prop} {w w' : World} {B : Nat} {v : Value} {l : List (ByteArray × List Val)} (h : RecsR w B v l) (hc : Chg S w w') (hS : ∀ k, B ≤ k → ¬ S k) : RecsR w' B v l := by
  obtain ⟨rs, h1, h2, h3, h4⟩ := h
  exact ⟨rs, h1, own_chg h2 hc fun k hk => hS k ((own_ty h2) k hk).2, fun r hr => own_chg (h3 r hr) hc fun k hk => hS k ((own_ty (h3 r hr)) k hk).2, h4⟩
theorem RecsR.up {w w' : World} {B : Nat} {v : Value} {l : List (ByteArray × List Val)} (h : RecsR w B v l) (hu : Up w w') : RecsR w' B v l := h.chg (Below.chg (fun _ => False) hu) fun _ _ e => e
theorem RecsR.nil (w : World) (B : Nat) : RecsR w B (.slice none 0 0) [] := ⟨[], rfl, World.ownsRow_nil _ _ _ _, (fun r hr => by cases hr), List.Pairwise.nil⟩
/-- One record more. -/
theorem RecsR.snoc {w w1 w2 W : World} {B : Nat} {v v' rv : Value} {rs : List RM} {key : ByteArray} {row : List Val} (h2 : w.ownsRow B 45 2 v rs.length (rmC rs)) (h3 : ∀ r ∈ rs, w.ownsRow B 39 3 r.rv r.row.length (rowC r.row)) (h4 : rs.Pairwise fun a b => ∀ k, a.rv.ownBlock = some k → b.rv.ownBlock ≠ some k)
    (hB : B ≤ w.heap.size) (hW : Up w W) (hown : w1.ownsRow W.heap.size 39 3 rv row.length (rowC row)) (h1 : Up W w1) (ho2 : w2.ownsRow B 45 2 v' (rs.length + 1) (rmC rs ++ rmC1 ⟨key, rv, row⟩)) (hc : Chg (fun j => v.ownBlock = some j) w1 w2) : RecsR w2 B v' (rs.map erR ++ [(key, row)]) := by
  have hb := h1.size
  have hb2 := hW.size
  have far : ∀ k, Ty w1 k 39 → ¬ v.ownBlock = some k := fun k ht e => ht.ne (by decide) (((own_ty (own_up h2 (Up.trans hW h1))) k e).1)
  have hnew : w2.ownsRow B 39 3 rv row.length (rowC row) := own_base' (own_chg hown hc fun k hk => far k ((own_ty hown) k hk).1) fun k hk => by have := ((own_ty hown) k hk).2; omega
  refine ⟨rs ++ [⟨key, rv, row⟩], by simp [erR], ?_, fun r hr => ?_, List.pairwise_append.2 ⟨h4, List.pairwise_singleton _ _, fun a ha b hb' k hk => ?_⟩⟩
  · rw [List.length_append]
    simpa [rmC, List.flatMap_append] using ho2
  · rcases List.mem_append.1 hr with hr | hr
    · exact own_chg (own_up (h3 r hr) (Up.trans hW h1)) hc fun k hk => far k ((own_ty (own_up (h3 r hr) (Up.trans hW h1))) k hk).1
    · rw [List.mem_singleton.1 hr]; exact hnew
  · rw [List.mem_singleton.1 hb']
    intro e
    have := own_lt (h3 a ha) k hk
    have := ((own_ty hown) k e).2
    omega
theorem scan_take (l : List PC) (ts : Int) (k : Nat) (h : k < l.length) : scanL (l.take (k + 1)) ts = scanL (l.take k) ts ++ (match vis1 l[k].2 ts with | some r => [(l[k].1, r)] | none => []) := by
  unfold scanL
  rw [List.take_succ_eq_append_getElem h, List.filterMap_append]
  cases hv : vis1 l[k].2 ts <;> simp [hv]
theorem scan_len (l : List PC) (ts : Int) : (scanL l ts).length ≤ l.length := List.length_filterMap_le _ _
def ScanPost (w : World) (l : List (ByteArray × List Val)) (e : Ending) (w' : World) : Prop := ∃ v, e = .returned (.tuple #[v, .int .i64 0]) ∧ RecsR w' w.heap.size v l ∧ Up w w'
set_option maxRecDepth 100000 in
set_option maxHeartbeats 2000000 in
theorem scan_gone (p : Nat) (l : List PC) (hz : Int) (F : Nat → Prop) (ts : Int) (w : World) (h : StR w p l hz F) (ht : ts < hz) :
    Calls Try.prog 26 #[.pointer (some ⟨p, 0, none⟩), .int .i64 ts] w fun e w' => e = .returned (.tuple #[.slice none 0 0, .int .i64 21]) ∧ Up w w' := by
  obtain ⟨cv, cs, h, rfl, ok⟩ := h
  have c1 := h.blk.cell 1
  rw [show ([cv, .int .i64 hz])[1]? = some (.int .i64 hz) from rfl] at c1
  clear h ok
  go_enter Try.func26, Try.ntmps26
  go_wp2
  go_ret2
  exact ⟨rfl, Up.refl _⟩

theorem rcell (w : World) (g : Nat) (hg : w.heap.size = g) (a b : Value) (E : TypeId) : ∀ (j : Nat) u, [a, b][j]? = some u → (w.alloc (.cells #[a, b] E)).cell? ((⟨g, 0, none⟩ : Addr).add j) = some u := by
  subst hg
  exact cells_new w #[a, b] E
set_option maxRecDepth 100000 in
set_option maxHeartbeats 4000000 in
theorem scan_any (p : Nat) (l : List PC) (hz : Int) (F : Nat → Prop) (ts : Int) (w : World) (h : StR w p l hz F) (ht : ¬ ts < hz) :
    Calls Try.prog 26 #[.pointer (some ⟨p, 0, none⟩), .int .i64 ts] w (ScanPost w (scanL l ts)) := by
  obtain ⟨i0, hi0, hz0, hz1, hz2⟩ := info_parts Try.infoRec
  obtain ⟨cv, cs, h, rfl, ok⟩ := h
  have hlen := ok.len
  rw [List.length_map] at hlen
  have HS := Lib.hid h
  have HOK := Lib.hid ok
  obtain ⟨a, cap, rfl, _, _, _⟩ := own_form h.chn
  have c1 := h.blk.cell 1
  rw [show ([Value.slice a cs.length cap, .int .i64 hz])[1]? = some (.int .i64 hz) from rfl] at c1
  have c0 := h.blk.cell 0
  rw [show ([Value.slice a cs.length cap, .int .i64 hz])[0]? = some (.slice a cs.length cap) from rfl] at c0
  clear h ok
  go_enter Try.func26, Try.ntmps26
  go_wp2
  go_loopw [6, 22] (fun v i wr => ∃ k : Nat, k ≤ cs.length ∧ i = .int .i64 k ∧ Hid (RecsR wr w.heap.size v (scanL ((cs.map erC).take k) ts)) ∧ Hid (Up w wr)) (fun _ i _ => cs.length - (intOf i).toNat)
  case atStart => exact ⟨0, by omega, rfl, RecsR.nil _ _, Up.refl _⟩
  case round =>
    obtain ⟨k, hk, rfl, HRc, HU⟩ := hrel
    by_cases hlt : k < cs.length
    · obtain ⟨g, cap2, g1, m, cap1, key, vt, tb, B, ra, rn, rc, row, H⟩ := HS.out.vis HOK.out hlt ts
      obtain ⟨hcv, ⟨hcl, hcap⟩, k0, e1, hvis, hrow, hrl, hone⟩ := H
      simp only [Value.slice.injEq] at hcv
      obtain ⟨rfl, _, rfl⟩ := hcv
      have k0 := (k0.grow HU.out).2
      have e1 := (e1.grow HU.out).2
      have HVIS := Lib.hid hvis
      have hkl : k < (cs.map erC).length := by rw [List.length_map]; exact hlt
      have ST := scan_take (cs.map erC) ts k hkl
      rw [show (cs.map erC)[k] = erC cs[k] by simp, (hone hlt).1] at ST
      have hkey : (erC cs[k]).1 = key := (hone hlt).2
      rw [hkey] at ST
      have HCL : Hid (∀ W, Up w W → Calls Try.prog 48 #[.slice ra rn rc] W fun e w' => ∃ v', e = .returned v' ∧ w'.ownsRow W.heap.size 39 3 v' row.length (rowC row) ∧ Up W w') := fun W hu => cloneR _ _ _ W (hrow.1.up hu) (rowC_one _) (by omega)
      clear hvis hrow hone hkey
      cases B with
      | false =>
        rw [if_neg (by simp)] at ST
        have HST := Lib.hid ST
        clear ST
        go_wp2_with (first
          | (go_at_call 49; refine (HVIS.out _ (HU.out.alloc _)).mono ?_; rintro e w2 ⟨rfl, h5⟩; have H5 := Lib.hid ((HU.out.alloc _).trans h5); have H6 := Lib.hid (((Up.refl _).alloc _).trans h5); clear h5))
        go_roundw
        case rel => exact ⟨k + 1, by omega, by go_num, by unfold Hid; rw [HST.out]; simpa using HRc.out.up (H6.out.alloc _), H5.out.alloc _⟩
        case measure => simp [intOf]; omega
      | true =>
        rw [if_pos rfl] at ST
        have HST := Lib.hid ST
        clear ST
        obtain ⟨rs, hr1, hr2, hr3, hr4⟩ := HRc.out
        obtain ⟨av, cv', rfl, _, _, _⟩ := own_form hr2
        have HR1 := Lib.hid hr1
        have HR2 := Lib.hid hr2
        have HR3 := Lib.hid hr3
        have HR4 := Lib.hid hr4
        have hrsl : rs.length ≤ 400 := by
          have h1 := congrArg List.length hr1
          have h2 := scan_len ((cs.map erC).take k) ts
          rw [List.length_map] at h1
          rw [List.length_take, List.length_map] at h2
          have : min k cs.length ≤ k := Nat.min_le_left _ _
          omega
        have hzw := HU.out.size
        clear hr1 hr2 hr3 hr4 HRc
        go_wp2_with (first
          | (go_at_call 49; refine (HVIS.out _ (HU.out.alloc _)).mono ?_; rintro e w2 ⟨rfl, h5⟩; have H5 := Lib.hid ((HU.out.alloc _).trans h5); have H6 := Lib.hid (((Up.refl _).alloc _).trans h5); have H7 := Lib.hid h5; have y0 := ((At.new wr #[.string key, .slice (some ⟨g1, 0, none⟩) m cap1] 85 0 (.string key) rfl).grow h5); clear h5))
        obtain ⟨W, hW⟩ : ∃ W, W = w2.alloc (.cells #[.int .i64 vt, .bool tb, .slice ra rn rc] 82) := ⟨_, rfl⟩
        rw [← hW]
        have z2 : At W w2.heap.size 2 (.slice ra rn rc) := by rw [hW]; exact At.new _ _ _ 2 _ rfl
        have UW : Up w2 W := by rw [hW]; exact (Up.refl _).alloc _
        have y1 := y0.grow UW
        have Z2 := Lib.hid z2
        have Y1 := Lib.hid y1
        have c2 := z2.2
        have c3 := y1.2
        have HW : Hid (Up w W) := H5.out.trans UW
        have HWr : Hid (Up wr W) := (H6.out).trans UW
        clear hW y0 y1 z2 UW k0 e1
        go_region_held3 (fun w' => w'.cell? ⟨wr.heap.size, 0, none⟩ = some (.string key) ∧ w'.cell? ⟨w2.heap.size, 2, none⟩ = some (.slice ra rn rc))
          (first | exact ⟨s1, s2⟩ | exact ⟨r1, r2⟩ | go_keep)
          (first
            | (refine (HCL.out _ (by first | exact HW.out | exact HW.out.drew)).mono ?_; rintro e w3 ⟨nv, rfl, h6, h7⟩; obtain ⟨an, cn, rfl, _, _, _⟩ := own_form h6; have h7' : Up W w3 := (by first | exact ((Up.refl W).drew).trans h7 | exact h7); have r1 := (Y1.out.grow h7').2; have r2 := (Z2.out.grow h7').2; have H8 := Lib.hid h6; have H9 := Lib.hid h7'; clear h6 h7 h7')
            | (refine step_append_lies _ rfl (.tmp 33) (.tmp 40) 41 rfl w.heap.size 45 i0 (.agg #[.string ByteArray.empty, .slice none 0 0]) 2 40 Try.underlying41 hi0 hz0 hz1 hz2 rfl (by decide) (.slice av rs.length cv') rs.length (rmC rs) (by rfl) (by first | exact own_up HR2.out ((HWr.out.trans H9.out).alloc _) | exact own_up HR2.out (((HWr.out.trans H9.out).alloc _).drew)) ⟨w3.heap.size, 0, none⟩ 1 1 [.string key, .slice an row.length cn] (by rfl) rfl (rcell w3 w3.heap.size rfl _ _ _) (by intro u hu; simp at hu; rcases hu with rfl | rfl <;> rfl) (by decide) (by unfold maxLen; omega) (by omega) (by have := (HW.out.trans H9.out).size; simp; omega) (w3.heap.size + 1) (by simp) ?_
               intro g2 c2 w4 hown2 hgrow2 hat2 hlt2
               have HC : Hid (Chg (fun j => (Value.slice av rs.length cv').ownBlock = some j) w3 w4) := ((Chg.refl _ w3).alloc _).grown hgrow2 fun k hk => .inl hk
               have nv : ∀ j, (Value.slice av rs.length cv').ownBlock = some j → j < wr.heap.size ∧ w.heap.size ≤ j := fun j hj => ⟨own_lt HR2.out j hj, ((own_ty HR2.out) j hj).2⟩
               have NV := Lib.hid nv
               have s1 := (HC.out.cell (b := wr.heap.size) (o := 0) (Y1.out.grow H9.out).1 (fun e => by have := (NV.out _ e).1; omega)).trans r1
               have s2 := (HC.out.cell (b := w2.heap.size) (o := 2) (Z2.out.grow H9.out).1 (fun e => by have := (NV.out _ e).1; have := H6.out.size; omega)).trans r2
               clear nv
               have hown2 := Lib.hid hown2
               have hgrow2 := Lib.hid hgrow2
               have hat2 := Lib.hid hat2)
               | fail)
        all_goals
          go_wp2
          go_roundw
          case rel =>
            refine ⟨k + 1, by omega, by go_num, ?_, ?_⟩
            · unfold Hid
              rw [HST.out, ← HR1.out]
              exact RecsR.snoc HR2.out HR3.out HR4.out hzw HWr.out (own_base' H8.out fun k hk => ((own_ty H8.out) k hk).2) H9.out hown2.out HC.out
            · exact ((HW.out.trans H9.out).chg fun _ => False).trans HC.out (fun j hj e => by have := (NV.out j e).2; omega) |>.up fun _ _ e => e
          case measure => simp [intOf]; omega
    · obtain rfl : k = cs.length := by omega
      have HST : Hid ((cs.map erC).take cs.length = cs.map erC) := by have := List.take_length (l := cs.map erC); rw [List.length_map] at this; exact this
      rw [HST.out] at HRc
      obtain ⟨rs, hr1, hr2, hr3, hr4⟩ := HRc.out
      obtain ⟨av, cv', rfl, _, _, _⟩ := own_form hr2
      clear hr1 hr2 hr3 hr4
      go_wp2
      go_ret2
      exact ⟨_, rfl, HRc.out, HU.out⟩
end Go.Proofs.Ytinmpodnfofmdaa.Mv
