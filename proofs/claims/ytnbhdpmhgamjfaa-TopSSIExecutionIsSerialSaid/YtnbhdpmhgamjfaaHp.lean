/- Memory that grows, and slices that read as lists: what the walks of this seat share. -/
import Derived.Test.YtnbhdpmhgamjfaaRows
import Derived.WalkKit
import Derived.WalkSpells
import Derived.WalkLawsBesides
import Derived.Handy
import Derived.StillTailTactics
import Derived.Deep.QuietTactic
import Derived.BigQuiet
import Derived.RegionTactic
import Derived.Deep.RegionHeld3
import Derived.Lib.Hide
namespace Go.Proofs.Ytnbhdpmhgamjfaa.Hp
open Go Go.RowKit
set_option linter.unusedVariables false

def modV (k n : Int) : Int := (k % 18446744073709551616) % n
theorem modV_nonneg (k n : Int) (h : 0 < n) : 0 ≤ modV k n := Int.emod_nonneg _ (by omega)
theorem modV_lt (k n : Int) (h : 0 < n) : modV k n < n := Int.emod_lt_of_pos _ h
theorem mod_eq (k n : Int) (h0 : 0 < n) (h1 : n ≤ 1000000) : wrap64 ((IntKind.u64.wrap k).tmod n) = modV k n := by
  have e : IntKind.u64.wrap k = k % 18446744073709551616 := by simp [IntKind.wrap, IntKind.bits, IntKind.signed]
  have hn : 0 ≤ k % 18446744073709551616 := Int.emod_nonneg _ (by omega)
  rw [e, Int.tmod_eq_emod_of_nonneg hn]
  have a := Int.emod_nonneg (k % 18446744073709551616) (show n ≠ 0 by omega)
  have b := Int.emod_lt_of_pos (k % 18446744073709551616) h0
  unfold modV
  exact IntWalk.wrap64_in _ (by omega)

/-- The cell at block b, place o. -/
def At (w : World) (b o : Nat) (v : Value) : Prop := b < w.heap.size ∧ w.cell? ⟨b, o, none⟩ = some v
theorem At.up {w w' : World} {b o : Nat} {v : Value} {B : Nat} (h : At w b o v) (hb : Below B w w') (hB : b < B) : At w' b o v :=
  ⟨by have := h.1; have := hb.size; omega, (hb.cell (p := ⟨b, o, none⟩) hB).trans h.2⟩

theorem ret_int {k : IntKind} {a b : Int} (h : a = b) : Ending.returned (.int k a) = .returned (.int k b) := by rw [h]
theorem ret_bool {a b : Bool} (h : a = b) : Ending.returned (.bool a) = .returned (.bool b) := by rw [h]
abbrev Up (w w' : World) : Prop := Below w.heap.size w w'
theorem Up.refl (w : World) : Up w w := Below.refl _ _
theorem Up.trans {a b c : World} (h : Up a b) (k : Up b c) : Up a c := Below.trans h (k.mono h.size)
theorem Up.alloc {a b : World} (h : Up a b) (o : Obj) : Up a (b.alloc o) := Below.alloc h h.size o
theorem Up.drew {a b : World} (h : Up a b) : Up a b.drew := Below.drew h
theorem Up.drewN {a b : World} (h : Up a b) (n : Nat) : Up a (b.drewN n) := ⟨h.os, h.tape, h.output, h.size, h.block⟩
theorem At.grow {w w' : World} {b o : Nat} {v : Value} (h : At w b o v) (hb : Up w w') : At w' b o v := h.up hb h.1
theorem At.new (w : World) (c : Array Value) (t : TypeId) (o : Nat) (v : Value) (h : c[o]? = some v) : At (w.alloc (.cells c t)) w.heap.size o v :=
  ⟨by simp, by rw [World.cell?_alloc_new]; exact h⟩

/-- For a region that draws its order: w' is w, grown; so every cell of w reads as it did. -/
def Still (w w' : World) : Prop := Up w w' ∧ ∀ b o, b < w.heap.size → w'.cell? ⟨b, o, none⟩ = w.cell? ⟨b, o, none⟩
theorem Still.of {w w' : World} (h : Up w w') : Up w w' ∧ ∀ b o, b < w.heap.size → w'.cell? ⟨b, o, none⟩ = w.cell? ⟨b, o, none⟩ := ⟨h, fun b o hb => h.cell (p := ⟨b, o, none⟩) hb⟩

/-- w, grown: written so, a walk sees through it to the cells of w. -/
def Gr (w : World) : Type := { W : World // Up w W }
instance (w : World) : Nonempty (Gr w) := ⟨⟨w, Up.refl w⟩⟩
def gr (w : World) (g : Gr w) : World := g.1
theorem gr_up (w : World) (g : Gr w) : Up w (gr w g) := g.2
@[go_sem] theorem gr_cell (w : World) (g : Gr w) (b o : Nat) (h : b < w.heap.size) : (gr w g).cell? ⟨b, o, none⟩ = w.cell? ⟨b, o, none⟩ := (gr_up w g).cell (p := ⟨b, o, none⟩) h
theorem Up.gr {w w' : World} (h : Up w w') : ∃ g, w' = gr w g := ⟨⟨w', h⟩, rfl⟩
theorem gr_call {P : Program} {f : FuncId} {args : Array Value} {w : World} {g : Gr w} {v : Value} (h : Calls P f args (gr w g) fun e w' => e = .returned v ∧ Up (gr w g) w') :
    Calls P f args (gr w g) fun e w'' => e = .returned v ∧ ∃ g', w'' = gr w g' := h.mono fun _ _ ⟨a, b⟩ => ⟨a, (Up.trans (gr_up w g) b).gr⟩
theorem gr_call_same {P : Program} {f : FuncId} {args : Array Value} {w : World} {g : Gr w} {v : Value} (h : Calls P f args (gr w g) fun e w' => e = .returned v ∧ gr w g = w') :
    Calls P f args (gr w g) fun e w'' => e = .returned v ∧ ∃ g', w'' = gr w g' := h.mono fun _ _ ⟨a, b⟩ => ⟨a, g, b.symm⟩
theorem gr_callb {P : Program} {f : FuncId} {args : Array Value} {w : World} {g : Gr w} {x y : Bool} (h : Calls P f args (gr w g) fun e w' => e = .returned (.bool x) ∧ Up (gr w g) w') (hxy : x = y) :
    Calls P f args (gr w g) fun e w'' => e = .returned (.bool y) ∧ ∃ g', w'' = gr w g' := by subst hxy; exact gr_call h
/-- A region that draws its order, in which only calls make memory: one walk in the order of the text. -/
theorem wp_region_gr {P : Program} {id : Nat} {Q : Exit → Act → World → Prop} {a : Act} {w : World} {l : List Oper} (hm : P.follows .mixedOrders = true) (hB : Region.lexB .any l.toArray = true)
    (h : wpQuiet P l.toArray (fun w' => ∃ g, w' = gr w g) (fun a' => ∀ w', (∃ g, w' = gr w g) → Q .normal a' w') l a) : (Code.region id l.toArray true).wp P Q a w :=
  wp_region_quiet (C := fun w' => ∃ g, w' = gr w g) hm hB (Up.gr (Up.drew (Up.refl w))) (by simpa using h)

/-- The same behind an elder region: the class is still said from the elder world on. -/
theorem wp_region_gr2 {P : Program} {id : Nat} {Q : Exit → Act → World → Prop} {a : Act} {w : World} {g : Gr w} {l : List Oper} (hm : P.follows .mixedOrders = true) (hB : Region.lexB .any l.toArray = true)
    (h : wpQuiet P l.toArray (fun w' => ∃ g, w' = gr w g) (fun a' => ∀ w', (∃ g, w' = gr w g) → Q .normal a' w') l a) : (Code.region id l.toArray true).wp P Q a (gr w g) :=
  wp_region_quiet (C := fun w' => ∃ g, w' = gr w g) hm hB (Up.gr (Up.drew (gr_up w g))) (by simpa using h)
/-- .. and from whatever world w has grown out of. -/
theorem wp_region_gr3 {P : Program} {id : Nat} {Q : Exit → Act → World → Prop} {a : Act} {w w0 : World} {l : List Oper} (hu : Up w0 w) (hm : P.follows .mixedOrders = true) (hB : Region.lexB .any l.toArray = true)
    (h : wpQuiet P l.toArray (fun w' => ∃ g, w' = gr w0 g) (fun a' => ∀ w', (∃ g, w' = gr w0 g) → Q .normal a' w') l a) : (Code.region id l.toArray true).wp P Q a w :=
  wp_region_quiet (C := fun w' => ∃ g, w' = gr w0 g) hm hB (Up.gr (Up.drew hu)) (by simpa using h)

/-- A slice value that reads as a list: its element i lies at place off + i * size of the block b, as R says. -/
def Arr {α : Type} (R : World → Nat → Nat → α → Prop) (size : Nat) (w : World) (v : Value) (l : List α) : Prop :=
  ∃ a cap, v = .slice a l.length cap ∧ l.length ≤ cap ∧ cap ≤ 9223372036854775807 ∧ (a = none → cap = 0) ∧ ∀ i (h : i < l.length), ∃ b off, a = some ⟨b, off, none⟩ ∧ R w b (off + i * size) l[i]
/-- R abides growth. -/
def Grows {α : Type} (R : World → Nat → Nat → α → Prop) : Prop := ∀ w w' b o x, R w b o x → Up w w' → R w' b o x
theorem Arr.grow {α : Type} {R : World → Nat → Nat → α → Prop} {size : Nat} {w w' : World} {v : Value} {l : List α} (hR : Grows R) (h : Arr R size w v l) (hu : Up w w') : Arr R size w' v l := by
  obtain ⟨a, cap, hv, h1, h2, h2', h3⟩ := h
  exact ⟨a, cap, hv, h1, h2, h2', fun i hi => by obtain ⟨b, off, ha, hr⟩ := h3 i hi; exact ⟨b, off, ha, hR _ _ _ _ _ hr hu⟩⟩
theorem Arr.nil {α : Type} (R : World → Nat → Nat → α → Prop) (size : Nat) (w : World) : Arr R size w (.slice none 0 0) [] := ⟨none, 0, rfl, Nat.le_refl _, by omega, fun _ => rfl, fun i hi => by simp at hi⟩

def IntR (w : World) (b o : Nat) (n : Int) : Prop := At w b o (.int .i64 n)
def BoolR (w : World) (b o : Nat) (x : Bool) : Prop := At w b o (.bool x)
/-- Block b is a row of cells of type E. -/
def Ty (w : World) (b : Nat) (E : TypeId) : Prop := ∃ c fz, w.heap[b]? = some (.cells c E fz)
theorem Ty.lt {w : World} {b : Nat} {E : TypeId} (h : Ty w b E) : b < w.heap.size := by
  obtain ⟨c, fz, h⟩ := h
  rcases Nat.lt_or_ge b w.heap.size with h' | h'
  · exact h'
  · simp [Array.getElem?_eq_none h'] at h
theorem Ty.up {w w' : World} {b : Nat} {E : TypeId} (h : Ty w b E) (hu : Up w w') : Ty w' b E := by
  have hl := h.lt
  obtain ⟨c, fz, h⟩ := h
  exact ⟨c, fz, (hu.block b hl).trans h⟩
theorem Ty.ne {w : World} {b : Nat} {E E' : TypeId} (h : Ty w b E) (hne : E ≠ E') : ¬ Ty w b E' := fun ⟨c, fz, h'⟩ => by
  obtain ⟨c2, fz2, h2⟩ := h
  rw [h2] at h'
  simp at h'
  exact hne h'.2.1
/-- w' is w but for blocks whose cells are of type E, and for new ones. -/
structure UpE (E : TypeId) (w w' : World) : Prop where
  size : w.heap.size ≤ w'.heap.size
  block : ∀ k, k < w.heap.size → ¬ Ty w k E → w'.heap[k]? = w.heap[k]?
theorem Up.toE {w w' : World} (h : Up w w') (E : TypeId) : UpE E w w' := ⟨h.size, fun k hk _ => h.block k hk⟩
theorem UpE.trans {E : TypeId} {a b c : World} (h : UpE E a b) (k : UpE E b c) : UpE E a c :=
  ⟨Nat.le_trans h.size k.size, fun i hi hn => by
    have e := h.block i hi hn
    rw [k.block i (by have := h.size; omega) (fun ⟨c, fz, h'⟩ => hn ⟨c, fz, by rw [← e]; exact h'⟩), e]⟩
theorem UpE.of_grown {E : TypeId} {w w' : World} {row : Option Nat} (h : w.grownBy w' row) (hr : ∀ k, row = some k → Ty w k E) : UpE E w w' :=
  ⟨h.size, fun k hk hn => h.block k hk (fun e => hn (hr k e.symm))⟩
theorem Ty.upE {w w' : World} {b : Nat} {E E' : TypeId} (h : Ty w b E) (hne : E ≠ E') (hu : UpE E' w w') : Ty w' b E := by
  have hn := h.ne hne
  have hl := h.lt
  obtain ⟨c, fz, h⟩ := h
  exact ⟨c, fz, (hu.block b hl hn).trans h⟩
theorem At.upE {w w' : World} {b o : Nat} {v : Value} {E E' : TypeId} (h : At w b o v) (ht : Ty w b E) (hne : E ≠ E') (hu : UpE E' w w') : At w' b o v :=
  ⟨by have := h.1; have := hu.size; omega, (World.cell?_of_block (w := w) (a := ⟨b, o, none⟩) (hu.block b h.1 (ht.ne hne))).trans h.2⟩
/-- A string in a row of strings (type 9). -/
def StrR (w : World) (b o : Nat) (s : ByteArray) : Prop := Ty w b 9 ∧ At w b o (.string s)
theorem intR_grows : Grows IntR := fun _ _ _ _ _ h hu => At.grow h hu
theorem boolR_grows : Grows BoolR := fun _ _ _ _ _ h hu => At.grow h hu
theorem strR_grows : Grows StrR := fun _ _ _ _ _ h hu => ⟨h.1.up hu, At.grow h.2 hu⟩
theorem Arr.growE {α : Type} {R : World → Nat → Nat → α → Prop} {size : Nat} {w w' : World} {v : Value} {l : List α} {E : TypeId} (hR : ∀ b o x, R w b o x → R w' b o x) (h : Arr R size w v l) : Arr R size w' v l := by
  obtain ⟨a, cap, hv, h1, h2, h2', h3⟩ := h
  exact ⟨a, cap, hv, h1, h2, h2', fun i hi => by obtain ⟨b, off, ha, hr⟩ := h3 i hi; exact ⟨b, off, ha, hR _ _ _ hr⟩⟩
abbrev Ints := Arr IntR 1
abbrev Bools := Arr BoolR 1
abbrev Strs := Arr StrR 1

theorem Strs.upE {w w' : World} {v : Value} {l : List ByteArray} {E : TypeId} (h : Strs w v l) (hE : 9 ≠ E) (hu : UpE E w w') : Strs w' v l :=
  Arr.growE (E := E) (fun _ _ _ hr => ⟨hr.1.upE hE hu, hr.2.upE hr.1 hE hu⟩) h

/-- What is owned reads as a list. -/
theorem own_arr {α : Type} {R : World → Nat → Nat → α → Prop} {w : World} {base : Nat} {E : TypeId} {size : Nat} {v : Value} {xs : List Value} {l : List α} (h : w.ownsRow base E size v l.length xs)
    (hR : ∀ g, Ty w g E → (∀ j x, xs[j]? = some x → At w g j x) → ∀ i (hi : i < l.length), R w g (i * size) l[i]) : Arr R size w v l := by
  obtain ⟨hx, h⟩ := h
  rcases h with ⟨rfl, h0⟩ | ⟨g, cap, cur, rfl, hb, hg, hn, hc, hs, ht⟩
  · have : l = [] := List.length_eq_zero_iff.1 h0
    subst this
    exact Arr.nil _ _ _
  · refine ⟨_, cap, rfl, hn, by unfold maxLen at hc; exact hc, fun h => (by cases h), fun i hi => ⟨g, 0, rfl, ?_⟩⟩
    rw [Nat.zero_add]
    refine hR g ⟨cur, (0, 0), hg⟩ (fun j x hj => ?_) i hi
    have hlt : g < w.heap.size := Ty.lt ⟨cur, (0, 0), hg⟩
    refine ⟨hlt, ?_⟩
    unfold World.cell?
    simp only [hg]
    rw [← ht] at hj
    rw [List.getElem?_take] at hj
    split at hj
    · simpa using hj
    · cases hj
theorem own_ty {w : World} {base : Nat} {E : TypeId} {size : Nat} {v : Value} {n : Nat} {xs : List Value} (h : w.ownsRow base E size v n xs) : ∀ k, v.ownBlock = some k → Ty w k E ∧ base ≤ k := by
  intro k hk
  obtain ⟨hx, h⟩ := h
  rcases h with ⟨rfl, h0⟩ | ⟨g, cap, cur, rfl, hb, hg, hn, hc, hs, ht⟩
  · cases hk
  · simp [Value.ownBlock] at hk
    subst hk
    exact ⟨⟨cur, (0, 0), hg⟩, hb⟩
theorem own_up {w w' : World} {base : Nat} {E : TypeId} {size : Nat} {v : Value} {n : Nat} {xs : List Value} (h : w.ownsRow base E size v n xs) (hu : Up w w') : w'.ownsRow base E size v n xs := by
  obtain ⟨hx, h⟩ := h
  refine ⟨hx, ?_⟩
  rcases h with h | ⟨g, cap, cur, hv, hb, hg, r⟩
  · exact Or.inl h
  · exact Or.inr ⟨g, cap, cur, hv, hb, (hu.block g (Ty.lt ⟨cur, (0, 0), hg⟩)).trans hg, r⟩

/-- A string of one byte. -/
def one (x : Int) : ByteArray := ByteArray.empty.push (UInt8.ofNat x.toNat)
theorem conv1 {P : Program} (src dst e : TypeId) (hs : P.underlying src = some (.slice e)) (he : P.underlying e = some (.int .u8)) (hd : P.underlying dst = some .string) (W : World) (x : Int) (c : Nat) (E : TypeId) :
    (convert src dst (.slice (some ⟨W.heap.size, 0, none⟩) 1 c)).run P (W.alloc (.cells #[.int .u8 x] E)) = .ok (.string (one x)) (W.alloc (.cells #[.int .u8 x] E)) := by
  rw [run_convert_bytes_string _ src dst e _ _ _ hs he hd]
  have hc : (W.alloc (.cells #[.int .u8 x] E)).cell? ⟨W.heap.size, 0, none⟩ = some (.int .u8 x) := by rw [World.cell?_alloc_new]; rfl
  have h := run_bytesToString (P := P) (W.alloc (.cells #[.int .u8 x] E)) ⟨W.heap.size, 0, none⟩ 1 c [x] (by simp [go_sem, hc])
  rw [h]
  rfl

theorem min_len (c len : Nat) : ∃ m : Nat, (if (c : Int) < (len : Int) then (c : Int) else (len : Int)) = (m : Int) ∧ m ≤ len ∧ m ≤ c := by
  by_cases h : (c : Int) < len
  · exact ⟨c, by simp [h], by omega, by omega⟩
  · exact ⟨len, by simp [h], by omega, by omega⟩

/-- Where the first element that p lets by stands; -1 where there is none. -/
def idx {α : Type} (p : α → Bool) (l : List α) : Int := match l.findIdx? p with | some i => i | none => -1
theorem idx_hit {α : Type} {p : α → Bool} {l : List α} {k : Nat} (hk : k < l.length) (hp : p l[k] = true) (hb : ∀ j (h : j < l.length), j < k → p l[j] = false) : idx p l = (k : Int) := by
  have : l.findIdx? p = some k := by
    rw [List.findIdx?_eq_some_iff_getElem]
    exact ⟨hk, hp, fun j hj => by rw [hb j (by omega) hj]; simp⟩
  simp [idx, this]
theorem idx_miss {α : Type} {p : α → Bool} {l : List α} (hb : ∀ j (h : j < l.length), p l[j] = false) : idx p l = -1 := by
  have : l.findIdx? p = none := by
    rw [List.findIdx?_eq_none_iff]
    intro x hx
    obtain ⟨i, hi, rfl⟩ := List.mem_iff_getElem.1 hx
    exact hb i hi
  simp [idx, this]
theorem idx_any {α : Type} (p : α → Bool) (l : List α) : decide (0 ≤ idx p l) = l.any p := by
  unfold idx
  cases h : l.findIdx? p with
  | none =>
    rw [List.findIdx?_eq_none_iff] at h
    have : l.any p = false := by rw [List.any_eq_false]; intro x hx; simp [h x hx]
    simp [this]
  | some i =>
    rw [List.findIdx?_eq_some_iff_getElem] at h
    obtain ⟨hi, hp, _⟩ := h
    have : l.any p = true := List.any_eq_true.2 ⟨_, List.getElem_mem hi, hp⟩
    simp [this]
theorem idx_bd {α : Type} (p : α → Bool) (l : List α) : -1 ≤ idx p l ∧ idx p l < l.length := by
  unfold idx
  cases h : l.findIdx? p with
  | none => simp; omega
  | some i =>
    rw [List.findIdx?_eq_some_iff_getElem] at h
    obtain ⟨hi, hp, _⟩ := h
    simp; omega

/-- Block b holds just these cells; none is frozen. -/
def Blk (w : World) (b : Nat) (xs : List Value) (E : TypeId) : Prop := w.heap[b]? = some (.cells xs.toArray E (0, 0))
theorem Blk.lt {w : World} {b : Nat} {xs : List Value} {E : TypeId} (h : Blk w b xs E) : b < w.heap.size := by
  unfold Blk at h
  rcases Nat.lt_or_ge b w.heap.size with h' | h'
  · exact h'
  · simp [Array.getElem?_eq_none h'] at h
theorem Blk.cell {w : World} {b : Nat} {xs : List Value} {E : TypeId} (h : Blk w b xs E) (i : Nat) : w.cell? ⟨b, i, none⟩ = xs[i]? := by
  unfold Blk at h; simp [World.cell?, h]
theorem Blk.at {w : World} {b : Nat} {xs : List Value} {E : TypeId} (h : Blk w b xs E) {i : Nat} {v : Value} (hi : xs[i]? = some v) : At w b i v := ⟨h.lt, (h.cell i).trans hi⟩
theorem Blk.free {w : World} {b : Nat} {xs : List Value} {E : TypeId} (h : Blk w b xs E) (i : Nat) : w.frozen? ⟨b, i, none⟩ = false := by
  unfold Blk at h; simp [World.frozen?, h]
theorem Blk.below {w w' : World} {b : Nat} {xs : List Value} {E : TypeId} {B : Nat} (h : Blk w b xs E) (hu : Below B w w') (hB : b < B) : Blk w' b xs E := (hu.block b hB).trans h
theorem Blk.up {w w' : World} {b : Nat} {xs : List Value} {E : TypeId} (h : Blk w b xs E) (hu : Up w w') : Blk w' b xs E := h.below hu h.lt
theorem Blk.set {w : World} {b : Nat} {xs : List Value} {E : TypeId} (h : Blk w b xs E) (i : Nat) (v : Value) : Blk (w.setCell ⟨b, i, none⟩ v) b (xs.set i v) E := by
  unfold Blk at *
  simp only [World.setCell, Array.getElem?_modify, if_true, h, Option.map_some]
  simp
theorem Blk.other {w : World} {b b' : Nat} {xs : List Value} {E : TypeId} (h : Blk w b xs E) (hne : b ≠ b') (i : Nat) (s : Option Nat) (v : Value) : Blk (w.setCell ⟨b', i, s⟩ v) b xs E :=
  (Below.heap_setCell _ _ _ _ hne).trans h
theorem Blk.new (w : World) (c : Array Value) (E : TypeId) : Blk (w.alloc (.cells c E)) w.heap.size c.toList E := by
  unfold Blk
  show (w.heap.push _)[w.heap.size]? = _
  simp
theorem Blk.drew {w : World} {b : Nat} {xs : List Value} {E : TypeId} (h : Blk w b xs E) : Blk w.drew b xs E := h
theorem Up.set {w w' : World} {b : Nat} (h : Up w w') (hb : w.heap.size ≤ b) (i : Nat) (s : Option Nat) (v : Value) : Up w (w'.setCell ⟨b, i, s⟩ v) := Below.setCell (p := ⟨b, i, s⟩) h hb v
theorem gr_blk {w : World} {b : Nat} {xs : List Value} {E : TypeId} (h : Blk w b xs E) (g : Gr w) : Blk (gr w g) b xs E := h.up (gr_up w g)
/-- A block of one-cell values reads as the slice of its first n. -/
theorem Blk.arr {α : Type} {R : World → Nat → Nat → α → Prop} {enc : α → Value} (hR : ∀ w b o x, At w b o (enc x) → R w b o x) {w : World} {b : Nat} {xs : List Value} {E : TypeId} (h : Blk w b xs E)
    (l : List α) (cap : Nat) (hl : ∀ i (h : i < l.length), xs[i]? = some (enc l[i])) (hc : l.length ≤ cap) (hc2 : cap ≤ 9223372036854775807) : Arr R 1 w (.slice (some ⟨b, 0, none⟩) l.length cap) l :=
  ⟨_, cap, rfl, hc, hc2, (fun h => by cases h), fun i hi => ⟨b, 0, rfl, hR _ _ _ _ (by rw [Nat.mul_one, Nat.zero_add]; exact h.at (hl i hi))⟩⟩
end Go.Proofs.Ytnbhdpmhgamjfaa.Hp
