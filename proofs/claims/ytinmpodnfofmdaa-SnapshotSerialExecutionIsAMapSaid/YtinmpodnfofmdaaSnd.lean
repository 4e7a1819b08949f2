/- The snapshot database: the plain model, and how it lies in memory. -/
import Derived.Test.YtinmpodnfofmdaaMvt
import Derived.Test.YtinmpodnfofmdaaSna
import Derived.Test.YtinmpodnfofmdaaSnb
import Derived.Test.YtinmpodnfofmdaaSnc
namespace Go.Proofs.Ytinmpodnfofmdaa.Sn
open Go Go.RowKit Hp So
open Mv (Val PC PV rowC fm_len fm_take fm_drop fm_get fm_set fm_one RowIn StR Srt pos has)
set_option linter.unusedVariables false

/-! ### Plain -/
structure Wr where
  del : Bool
  row : List Val
abbrev WL := List (ByteArray × Wr)
structure Tr where
  id : Int
  start : Int
  w : WL
/-- The whole database. -/
structure Db where
  st : List PC
  hz : Int
  clock : Int
  last : Int
  act : List Tr
def wput (l : WL) (k : ByteArray) (x : Wr) : WL := if has l k = true then l.set (pos l k) (k, x) else l.take (pos l k) ++ (k, x) :: l.drop (pos l k)
structure DOk (d : Db) : Prop where
  st : Mv.SOk d.st d.hz
  hz : 0 ≤ d.hz ∧ d.hz ≤ d.clock
  clock : 0 ≤ d.clock ∧ d.clock ≤ 1000000
  last : 0 ≤ d.last ∧ d.last ≤ 1000000
  act : d.act.length ≤ 60
  ids : d.act.Pairwise fun a b => a.id < b.id
  idl : ∀ t ∈ d.act, 1 ≤ t.id ∧ t.id ≤ d.last
  start : ∀ t ∈ d.act, d.hz ≤ t.start ∧ t.start ≤ d.clock
  srt : ∀ t ∈ d.act, Srt t.w
  len : ∀ t ∈ d.act, t.w.length ≤ 40
  key : ∀ t ∈ d.act, ∀ x ∈ t.w, x.1.size ≤ 24 ∧ x.2.row.length ≤ 6
  ts : ∀ c ∈ d.st, ∀ v ∈ c.2, v.ts ≤ d.clock

/-! ### In memory -/
structure MW where
  key : ByteArray
  del : Bool
  rv : Value
  row : List Val
structure MT where
  id : Int
  start : Int
  wv : Value
  ws : List MW
def mwC1 (x : MW) : List Value := [.string x.key, .bool x.del, x.rv]
def mtC1 (x : MT) : List Value := [.int .i64 x.id, .int .i64 x.start, x.wv]
def mwC (l : List MW) : List Value := l.flatMap mwC1
def mtC (l : List MT) : List Value := l.flatMap mtC1
def erW (x : MW) : ByteArray × Wr := (x.key, ⟨x.del, x.row⟩)
def erT (x : MT) : Tr := ⟨x.id, x.start, x.ws.map erW⟩
theorem mwC_len (l : List MW) : (mwC l).length = l.length * 3 := fm_len (k := 3) (fun _ => rfl) l
theorem mtC_len (l : List MT) : (mtC l).length = l.length * 3 := fm_len (k := 3) (fun _ => rfl) l
/-- The database at p, its store at q: G is what the store holds, F the rest. -/
structure DbP (w : World) (p q : Nat) (d : Db) (F G : Nat → Prop) (av : Value) (ts : List MT) : Prop where
  er : ts.map erT = d.act
  ok : DOk d
  lt : ∀ k, F k → k < w.heap.size
  dis : ∀ k, F k → ¬ G k
  fp : F p
  blk : Blk w p [.pointer (some ⟨q, 0, none⟩), .int .i64 d.clock, .int .i64 d.last, av] 99
  st : StR w q d.st d.hz G
  act : w.ownsRow 0 102 3 av ts.length (mtC ts)
  actF : ∀ k, av.ownBlock = some k → F k
  wrs : ∀ t ∈ ts, w.ownsRow 0 105 3 t.wv t.ws.length (mwC t.ws)
  wrF : ∀ t ∈ ts, ∀ k, t.wv.ownBlock = some k → F k
  wrd : ts.Pairwise fun a b => ∀ k, a.wv.ownBlock = some k → b.wv.ownBlock ≠ some k
  rws : ∀ t ∈ ts, ∀ x ∈ t.ws, RowIn w F x.rv x.row
def DbR (w : World) (p : Nat) (d : Db) (F : Nat → Prop) : Prop := ∃ q F1 G av ts, DbP w p q d F1 G av ts ∧ (∀ k, F1 k ∨ G k → F k) ∧ ∀ k, F k → k < w.heap.size
/-- d' stands at p; nothing but the footprint F and new blocks has changed. -/
def DbPost (p : Nat) (d' : Db) (F : Nat → Prop) (w w' : World) : Prop := DbR w' p d' (Fx F w w') ∧ Chg F w w'
theorem DbP.chg {S F G : Nat → Prop} {w w' : World} {p q : Nat} {d : Db} {av : Value} {ts : List MT} (h : DbP w p q d F G av ts) (hc : Chg S w w') (hF : ∀ k, F k → ¬ S k) (hG : ∀ k, G k → ¬ S k) : DbP w' p q d F G av ts :=
  ⟨h.er, h.ok, fun k hk => Nat.lt_of_lt_of_le (h.lt k hk) hc.size, h.dis, h.fp, h.blk.chg hc (hF _ h.fp), h.st.chg hc hG, own_chg h.act hc fun k hk => hF k (h.actF k hk), h.actF, fun t ht => own_chg (h.wrs t ht) hc fun k hk => hF k (h.wrF t ht k hk), h.wrF, h.wrd,
    fun t ht x hx => (h.rws t ht x hx).chg hc fun k hk _ => ⟨hF k hk, hk⟩⟩
end Go.Proofs.Ytinmpodnfofmdaa.Sn
