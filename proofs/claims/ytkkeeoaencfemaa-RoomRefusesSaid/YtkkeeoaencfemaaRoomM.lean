/- Package room as plain data: what a house holds, cell by cell. No program in sight. -/
import Derived.Test.YtkkeeoaencfemaaEngf
namespace Go.Rm
open Go Go.Eng

structure Sub where
  owner : Int
  track : Int
  layer : Int
  source : Int
  deriving DecidableEq, Inhabited
def Sub.enc (x : Sub) : List Value := [.int .i64 x.owner, .int .i64 x.track, .int .i64 x.layer, .int .u32 x.source]
theorem Sub.enc_len (x : Sub) : x.enc.length = 4 := rfl

structure Chg where
  kind : Int
  seat : Int
  sub : Sub
  deriving DecidableEq, Inhabited
def Chg.enc (x : Chg) : List Value := [.int .i64 x.kind, .int .i64 x.seat, .int .i64 x.sub.owner, .int .i64 x.sub.track, .int .i64 x.sub.layer, .int .u32 x.sub.source]
theorem Chg.enc_len (x : Chg) : x.enc.length = 6 := rfl

/-- A slice's header. -/
structure Hdr where
  p : Option Addr
  n : Nat
  c : Nat
  deriving Inhabited
def Hdr.v (h : Hdr) : Value := .slice h.p h.n h.c

/-- A member: its row's cells, and what they lead to (the lists, and the groups of blocks that hold them). -/
structure MR where
  room : Int
  is0 : Bool
  codec0 : Int
  pl0 : Hdr
  is1 : Bool
  codec1 : Int
  pl1 : Hdr
  subs : Hdr
  nonce : Int
  x0 : List Int
  x1 : List Int
  sl : List Sub
  La : Fr
  Lb : Fr
  Ls : Fr
  deriving Inhabited
def MR.row (m : MR) : List Value := [.int .i64 m.room, .bool m.is0, .int .i64 m.codec0, .slice m.pl0.p m.pl0.n m.pl0.c, .bool m.is1, .int .i64 m.codec1, .slice m.pl1.p m.pl1.n m.pl1.c, .slice m.subs.p m.subs.n m.subs.c, .int .u64 m.nonce]
theorem MR.row_len (m : MR) : m.row.length = 9 := rfl
structure MR.ok (m : MR) : Prop where
  a : OwnS 3 1 m.pl0.p m.pl0.n m.pl0.c (m.x0.map (Value.int .i64 ·)) m.La
  b : OwnS 3 1 m.pl1.p m.pl1.n m.pl1.c (m.x1.map (Value.int .i64 ·)) m.Lb
  s : OwnS 50 4 m.subs.p m.subs.n m.subs.c (flat Sub.enc m.sl) m.Ls
theorem MR.ok.an {m : MR} (h : m.ok) : m.x0.length = m.pl0.n := by have := h.a.1; rw [List.length_map, Nat.mul_one] at this; exact this
theorem MR.ok.bn {m : MR} (h : m.ok) : m.x1.length = m.pl1.n := by have := h.b.1; rw [List.length_map, Nat.mul_one] at this; exact this
theorem MR.ok.sn {m : MR} (h : m.ok) : m.sl.length = m.subs.n := by have := h.s.1; rw [flat_length Sub.enc_len] at this; omega
def MR.grp (m : MR) : Fr := m.La ++ (m.Lb ++ m.Ls)
def deep (ms : List MR) : Fr := (ms.map MR.grp).flatten
theorem deep_split {ms : List MR} {i : Nat} {m : MR} (h : ms[i]? = some m) : deep ms = deep (ms.take i) ++ (m.La ++ (m.Lb ++ (m.Ls ++ deep (ms.drop (i + 1))))) := by
  have hlt := (List.getElem?_eq_some_iff.1 h).1
  have he := (List.getElem?_eq_some_iff.1 h).2
  have : ms = ms.take i ++ m :: ms.drop (i + 1) := by rw [← he, List.getElem_cons_drop, List.take_append_drop]
  conv => lhs; rw [this]
  simp [deep, MR.grp]
theorem deep_set {ms : List MR} {i : Nat} {m m' : MR} (h : ms[i]? = some m) : deep (ms.set i m') = deep (ms.take i) ++ (m'.La ++ (m'.Lb ++ (m'.Ls ++ deep (ms.drop (i + 1))))) := by
  have hlt := (List.getElem?_eq_some_iff.1 h).1
  have hs : (ms.set i m')[i]? = some m' := by rw [List.getElem?_set_self hlt]
  rw [deep_split hs, List.take_set_of_le (Nat.le_refl i), List.drop_set_of_lt (Nat.lt_succ_self i)]
theorem flat_set_row {ms : List MR} {i : Nat} {m m' : MR} (h : m.row = m'.row) : flat MR.row (ms.set i m) = flat MR.row (ms.set i m') := by
  simp only [flat, List.map_set, h]

structure Frm where
  kind : Int
  seat : Int
  nonce : Int
  room : Int
  track : Int
  owner : Int
  layer : Int
  src : Hdr
  deriving Inhabited
def Frm.enc (f : Frm) : List Value := [.int .i64 f.kind, .int .i64 f.seat, .int .u64 f.nonce, .int .i64 f.room, .int .i64 f.track, .int .i64 f.owner, .int .i64 f.layer, .slice f.src.p f.src.n f.src.c]

/-- A step: the house, the frame, the member's place, the changes. -/
def strow (hb : Nat) (f : Frm) (g mo : Nat) (ch : Hdr) : List Value :=
  [.pointer (some ⟨hb, 0, none⟩), .int .i64 f.kind, .int .i64 f.seat, .int .u64 f.nonce, .int .i64 f.room, .int .i64 f.track, .int .i64 f.owner, .int .i64 f.layer, .slice f.src.p f.src.n f.src.c, .pointer (some ⟨g, mo, none⟩), .slice ch.p ch.n ch.c]
def hrow (s l : Hdr) : List Value := [.slice s.p s.n s.c, .slice l.p l.n l.c]
end Go.Rm
