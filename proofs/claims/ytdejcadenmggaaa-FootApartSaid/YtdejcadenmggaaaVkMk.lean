/- Models: channels, variables, edges, processes; what makes them out of a tree, plain. -/
import Derived.Test.YtdejcadenmggaaaVkMd
namespace Go.V

structure Ch where
  name : ByteArray
  room : Int
  width : Int
  lossy : Bool
  copying : Bool
  deriving Inhabited
structure Vr where
  name : ByteArray
  width : Int
  value : Int
  deriving Inhabited
structure Ed where
  frm : Nat
  to : Nat
  act : Nat
  expr : Int
  var : Int
  chan : Int
  keep : Bool
  node : Nat
  deriving Inhabited
structure Pr where
  name : ByteArray
  copy : Nat
  locals : List Nat
  places : Nat
  rest : List Bool
  edges : List Ed
  names : List ByteArray
  vars : List Nat
  deriving Inhabited
def Ch.row (c : Ch) : List D := [.str c.name, .int .i64 c.room, .int .i64 c.width, .bool c.lossy, .bool c.copying]
def Vr.row (v : Vr) : List D := [.str v.name, .int .i64 v.width, .int .i64 v.value]
def Ed.row (e : Ed) : List D := [.int .i64 (e.frm : Int), .int .i64 (e.to : Int), .int .i64 (e.act : Int), .int .i64 e.expr, .int .i64 e.var, .int .i64 e.chan, .bool e.keep, .int .i64 (e.node : Int)]

def Pr.put (p : Pr) (frm to act : Nat) (node : Nat) (expr v c : Int) : Pr := { p with edges := p.edges ++ [⟨frm, to, act, expr, v, c, false, node⟩] }
def Pr.place (p : Pr) : Pr := { p with places := p.places + 1, rest := p.rest ++ [false] }
def Pr.idle (p : Pr) (n : Nat) (is : Int) : Pr := if is = 1 then { p with rest := p.rest.set n true } else p
/-- A name's place in a list; 0: none. -/
def findN (l : List ByteArray) (s : ByteArray) : Nat := if l.findIdx (fun x => decide (x = s)) < l.length then l.findIdx (fun x => decide (x = s)) else 0
/-- Is a name in a list? -/
def inB (l : List ByteArray) (s : ByteArray) : Bool := l.any fun x => decide (x = s)
theorem inB_iff {l : List ByteArray} {s : ByteArray} : inB l s = true ↔ s ∈ l := by
  unfold inB
  rw [List.any_eq_true]
  constructor
  · rintro ⟨x, hx, h⟩
    rw [decide_eq_true_eq] at h
    exact h ▸ hx
  · intro h
    exact ⟨s, h, by simp⟩
def nd (t : List Nd) (i : Nat) : Nd := t.getD i default
def Nd.kid (x : Nd) (i : Nat) : Nat := (x.kids.getD i 0).toNat
def Nd.ks (x : Nd) : List Nat := x.kids.map Int.toNat
def Nd.word (x : Nd) (i : Nat) : ByteArray := x.words.getD i default
def Nd.num (x : Nd) (i : Nat) : Int := x.nums.getD i 0

def sevF (st : Pr → Nat → Nat → Nat → Pr) (node : Nat) : Pr → List Nat → Nat → Nat → Pr
  | p, [], frm, to => p.put frm to 0 node (-1) (-1) (-1)
  | p, [k], frm, to => st p k frm to
  | p, k :: k' :: ks, frm, to => sevF st node (st p.place k frm p.places) (k' :: ks) p.places to
def blkF (t : List Nd) (st : Pr → Nat → Nat → Nat → Pr) (p : Pr) (b frm to : Nat) : Pr := sevF st b p (nd t b).ks frm to
/-- Begins a block with a while? -/
def loops (t : List Nd) (b : Nat) : Bool := match (nd t b).ks with
  | [] => false
  | k :: _ => (nd t k).kind == 12
def chooseF (t : List Nd) (st : Pr → Nat → Nat → Nat → Pr) (frm to : Nat) : Pr → List Nat → Pr
  | p, [] => p
  | p, k :: ks => chooseF t st frm to (if loops t k then blkF t st (p.place.put frm p.places 0 k (-1) (-1) (-1)) k p.places to else blkF t st p k frm to) ks
def markK (n to : Nat) (l : List Ed) : List Ed := l.take n ++ (l.drop n).map fun e => { e with keep := e.to != to && e.to != 1 }
def statF (t : List Nd) (ch : List ByteArray) : Nat → Pr → Nat → Nat → Nat → Pr
  | 0, p, _, _, _ => p
  | f + 1, p, at', frm, to =>
    let n := nd t at'
    let st := statF t ch f
    if n.kind = 6 then p.put frm to 1 at' (n.kid 0) (p.vars.getD (findN p.names (n.word 0)) 0 : Nat) (-1)
    else if n.kind = 7 then p.put frm to 2 at' (n.kid 0) (-1) (findN ch (n.word 0) : Nat)
    else if n.kind = 8 then (p.idle frm (n.num 0)).put frm to 3 at' (-1) (p.vars.getD (findN p.names (n.word 1)) 0 : Nat) (findN ch (n.word 0) : Nat)
    else if n.kind = 9 then (p.idle frm (n.num 0)).put frm to 4 at' (n.kid 0) (-1) (-1)
    else if n.kind = 10 then chooseF t st frm to (p.idle frm (n.num 0)) n.ks
    else if n.kind = 11 then
      let p1 := blkF t st (p.place.put frm p.places 4 at' (n.kid 0) (-1) (-1)) (n.kid 1) p.places to
      if n.kids.length = 2 then p1.put frm to 5 at' (n.kid 0) (-1) (-1)
      else blkF t st (p1.place.put frm p1.places 5 at' (n.kid 0) (-1) (-1)) (n.kid 2) p1.places to
    else if n.kind = 12 then blkF t st ((p.place.put frm p.places 4 at' (n.kid 0) (-1) (-1)).put frm to 5 at' (n.kid 0) (-1) (-1)) (n.kid 1) p.places frm
    else if n.kind = 13 then
      let p1 := blkF t st p (n.kid 0) frm to
      { p1 with edges := markK p.edges.length to p1.edges }
    else if n.kind = 15 then p.put frm 1 0 at' (-1) (-1) (-1)
    else p.put frm to 0 at' (-1) (-1) (-1)
end Go.V
