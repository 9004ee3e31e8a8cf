/- The log: what the law's small functions come to, and the tables for it. -/
import Derived.Test.YtgimkldaeobhnaaWalMathL
namespace Go.Proofs.Ytgimkldaeobhnaa.Dsk
open Go Go.Proofs.Ytgimkldaeobhnaa.Sx

def spSmallW : Sx.Spec A
  | [.int .i64 _, .csl 5 b] => some (some (lenOk (α := Int) b ∧ bytesOk b), .bool true)
  | _ => none
/-! ### small functions of the law -/
def eqAt (rs : List (List Int)) (ns : List ByteArray) (k : Nat) : Bool := (bytesOf (rs.getD k [])).toList == (ns.getD k ByteArray.empty).toList
def showsB (l : Lg) (ns : List ByteArray) (t : Int) : Bool := (l.recs.length == ns.length && l.turn == t) && (List.range l.recs.length).all (eqAt l.recs ns)
def showOk (l : Lg) (ns : List ByteArray) : Prop := (l.recs.length ≤ 1000000 ∧ ∀ b ∈ l.recs, b.length ≤ 1000000) ∧ ns.length ≤ 1000000000
/-- The same blocks, the names' row among them. -/
def Lg.ownM (l : Lg) (ns : List ByteArray) : List (Own A) := [.var [.optr 2 0, .int .i64 l.region, .int .i64 l.turn, .int .i64 l.next, .orow 3, .bool l.broken], .row 9 ns, .var [.orow 4, .orow 5, .int .i64 l.d.left, .int .i64 l.d.fail, .bool l.d.down, .int .i64 l.d.calls], .row 22 l.recs, .row 53 l.d.kept, .row 68 l.d.wait]
def lShows : LSpec A
  | [.optr 0 0, .csl 9 ns, .int .i64 tt], [.var [.optr 1 0, .int .i64 r, .int .i64 t, .int .i64 n, .orow 2, .bool br], .var [.orow 3, .orow 4, .int .i64 a, .int .i64 b, .bool dn, .int .i64 c], .row 22 rs, .row 53 ks, .row 68 ws] => some (some (showOk ⟨⟨ks, ws, a, b, dn, c⟩, r, t, n, rs, br⟩ ns), .bool (showsB ⟨⟨ks, ws, a, b, dn, c⟩, r, t, n, rs, br⟩ ns tt))
  | [.optr 0 0, .orow 1, .int .i64 tt], [.var [.optr 2 0, .int .i64 r, .int .i64 t, .int .i64 n, .orow 3, .bool br], .row 9 ns, .var [.orow 4, .orow 5, .int .i64 a, .int .i64 b, .bool dn, .int .i64 c], .row 22 rs, .row 53 ks, .row 68 ws] => some (some (showOk ⟨⟨ks, ws, a, b, dn, c⟩, r, t, n, rs, br⟩ ns), .bool (showsB ⟨⟨ks, ws, a, b, dn, c⟩, r, t, n, rs, br⟩ ns tt))
  | _, _ => none
def annShowsM (l : Lg) (ns : List ByteArray) : Ann A := { G := Nat, inv := fun k => k ≤ l.recs.length ∧ ∀ j, j < k → eqAt l.recs ns j = true, keep := [7, 23], slots := fun k => [(0, .optr 64 0), (1, .orow 65), (24, .int .i64 k)], owns := fun _ => [(64, .var [.optr 66 0, .int .i64 l.region, .int .i64 l.turn, .int .i64 l.next, .orow 67, .bool l.broken]), (65, .row 9 ns), (66, .var [.orow 68, .orow 69, .int .i64 l.d.left, .int .i64 l.d.fail, .bool l.d.down, .int .i64 l.d.calls]), (67, .row 22 l.recs), (68, .row 53 l.d.kept), (69, .row 68 l.d.wait)], μ := fun k => l.recs.length - k }
def annShows (l : Lg) (ns : List ByteArray) : Ann A := { G := Nat, inv := fun k => k ≤ l.recs.length ∧ ∀ j, j < k → eqAt l.recs ns j = true, keep := [1, 7, 23], slots := fun k => [(0, .optr 64 0), (24, .int .i64 k)], owns := fun _ => l.ownsV, μ := fun k => l.recs.length - k }
def spNamesW : Sx.Spec A
  | [.csl 22 rs] => some (some (rs.length ≤ 1000000 ∧ ∀ b : List Int, b ∈ (rs : List (List Int)) → b.length ≤ 1000000), .csl 9 ((rs : List (List Int)).map bytesOf))
  | _ => none
def annNames (rs : List (List Int)) : Ann A := { G := Nat, inv := fun k => k ≤ rs.length, keep := [6, 7], slots := fun k => [(3, .orow 0), (8, .int .i64 k)], owns := fun k => [(0, .row 9 ((rs.take k).map bytesOf))], μ := fun k => rs.length - k }
def bytesA (a : Act) : List Int := if a.op ≥ 200 then List.replicate (a.long.tmod 17000).toNat 0 else List.drop 0 (List.take (mn (a.bytes.length : Int) 300).toNat a.bytes)
def actOk (a : Act) : Prop := (0 ≤ a.op ∧ a.op < 256) ∧ lenOk (α := Int) a.bytes ∧ bytesOk a.bytes ∧ 0 ≤ a.long ∧ a.long < 65536
def spBytesW : Sx.Spec A
  | [.agg [.int .u8 o, .csl 5 b, .int .u16 n]] => some (some (actOk ⟨o, b, n⟩), .csl 5 (bytesA ⟨o, b, n⟩))
  | _ => none
def spNeedW : Sx.Spec A
  | [.int .i64 n] => some (some (0 ≤ n ∧ n ≤ 1000000), .int .i64 (secsOf n))
  | _ => none
def spHeadW : Sx.Spec A
  | [.int .i64 k, .int .i64 n, .csl 5 b] => some (some (lenOk (α := Int) b), .el 53 (headS k n b))
  | _ => none
def tab9 : List (Nat × Con A) := (13, .heap (nilH 5 hAppend)) :: (14, .look lShows) :: (21, .pure spNamesW) :: (15, .pure spBytesW) :: (17, .pure spNeedW) :: (23, .pure (nilP 5 spHeadW)) :: tab8
/-! ### the laws' states -/
def Lg.ownsN (l : Lg) : List (Nat × Own A) := [(0, .var [.optr 1 0, .int .i64 l.region, .int .i64 l.turn, .int .i64 l.next, .orow 2, .bool l.broken]), (1, .var [.orow 3, .orow 4, .int .i64 l.d.left, .int .i64 l.d.fail, .bool l.d.down, .int .i64 l.d.calls]), (2, .row 22 l.recs), (3, .row 53 l.d.kept), (4, .row 68 l.d.wait)]
def Dk.ownsN (d : Dk) : List (Nat × Own A) := [(0, .var [.orow 1, .orow 2, .int .i64 d.left, .int .i64 d.fail, .bool d.down, .int .i64 d.calls]), (1, .row 53 d.kept), (2, .row 68 d.wait)]
/-- What calls of a log want. -/
structure DOk (l : Lg) : Prop where
  b : DkB l.d 100000
  y : DkY l.d
  r01 : 0 ≤ l.region ∧ l.region ≤ 1
  n01 : 0 ≤ l.next ∧ l.next ≤ halfOf l.d
  rs : l.recs.length ≤ 1000
def RecsAfter (d : Dk) (P : List (List Int) → Int → Prop) : Prop := After d fun c => ∃ r t rs n, Lay c (halfOf d) r t rs n ∧ P rs t
/-- A log that is broken: what is found when it is opened again. -/
structure Lost (l : Lg) (P : List (List Int) → Int → Prop) : Prop where
  ok : DOk l
  br : l.broken = true
  half : 4 ≤ halfOf l.d
  after : RecsAfter l.d P
/-! WalFails -/
def FQ (rs : List (List Int)) (_ : Int) : Prop := 1 ≤ rs.length ∧ (rs.length < 2 ∨ rs.getD 1 [] = [102, 105, 114, 115, 116])
def FailsI (x : Lg × Int) : Prop := DOk x.1 ∧ (x.2 = 0 → x.1.broken = false) ∧ (x.2 ≠ 0 → (x.2 = 10 ∨ x.2 = 11) ∧ Lost x.1 FQ)
def cutFailA (_ : Nat) : Ann A := { G := Lg × Int, inv := FailsI, keep := [1, 9], slots := fun x => [(7, .optr 1 0), (8, .optr 0 0), (10, .int .i64 x.2)], owns := fun x => x.1.ownsN, μ := fun _ => 0 }
def cutFailB (_ : Nat) : Ann A := { G := Lg × Int, inv := fun x => FailsI x ∧ x.2 ≠ 0, keep := [1, 9], slots := fun x => [(7, .optr 1 0), (8, .optr 0 0), (10, .int .i64 x.2)], owns := fun x => x.1.ownsN, μ := fun _ => 0 }
def spFailsW : Sx.Spec A
  | [.int .u8 n, .csl 5 b, .bool _] => some (some ((lenOk (α := Int) b ∧ bytesOk b) ∧ 0 ≤ n ∧ n < 256), .bool true)
  | _ => none
/-! WalSectors -/
def hdB (b : List Int) : List Int := List.drop 0 (List.take (mn (b.length : Int) 300).toNat b)
def halfB (s : Int) : Int := IntKind.i64.wrap (16 + IntKind.i64.wrap (s.tmod 50))
/-- What stands in the first region. -/
def wantF (b more : List Int) : Int → Sec := rowC (rowC (fun i => if i = 0 then headS 1 2 [] else zeroS) 1 2 0 b) (1 + 1 + (secsN b.length : Int)) 2 1 more
structure SectI (b more : List Int) (h : Int) (d : Dk) : Prop where
  still : d.wait = []
  len : (d.kept.length : Int) = 2 * h
  up : d.down = false
  first : ∀ i : Int, 0 ≤ i → i < h → cont d i = wantF b more i
  head : cont d h = headS 1 1 []
  row : cont d (h + 1) = headS 2 0 []
def cutSect (b more : List Int) (s : Int) (_ : Nat) : Ann A := { G := Dk, inv := SectI (hdB b) (hdB more) (halfB s), keep := [0, 1, 7, 10], slots := fun _ => [(8, .optr 0 0)], owns := fun d => d.ownsN, μ := fun _ => 0 }
/-- The rows to be laid, and where; what stands there when some of a row's bytes are. -/
def rowAt (b more : List Int) (k : Nat) : List Int := [b, more].getD k []
def atAt (b more : List Int) : Nat → Int
  | 0 => 1
  | k + 1 => IntKind.i64.wrap (atAt b more k + secsOf ((rowAt b more k).length : Int))
def layF (b more : List Int) : Nat → Int → Sec
  | 0 => fun i => if i = 0 then headS 1 2 [] else zeroS
  | k + 1 => rowC (layF b more k) (atAt b more k) 2 (k : Int) (rowAt b more k)
def layG (b more : List Int) (k i : Nat) : Int → Sec := fun j => if j = atAt b more k then headS 2 (k : Int) (rowAt b more k) else if atAt b more k + 1 ≤ j ∧ j < atAt b more k + 1 + (secsN (rowAt b more k).length : Int) then chunkS ((rowAt b more k).take i) (j - atAt b more k - 1).toNat else layF b more k j
def Stands (ws : List Sec) (h : Int) (f : Int → Sec) : Prop := (ws.length : Int) = h ∧ ∀ i : Int, 0 ≤ i → i < h → getS ws i.toNat = f i
def annSec (b more : List Int) (s : Int) : Ann A := { G := Nat × List Sec × Dk, inv := fun x => x.1 ≤ 2 ∧ Stands x.2.1 (halfB s) (layF (hdB b) (hdB more) x.1) ∧ SectI (hdB b) (hdB more) (halfB s) x.2.2, keep := [0, 1, 7, 72, 73], keepO := [72], slots := fun x => [(8, .optr 0 0), (11, .orow 3), (12, .int .i64 (atAt (hdB b) (hdB more) x.1)), (74, .int .i64 x.1)], owns := fun x => x.2.2.ownsN ++ [(3, .row 53 x.2.1)], μ := fun x => 2 - x.1 }
def annSec2 (b more : List Int) (s : Int) (k : Nat) : Ann A := { G := Nat × List Sec × Dk, inv := fun x => x.1 ≤ (rowAt (hdB b) (hdB more) k).length ∧ Stands x.2.1 (halfB s) (layG (hdB b) (hdB more) k x.1) ∧ SectI (hdB b) (hdB more) (halfB s) x.2.2, keep := [0, 1, 7, 12, 13, 14, 72, 73, 74, 85, 86], keepO := [72], slots := fun x => [(8, .optr 0 0), (11, .orow 3), (87, .int .i64 x.1)], owns := fun x => x.2.2.ownsN ++ [(3, .row 53 x.2.1)], μ := fun x => (rowAt (hdB b) (hdB more) k).length - x.1 }
def annSec3 (b more : List Int) (s : Int) : Ann A := { G := Nat × List Sec × Dk, inv := fun x => (x.1 : Int) ≤ halfB s ∧ Stands x.2.1 (halfB s) (wantF (hdB b) (hdB more)) ∧ SectI (hdB b) (hdB more) (halfB s) x.2.2, keep := [0, 1, 7, 112], slots := fun x => [(8, .optr 0 0), (11, .orow 3), (113, .int .i64 x.1)], owns := fun x => x.2.2.ownsN ++ [(3, .row 53 x.2.1)], μ := fun x => (halfB s - x.1).toNat }
def spSectW : Sx.Spec A
  | [.csl 5 b, .csl 5 more, .int .u8 s] => some (some ((lenOk (α := Int) b ∧ bytesOk b) ∧ (lenOk (α := Int) more ∧ bytesOk more) ∧ 0 ≤ s ∧ s < 256), .bool true)
  | _ => none
/-! WalScript -/
def halfN (s : Int) : Int := IntKind.i64.wrap (4 + IntKind.i64.wrap (s.tmod 253))
def actsOk (xs : List Act) : Prop := lenOk xs ∧ ∀ a ∈ xs, actOk a
def headA (xs : List Act) (m : Int) : List Act := List.drop 0 (List.take (mn (xs.length : Int) m).toNat xs)
structure ScrI (h : Int) (k : Nat) (l : Lg) : Prop where
  good : Good l
  calm : Calm l.d
  half : halfOf l.d = h
  turn : l.turn ≤ 1 + (k : Int)
def annScr (s : Int) (xs : List Act) : Ann A := { G := Nat × Lg, inv := fun x => x.1 ≤ (headA xs 60).length ∧ ScrI (halfN s) x.1 x.2, keep := [5, 8, 52, 53], slots := fun x => [(6, .optr 1 0), (7, .optr 0 0), (9, .orow 5), (10, .int .i64 x.2.turn), (11, .int .i64 x.2.next), (54, .int .i64 x.1)], owns := fun x => x.2.ownsN ++ [(5, .row 9 (x.2.recs.map bytesOf))], μ := fun x => (headA xs 60).length - x.1 }
def cutScr (s : Int) (k : Nat) : Ann A := { G := Lg × Int, inv := fun x => ScrI (halfN s) (k + 1) x.1, keep := [5, 8, 52, 53, 54], slots := fun x => [(6, .optr 1 0), (7, .optr 0 0), (9, .orow 5), (10, .int .i64 x.1.turn), (11, .int .i64 x.1.next), (15, .int .i64 x.2), (16, .int .i64 x.2)], owns := fun x => x.1.ownsN ++ [(5, .row 9 (x.1.recs.map bytesOf))], μ := fun _ => 0 }
def spScrW : Sx.Spec A
  | [.int .u16 s, .csl 39 xs] => some (some (actsOk xs ∧ 0 ≤ s ∧ s < 65536), .bool true)
  | _ => none
/-! WalStops -/
structure StoI (k : Nat) (l : Lg) : Prop where
  good : Good l
  fail : l.d.fail = -1
  half : halfOf l.d = 30
  turn : l.turn ≤ 1 + (k : Int)
def annSto (xs : List Act) : Ann A := { G := Nat × Lg, inv := fun x => x.1 ≤ (headA xs 20).length ∧ StoI x.1 x.2, keep := [2, 3, 4, 13, 51, 52], slots := fun x => [(11, .optr 1 0), (12, .optr 0 0), (14, .orow 5), (15, .int .i64 x.2.turn), (53, .int .i64 x.1)], owns := fun x => x.2.ownsN ++ [(5, .row 9 (x.2.recs.map bytesOf))], μ := fun x => (headA xs 20).length - x.1 }
/-- What stands there behind a deed: all of it is told, or the disk stopped: what is found later is the old, or the new. -/
structure StoG where
  l : Lg
  e : Int
  beg : Bool
  rs : List ByteArray
  t : Int
  more : List ByteArray
  next : Int
structure StoJ (k : Nat) (x : StoG) : Prop where
  ok : DOk x.l
  e : x.e = 0 ∨ x.e = 9
  good : x.e = 0 → StoI (k + 1) x.l ∧ x.l.recs.map bytesOf = x.more ∧ x.l.turn = x.next
  lost : x.e = 9 → Lost x.l (fun rs t => (rs.map bytesOf = x.rs ∧ t = x.t) ∨ (rs.map bytesOf = x.more ∧ t = x.next)) ∧ x.rs.length ≤ 1000000 ∧ x.more.length ≤ 1000000 ∧ halfOf x.l.d = 30 ∧ x.t ≤ 1001 ∧ x.next ≤ 1001
def bK (xs : List Act) (k : Nat) : List Int := List.drop 0 (List.take (mn (((headA xs 20).getD k zeroA).bytes.length : Int) 300).toNat ((headA xs 20).getD k zeroA).bytes)
def StoB (xs : List Act) (k : Nat) (x : StoG) : Prop := StoJ k x ∧ x.rs.length ≤ 300 ∧ (0 ≤ x.t ∧ x.t ≤ 1000) ∧ (x.more = if x.beg = true then [bytesOf (bK xs k)] else x.rs ++ [bytesOf (bK xs k)]) ∧ x.next = if x.beg = true then x.t + 1 else x.t
def StoA (xs : List Act) (k : Nat) (x : StoG) : Prop := (x.e = 4 ∧ StoI k x.l ∧ x.rs = x.l.recs.map bytesOf ∧ x.t = x.l.turn) ∨ (x.e ≠ 4 ∧ x.beg = false ∧ StoB xs k x)
def slotsSto (x : StoG) : List (Nat × SV A) := [(11, .optr 1 0), (12, .optr 0 0), (14, .orow 5), (15, .int .i64 x.t), (19, .bool x.beg), (20, .int .i64 x.e)]
def cutSto0 (xs : List Act) (k : Nat) : Ann A := { G := StoG, inv := StoA xs k, keep := [2, 3, 4, 13, 18, 51, 52, 53], slots := slotsSto, owns := fun x => x.l.ownsN ++ [(5, .row 9 x.rs)], μ := fun _ => 0 }
def cutStoA (xs : List Act) (k : Nat) : Ann A := { G := StoG, inv := StoB xs k, keep := [2, 3, 4, 13, 18, 51, 52, 53], slots := slotsSto, owns := fun x => x.l.ownsN ++ [(5, .row 9 x.rs)], μ := fun _ => 0 }
def cutStoB (k : Nat) : Ann A := { G := StoG, inv := StoJ k, keep := [2, 3, 4, 13, 51, 52, 53], slots := fun x => [(11, .optr 1 0), (12, .optr 0 0), (14, .orow 5), (15, .int .i64 x.t), (20, .int .i64 x.e), (21, .orow 6), (22, .int .i64 x.next)], owns := fun x => x.l.ownsN ++ [(5, .row 9 x.rs), (6, .row 9 x.more)], μ := fun _ => 0 }
/-- Behind the opening: a log again, that shows the old or the new. -/
structure StoK (x : StoG) : Prop where
  good : Good x.l
  fail : x.l.d.fail = -1
  half : halfOf x.l.d = 30
  shows : (x.l.recs.map bytesOf = x.rs ∧ x.l.turn = x.t) ∨ (x.l.recs.map bytesOf = x.more ∧ x.l.turn = x.next)
  len : x.rs.length ≤ 1000000 ∧ x.more.length ≤ 1000000
  bound : x.t ≤ 1001 ∧ x.next ≤ 1001
def cutStoC (_ : Nat) : Ann A := { G := StoG, inv := StoK, keep := [13], slots := fun x => [(11, .optr 1 0), (23, .optr 0 0), (24, .int .i64 0), (14, .orow 5), (15, .int .i64 x.t), (21, .orow 6), (22, .int .i64 x.next)], owns := fun x => x.l.ownsN ++ [(5, .row 9 x.rs), (6, .row 9 x.more)], μ := fun _ => 0 }
def cutStoD (_ : Nat) : Ann A := { G := Lg, inv := fun l => Good l ∧ Calm l.d, keep := [13, 25], slots := fun _ => [(11, .optr 1 0), (23, .optr 0 0)], owns := fun l => l.ownsN, μ := fun _ => 0 }
def spStopsW : Sx.Spec A
  | [.csl 39 xs, .int .u8 s, .int .u64 _, .int .i8 t, .int .u8 b] => some (some (actsOk xs ∧ (0 ≤ s ∧ s < 256) ∧ (-128 ≤ t ∧ t < 128) ∧ 0 ≤ b ∧ b < 256), .bool true)
  | _ => none
end Go.Proofs.Ytgimkldaeobhnaa.Dsk
