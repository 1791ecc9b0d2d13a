/- The pieces of a merge, in plain words: what one part of the three texts adds to the pieces. No condition. -/
import Derived.Test.YtafhefhhndmdkaaDoorMgMath
namespace Go.Proofs.YtafhefhhndmdkaaDoor.Mg

/-- a piece: its kind and its three lists of lines -/
abbrev Pc := Nat × List ByteArray × List ByteArray × List ByteArray
/-- lines i to j -/
def cut (l : List ByteArray) (i j : Nat) : List ByteArray := (l.drop i).take (j - i)
/-- the kind of a part that is not the same in all three -/
def kindOf (o a b : List ByteArray) : Nat := if b = o then 2 else if a = o then 3 else if a = b then 4 else 5
/-- the state: the pieces that are closed, and the lines of the open piece of equal lines -/
abbrev St := List Pc × List ByteArray
def pieces (st : St) : List Pc := st.1 ++ (if st.2 = [] then [] else [(1, st.2, st.2, st.2)])
/-- one part -/
def part (o a b : List ByteArray) (f t : Nat × Nat × Nat) (st : St) : St :=
  if (cut o f.1 t.1).length + (cut a f.2.1 t.2.1).length + (cut b f.2.2 t.2.2).length = 0 then st
  else (pieces st ++ [(kindOf (cut o f.1 t.1) (cut a f.2.1 t.2.1) (cut b f.2.2 t.2.2), cut o f.1 t.1, cut a f.2.1 t.2.1, cut b f.2.2 t.2.2)], [])
/-- all parts, at the common lines of base and ours that have a partner in theirs -/
def mgo (o a b : List ByteArray) (pm : Nat → Option Nat) : List (Nat × Nat) → (Nat × Nat × Nat) → St → List Pc
  | [], f, st => pieces (part o a b f (o.length, a.length, b.length) st)
  | (x, y) :: ps, f, st => match pm x with
    | none => mgo o a b pm ps f st
    | some z => mgo o a b pm ps (x + 1, y + 1, z + 1) ((part o a b f (x, y, z) st).1, (part o a b f (x, y, z) st).2 ++ [o.getD x ByteArray.empty])
/-- the partner in a list of pairs -/
def mate (ps : List (Nat × Nat)) (k : Nat) : Option Nat := (ps.reverse.find? (fun p => p.1 == k)).map (·.2)
/-- the pieces of a merge -/
def mergeP (o a b : List ByteArray) : List Pc := mgo o a b (mate (prs 0 0 o b)) (prs 0 0 o a) (0, 0, 0) ([], [])
end Go.Proofs.YtafhefhhndmdkaaDoor.Mg
