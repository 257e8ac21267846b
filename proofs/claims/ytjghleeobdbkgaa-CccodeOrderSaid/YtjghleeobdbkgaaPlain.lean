/- The plain law of the caption control codes: what the program and the reference compute, as functions on numbers. No program in sight. -/
namespace Go.Proofs.Ytjghleeobdbkgaa.Pl

/-- A code: kind, row, column, colour, italic, underline. -/
abbrev Cd : Type := Int × Int × Int × Int × Bool × Bool
/-- A style: colour, italic, underline. -/
abbrev St : Type := Int × Bool × Bool

def fl (b : Bool) : Int := if b then 1 else 0
/-- Which styles can be coded. -/
def sty (c : Int) (i : Bool) : Bool := if i then c == 0 else decide (c ≤ 6)
/-- White and not italic. -/
def pln (c : Int) (i : Bool) : Bool := c == 0 && !i
/-- The first error of a code. -/
def chk (k r l c : Int) (i u : Bool) : Int :=
  if k = 1 then
    if r < 0 ∨ 15 ≤ r ∨ l < 0 ∨ 28 < l ∨ l % 4 ≠ 0 then 2
    else if sty c i = false ∨ (l ≠ 0 ∧ pln c i = false) then 12 else 0
  else if k = 2 then
    if r ≠ 0 ∨ l ≠ 0 then 1 else if sty c i = false then 12 else 0
  else if k = 3 then
    if r ≠ 0 ∨ c ≠ 0 ∨ i = true ∨ u = true then 1 else if l < 1 ∨ 3 < l then 2 else 0
  else if 4 ≤ k ∧ k ≤ 14 then
    if r ≠ 0 ∨ l ≠ 0 ∨ c ≠ 0 ∨ i = true ∨ u = true then 1 else 0
  else 3
/-- The number of a style. -/
def num (c : Int) (i u : Bool) : Int := if i then 14 + fl u else 2 * c + fl u
/-- The style of a number. -/
def std (n : Int) : St := if 14 ≤ n then (0, true, n == 15) else (n / 2, false, n % 2 == 1)
/-- The first byte of a row. -/
def fst1 (r : Int) : Int := ([17, 17, 18, 18, 21, 21, 22, 22, 23, 23, 16, 19, 19, 20, 20] : List Int).getD r.toNat 0
/-- The offset of a row. -/
def ofs (r : Int) : Int := ([64, 96, 64, 96, 64, 96, 64, 96, 64, 96, 64, 64, 96, 64, 96] : List Int).getD r.toNat 0
/-- The second byte of a code without fields, from the kind 4 on. -/
def snd2 (k : Int) : Int := ([32, 33, 36, 37, 38, 39, 41, 44, 45, 46, 47] : List Int).getD (k - 4).toNat 0
/-- The pair of a code for which chk is 0. -/
def ptb (k r l c : Int) (i u : Bool) : Int × Int :=
  if k = 1 then
    if l = 0 then (fst1 r, ofs r + num c i u) else (fst1 r, ofs r + 16 + l / 2 + fl u)
  else if k = 2 then (17, 32 + num c i u)
  else if k = 3 then (23, 32 + l)
  else (20, snd2 k)
def put (x : Cd) : Int × Int × Int :=
  match x with
  | (k, r, l, c, i, u) => if chk k r l c i u = 0 then ((ptb k r l c i u).1, (ptb k r l c i u).2, 0) else (0, 0, chk k r l c i u)

def zero : Cd := (0, 0, 0, 0, false, false)
/-- Does a row's preamble have this pair? -/
def hit (one two r : Int) : Bool := one == fst1 r && decide (ofs r ≤ two) && decide (two < ofs r + 32)
/-- The preamble of a row at an offset. -/
def pre1 (two r : Int) : Cd :=
  if two - ofs r < 16 then (1, r, 0, std (two - ofs r))
  else (1, r, (two - ofs r - 16) / 2 * 4, 0, false, (two - ofs r - 16) % 2 == 1)
/-- The first row of a list that has this pair. -/
def preL (one two : Int) : List Int → Option Cd
  | [] => none
  | r :: l => if hit one two r then some (pre1 two r) else preL one two l
def rows15 : List Int := [0, 1, 2, 3, 4, 5, 6, 7, 8, 9, 10, 11, 12, 13, 14]
def kinds11 : List Int := [4, 5, 6, 7, 8, 9, 10, 11, 12, 13, 14]
/-- The first kind of a list with this second byte. -/
def sndL (two : Int) : List Int → Option Cd
  | [] => none
  | k :: l => if snd2 k = two then some (k, 0, 0, 0, false, false) else sndL two l
/-- The code of a pair: the given program's. -/
def get (one two : Int) : Option Cd :=
  match preL one two rows15 with
  | some x => some x
  | none =>
    if one = 17 ∧ 32 ≤ two ∧ two ≤ 47 then some (2, 0, 0, std (two - 32))
    else if one = 23 ∧ 33 ≤ two ∧ two ≤ 35 then some (3, 0, two - 32, 0, false, false)
    else if one = 20 then sndL two kinds11 else none

/-- The reference's: a row's two second bytes that are taken first. -/
def rowL (one two : Int) : List Int → Option Cd
  | [] => none
  | r :: l => if one = fst1 r ∧ (two = ofs r + 16 ∨ two = ofs r + 17) then some (1, r, 0, 0, false, two == ofs r + 17) else rowL one two l
def nums16 : List Int := [0, 1, 2, 3, 4, 5, 6, 7, 8, 9, 10, 11, 12, 13, 14, 15]
def stys : List St := nums16.map std
def cols7 : List Int := [4, 8, 12, 16, 20, 24, 28]
def evrow (r : Int) : List Cd := (stys.map fun s => ((1, r, 0, s) : Cd)) ++ cols7.flatMap fun l => [((1, r, l, 0, false, false) : Cd), (1, r, l, 0, false, true)]
def ev : List Cd := rows15.flatMap evrow ++ (stys.map fun s => ((2, 0, 0, s) : Cd)) ++ ([1, 2, 3] : List Int).map (fun l => ((3, 0, l, 0, false, false) : Cd)) ++ kinds11.map fun k => ((k, 0, 0, 0, false, false) : Cd)
def evL (one two : Int) : List Cd → Option Cd
  | [] => none
  | x :: l => if (put x).1 = one ∧ (put x).2.1 = two then some x else evL one two l
def rget (one two : Int) : Option Cd :=
  match rowL one two rows15 with
  | some x => some x
  | none => evL one two ev

/-- The list of codes: what a pair gives to it. -/
def keep (one two : Int) : List Cd :=
  match get one two with
  | some x => if (put x).1 = one ∧ (put x).2.1 = two then [x] else []
  | none => []
end Go.Proofs.Ytjghleeobdbkgaa.Pl
