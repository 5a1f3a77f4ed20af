/- The abstract machine: values, heap, operations, code. -/
import Derived.Orders
set_option linter.constructorNameAsVariable false
set_option linter.unusedVariables false
namespace Go.AM
open Go

/-- A tree of slots by number. -/
inductive Tr (α : Type) where
  | nil
  | nd (l : Tr α) (v : Option α) (r : Tr α)
namespace Tr
def get {α : Type} : Tr α → Nat → Option α
  | .nil, _ => none
  | .nd l v r, k => match k with
    | 0 => v
    | k + 1 => match k % 2 with
      | 0 => l.get (k / 2)
      | _ + 1 => r.get (k / 2)
def setF {α : Type} : Nat → Tr α → Nat → Option α → Tr α
  | 0, t, _, _ => t
  | f + 1, .nil, k, v => match k with
    | 0 => .nd .nil v .nil
    | k + 1 => match k % 2 with
      | 0 => .nd (setF f .nil (k / 2) v) none .nil
      | _ + 1 => .nd .nil none (setF f .nil (k / 2) v)
  | f + 1, .nd l u r, k, v => match k with
    | 0 => .nd l v r
    | k + 1 => match k % 2 with
      | 0 => .nd (setF f l (k / 2) v) u r
      | _ + 1 => .nd l u (setF f r (k / 2) v)
def put {α : Type} (t : Tr α) (k : Nat) (v : Option α) : Tr α := setF (k + 1) t k v
theorem get_nil {α : Type} (k : Nat) : (Tr.nil : Tr α).get k = none := rfl
theorem get_nd0 {α : Type} (l r : Tr α) (v : Option α) : (Tr.nd l v r).get 0 = v := rfl
theorem get_nd1 {α : Type} (l r : Tr α) (v : Option α) (k : Nat) : (Tr.nd l v r).get (k + 1) = if k % 2 = 0 then l.get (k / 2) else r.get (k / 2) := by
  have h : k % 2 = 0 ∨ k % 2 = 1 := by omega
  rcases h with h | h <;> simp [get, h]
theorem setF_nil1 {α : Type} (f k : Nat) (v : Option α) : setF (f + 1) .nil (k + 1) v = if k % 2 = 0 then .nd (setF f .nil (k / 2) v) none .nil else .nd .nil none (setF f .nil (k / 2) v) := by
  have h : k % 2 = 0 ∨ k % 2 = 1 := by omega
  rcases h with h | h <;> simp [setF, h]
theorem setF_nd1 {α : Type} (f k : Nat) (l r : Tr α) (u v : Option α) : setF (f + 1) (.nd l u r) (k + 1) v = if k % 2 = 0 then .nd (setF f l (k / 2) v) u r else .nd l u (setF f r (k / 2) v) := by
  have h : k % 2 = 0 ∨ k % 2 = 1 := by omega
  rcases h with h | h <;> simp [setF, h]
theorem get_setF {α : Type} : ∀ (f : Nat) (t : Tr α) (k : Nat) (v : Option α) (j : Nat), k < f → (setF f t k v).get j = if j = k then v else t.get j
  | 0, _, _, _, _, h => by omega
  | f + 1, .nil, 0, v, j, _ => by
    cases j with
    | zero => rfl
    | succ j => rw [show setF (f + 1) .nil 0 v = Tr.nd .nil v .nil from rfl, get_nd1, if_neg (show ¬ j + 1 = 0 by omega), get_nil]; split <;> rfl
  | f + 1, .nil, k + 1, v, j, h => by
    rw [setF_nil1, get_nil]
    by_cases k1 : k % 2 = 0
    · rw [if_pos k1]
      cases j with
      | zero => rw [get_nd0, if_neg (by omega)]
      | succ j =>
        rw [get_nd1, get_setF f _ _ _ _ (by omega), get_nil]
        by_cases e : j = k
        · subst e; rw [if_pos k1, if_pos rfl, if_pos rfl]
        · rw [if_neg (show ¬ j + 1 = k + 1 by omega)]
          by_cases j1 : j % 2 = 0
          · rw [if_pos j1, if_neg (by omega)]
          · rw [if_neg j1]
    · rw [if_neg k1]
      cases j with
      | zero => rw [get_nd0, if_neg (by omega)]
      | succ j =>
        rw [get_nd1, get_setF f _ _ _ _ (by omega), get_nil]
        by_cases e : j = k
        · subst e; rw [if_neg k1, if_pos rfl, if_pos rfl]
        · rw [if_neg (show ¬ j + 1 = k + 1 by omega)]
          by_cases j1 : j % 2 = 0
          · rw [if_pos j1]
          · rw [if_neg j1, if_neg (by omega)]
  | f + 1, .nd l u r, 0, v, j, _ => by
    cases j with
    | zero => rfl
    | succ j => rw [show setF (f + 1) (.nd l u r) 0 v = Tr.nd l v r from rfl, get_nd1, if_neg (show ¬ j + 1 = 0 by omega), get_nd1]
  | f + 1, .nd l u r, k + 1, v, j, h => by
    rw [setF_nd1]
    by_cases k1 : k % 2 = 0
    · rw [if_pos k1]
      cases j with
      | zero => rw [get_nd0, if_neg (by omega), get_nd0]
      | succ j =>
        rw [get_nd1, get_nd1, get_setF f _ _ _ _ (by omega)]
        by_cases e : j = k
        · subst e; rw [if_pos k1, if_pos rfl, if_pos rfl]
        · rw [if_neg (show ¬ j + 1 = k + 1 by omega)]
          by_cases j1 : j % 2 = 0
          · rw [if_pos j1, if_neg (by omega), if_pos j1]
          · rw [if_neg j1, if_neg j1]
    · rw [if_neg k1]
      cases j with
      | zero => rw [get_nd0, if_neg (by omega), get_nd0]
      | succ j =>
        rw [get_nd1, get_nd1, get_setF f _ _ _ _ (by omega)]
        by_cases e : j = k
        · subst e; rw [if_neg k1, if_pos rfl, if_pos rfl]
        · rw [if_neg (show ¬ j + 1 = k + 1 by omega)]
          by_cases j1 : j % 2 = 0
          · rw [if_pos j1, if_pos j1]
          · rw [if_neg j1, if_neg (by omega), if_neg j1]
theorem get_put {α : Type} (t : Tr α) (k : Nat) (v : Option α) (j : Nat) : (t.put k v).get j = if j = k then v else t.get j := get_setF _ _ _ _ _ (by omega)
end Tr

/-- Values of the abstract machine. A pointer: an object's number, a cell in it. A slice: object, cells of an element, first cell, elements, elements up to the known end. -/
inductive AV where
  | i (k : IntKind) (n : Int)
  | b (x : Bool)
  | s (x : List UInt8)
  | np
  | p (a o : Nat)
  | ns
  | sl (a z o n c : Nat)
  | nm
  | m (r : Nat)
  | nf
  | fn (f : Nat) (x y : List AV)
  | ag (l : List AV)
  | tp (l : List AV)

def AV.cells : AV → List AV
  | .ag l => l
  | v => [v]
/-- May it lie in one cell? -/
def AV.one : AV → Bool
  | .ag _ | .tp _ => false
  | _ => true

mutual
def veq : AV → AV → Bool
  | .i k n, .i k' n' => k == k' && n == n'
  | .b x, .b y => x == y
  | .s x, .s y => x == y
  | .np, .np | .ns, .ns | .nm, .nm | .nf, .nf => true
  | .p a o, .p a' o' => a == a' && o == o'
  | .sl a z o n c, .sl a' z' o' n' c' => a == a' && z == z' && o == o' && n == n' && c == c'
  | .m r, .m r' => r == r'
  | .fn f x y, .fn f' x' y' => f == f' && veqs x x' && veqs y y'
  | .ag l, .ag l' | .tp l, .tp l' => veqs l l'
  | _, _ => false
def veqs : List AV → List AV → Bool
  | [], [] => true
  | x :: l, y :: r => veq x y && veqs l r
  | _, _ => false
end

/-- May it be written? It was there and may not be; it is of our own and stays as it is; it may. -/
inductive Fl where
  | r | z | w
  deriving DecidableEq
/-- Objects: a row of cells (may it be written?); a map (how often it was turned); one that goes through a map. -/
inductive AO where
  | c (w : Fl) (l : List AV)
  | mp (n : Nat) (l : List (AV × AV))
  | it (m : Option Nat) (n : Nat) (left : List (AV × AV)) (cur : Option (AV × AV))

structure Hp where
  t : Tr AO
  nx : Nat
def Hp.get (H : Hp) (k : Nat) : Option AO := H.t.get k
def Hp.set (H : Hp) (k : Nat) (o : AO) : Hp := ⟨H.t.put k (some o), H.nx⟩
def Hp.kill (H : Hp) (k : Nat) : Hp := ⟨H.t.put k none, H.nx⟩
def Hp.new (H : Hp) (o : AO) : Hp := ⟨H.t.put H.nx (some o), H.nx + 1⟩
theorem Hp.get_set (H : Hp) (k : Nat) (o : AO) (j : Nat) : (H.set k o).get j = if j = k then some o else H.get j := Tr.get_put _ _ _ _
theorem Hp.get_kill (H : Hp) (k : Nat) (j : Nat) : (H.kill k).get j = if j = k then none else H.get j := Tr.get_put _ _ _ _
theorem Hp.get_new (H : Hp) (o : AO) (j : Nat) : (H.new o).get j = if j = H.nx then some o else H.get j := Tr.get_put _ _ _ _
@[simp] theorem Hp.nx_set (H : Hp) (k : Nat) (o : AO) : (H.set k o).nx = H.nx := rfl
@[simp] theorem Hp.nx_kill (H : Hp) (k : Nat) : (H.kill k).nx = H.nx := rfl
@[simp] theorem Hp.nx_new (H : Hp) (o : AO) : (H.new o).nx = H.nx + 1 := rfl

/-- Operands, environments. -/
inductive O where
  | t (n : Nat)
  | c (v : AV)
abbrev Env := Tr AV
def Env.g (e : Env) (n : Nat) : AV := (e.get n).getD (.tp [])
def Env.st (e : Env) (n : Nat) (v : AV) : Env := e.put n (some v)
theorem Env.g_st (e : Env) (n : Nat) (v : AV) (j : Nat) : (e.st n v).g j = if j = n then v else e.g j := by
  unfold Env.g Env.st; rw [Tr.get_put]; split <;> rfl
def ev (e : Env) : O → AV
  | .t n => e.g n
  | .c v => v

/-- Which equality: of ints, strings, bools; with nil, of pointers, slices, maps, functions; of the parts of an aggregate. -/
inductive ET where
  | i
  | s
  | b
  | np
  | ns
  | nm
  | nf
  | ag (l : List (Nat × Nat × ET))

inductive PO where
  | mv (x : O)
  | pk (c x y : O)
  | nc (x : O)
  | bo (op : BinOp) (x y : O)
  | eq (neg : Bool) (t : ET) (x y : O)
  | un (op : UnOp) (x : O)
  | ci (k : IntKind) (x : O)
  | fa (x : O) (off : Nat)
  | fd (x : O) (agg : Bool) (off n : Nat)
  | ia (x i : O) (e : Nat)
  | iA (x i : O) (len e : Nat)
  | ix (x i : O)
  | ig (x i : O) (agg : Bool) (len e : Nat)
  | mf (f : Nat) (x y : List O)
  | sl (x : O) (e : Nat) (lo hi mx : Option O)
  | ss (x : O) (lo hi : Option O)
  | bd (z : List AV) (l : List (Nat × Nat × O))
  | ex (x : O) (i : Nat)
  | ln (x : O)
  | ls (x : O)
  | cp (x : O)
  | ci64 (n : Nat)
  | mn (l : List O)
  | mx (l : List O)
  | no
inductive RO where
  | ld (x : O)
  | la (x : O) (n : Nat)
  | lk (t : ET) (z : AV) (x k : O) (ok : Bool)
  | lm (x : O)
  | bs (x : O)
  | en (x : O)
inductive NO where
  | al (z : List AV)
  | bx (x : O)
  | bs (e : Nat) (z : List AV) (n : Nat) (l : List (Nat × Nat × O))
  | mm
  | ms (e : Nat) (z : List AV) (bytes : Nat) (n c : O)
  | sb (x : O)
inductive EO where
  | st (x v : O) (n : Nat)
  | ap (e : Nat) (z : List AV) (bytes : Nat) (x y : O)
  | az (e : Nat) (z : List AV) (bytes : Nat) (x n : O)
  | cy (e : Nat) (x y : O)
  | cl (z : List AV) (x : O)
  | mu (t : ET) (m k v : O)
  | dl (t : ET) (m k : O)
  | mk (x : O)
  | rg (x : O)
  | nx (x : O)
  | no
  | ca (f : Nat) (l : List O)
  | cv (f : O) (l : List O)
inductive Op where
  | p (d : Nat) (o : PO)
  | r (d : Nat) (o : RO)
  | n (d : Nat) (o : NO)
  | e (d : Option Nat) (o : EO)
  | g (t : Nat) (want : Bool) (o : Op)

/-! ### What the operations answer -/
/-- The wrap of a kind; what fits stays. -/
def wr (k : IntKind) (n : Int) : Int :=
  match k with
  | .i64 => if -9223372036854775808 ≤ n ∧ n ≤ 9223372036854775807 then n else IntKind.wrap .i64 n
  | .u64 => n % 18446744073709551616
  | .u8 => n % 256
  | k => IntKind.wrap k n
theorem wr_eq (k : IntKind) (n : Int) : wr k n = k.wrap n := by
  unfold wr
  split
  · split
    · rename_i h
      have h2 : (2 : Int) ^ 64 = 18446744073709551616 := by decide
      have h3 : (2 : Int) ^ 63 = 9223372036854775808 := by decide
      simp only [IntKind.wrap, IntKind.bits, IntKind.signed, h2, h3, Bool.true_and]
      split <;> simp_all <;> omega
    · rfl
  · simp [IntKind.wrap, IntKind.bits, IntKind.signed]
  · simp [IntKind.wrap, IntKind.bits, IntKind.signed]
  · rfl
def arith (op : BinOp) (k : IntKind) (a b : Int) : Option AV :=
  match op with
  | .add => some (.i k (wr k (a + b)))
  | .sub => some (.i k (wr k (a - b)))
  | .mul => some (.i k (wr k (a * b)))
  | .quo => if b = 0 then none else some (.i k (wr k (a.tdiv b)))
  | .rem => if b = 0 then none else some (.i k (a.tmod b))
  | .and => some (.i k (wr k (BitVec.ofInt k.bits a &&& BitVec.ofInt k.bits b).toNat))
  | .or => some (.i k (wr k (BitVec.ofInt k.bits a ||| BitVec.ofInt k.bits b).toNat))
  | .xor => some (.i k (wr k (BitVec.ofInt k.bits a ^^^ BitVec.ofInt k.bits b).toNat))
  | .eql => some (.b (a == b))
  | .neq => some (.b (a != b))
  | .lss => some (.b (decide (a < b)))
  | .leq => some (.b (decide (a ≤ b)))
  | .gtr => some (.b (decide (a > b)))
  | .geq => some (.b (decide (a ≥ b)))
  | _ => none
def bin (op : BinOp) : AV → AV → Option AV
  | .i k a, .i k' b =>
    match op with
    | .shl => if b < 0 then none else some (.i k (wr k (a * (2 ^ min b.toNat k.bits : Nat))))
    | .shr => if b < 0 then none else some (.i k (a.fdiv (2 ^ min b.toNat k.bits : Nat)))
    | _ => if k = k' then arith op k a b else none
  | .s a, .s b =>
    match op with
    | .add => if a.length + b.length ≤ 1000000000000 then some (.s (a ++ b)) else none
    | .eql => some (.b (a == b))
    | .neq => some (.b (!(a == b)))
    | _ => none
  | _, _ => none
def partOf (agg : Bool) (cs : List AV) (off n : Nat) : Option AV := if agg then some (.ag ((cs.drop off).take n)) else cs[off]?
mutual
def eqv : ET → AV → AV → Option Bool
  | .i, .i k a, .i k' b => if k = k' then some (a == b) else none
  | .s, .s a, .s b => some (a == b)
  | .b, .b a, .b b => some (a == b)
  | .np, .np, .np | .ns, .ns, .ns | .nm, .nm, .nm | .nf, .nf, .nf => some true
  | .np, .np, .p _ _ | .np, .p _ _, .np | .ns, .ns, .sl _ _ _ _ _ | .ns, .sl _ _ _ _ _, .ns | .nm, .nm, .m _ | .nm, .m _, .nm | .nf, .nf, .fn _ _ _ | .nf, .fn _ _ _, .nf => some false
  | .ag l, .ag xs, .ag ys => eqvs l xs ys
  | _, _, _ => none
def eqvs : List (Nat × Nat × ET) → List AV → List AV → Option Bool
  | [], _, _ => some true
  | (off, n, t) :: l, xs, ys =>
    match partOf (match t with | .ag _ => true | _ => false) xs off n, partOf (match t with | .ag _ => true | _ => false) ys off n with
    | some x, some y =>
      match eqv t x y with
      | some true => eqvs l xs ys
      | some false => some false
      | none => none
    | _, _ => none
end
/-- A bound of a cut, at most y. -/
def bnd (x : AV) (y : Nat) : Option Nat :=
  match x with
  | .i _ n => if 0 ≤ n ∧ n ≤ y then some n.toNat else none
  | _ => none
def bnds (e : Env) (len cap : Nat) (lo hi mx : Option O) : Option (Nat × Nat × Nat) :=
  match (match mx with | some v => bnd (ev e v) cap | none => some cap) with
  | none => none
  | some m =>
    match (match hi, mx with | some v, some _ => bnd (ev e v) m | some v, none => bnd (ev e v) m | none, none => some len | none, some _ => none) with
    | none => none
    | some h =>
      match (match lo with | some v => bnd (ev e v) h | none => some 0) with
      | none => none
      | some l => some (l, h, m)
/-- Parts laid over cells. -/
def lay (e : Env) : List AV → List (Nat × Nat × O) → Option (List AV)
  | cs, [] => some cs
  | cs, (off, n, x) :: l =>
    let v := (ev e x).cells
    if v.length = n ∧ off + n ≤ cs.length ∧ v.all AV.one then lay e (cs.take off ++ v ++ cs.drop (off + n)) l else none
def rep (z : List AV) : Nat → List AV
  | 0 => []
  | n + 1 => z ++ rep z n
def foldInt (f : Int → Int → Int) (e : Env) : IntKind → Int → List O → Option AV
  | k, a, [] => some (.i k a)
  | k, a, x :: l => match ev e x with
    | .i k' b => if k = k' then foldInt f e k (f a b) l else none
    | _ => none
def rPk (e : Env) (c x y : O) : Option AV := match ev e c with | .b t => some (if t then ev e x else ev e y) | _ => none
def rNc (e : Env) (x : O) : Option AV := match ev e x with | .p a o => some (.p a o) | .fn f x y => some (.fn f x y) | _ => none
def rEq (e : Env) (neg : Bool) (t : ET) (x y : O) : Option AV := match eqv t (ev e x) (ev e y) with | some r => some (.b (if neg then !r else r)) | none => none
def rUn (e : Env) (op : UnOp) (x : O) : Option AV := match op with
  | .not => match ev e x with | .b t => some (.b !t) | _ => none
  | .neg => match ev e x with | .i k n => some (.i k (wr k (0 - n))) | _ => none
  | _ => none
def rCi (e : Env) (k : IntKind) (x : O) : Option AV := match ev e x with | .i _ n => some (.i k (wr k n)) | _ => none
def rFa (e : Env) (x : O) (off : Nat) : Option AV := match ev e x with | .p a o => some (.p a (o + off)) | _ => none
def rFd (e : Env) (x : O) (agg : Bool) (off n : Nat) : Option AV := match ev e x with | .ag l => partOf agg l off n | _ => none
def rIa (e : Env) (x i : O) (z : Nat) : Option AV := match ev e x, ev e i with
  | .sl a z' o n _, .i _ k => if 0 ≤ k ∧ k < n ∧ z' = z then some (.p a (o + k.toNat * z)) else none
  | _, _ => none
def rIA (e : Env) (x i : O) (len z : Nat) : Option AV := match ev e x, ev e i with
  | .p a o, .i _ k => if 0 ≤ k ∧ k < len then some (.p a (o + k.toNat * z)) else none
  | _, _ => none
def rIx (e : Env) (x i : O) : Option AV := match ev e x, ev e i with
  | .s l, .i _ k => if 0 ≤ k then (l[k.toNat]?).map fun c => .i .u8 c.toNat else none
  | _, _ => none
def rIg (e : Env) (x i : O) (agg : Bool) (len z : Nat) : Option AV := match ev e x, ev e i with
  | .ag l, .i _ k => if 0 ≤ k ∧ k < len then partOf agg l (k.toNat * z) z else none
  | _, _ => none
def rSl (e : Env) (x : O) (z : Nat) (lo hi mx : Option O) : Option AV := match ev e x with
  | .ns => match bnds e 0 0 lo hi mx with | some _ => some .ns | none => none
  | .sl a z' o n c => if z' = z then (match bnds e n c lo hi mx with | some (l, h, m) => some (.sl a z (o + l * z) (h - l) (m - l)) | none => none) else none
  | _ => none
def rSs (e : Env) (x : O) (lo hi : Option O) : Option AV := match ev e x with
  | .s l => match bnds e l.length l.length lo hi none with | some (a, h, _) => some (.s ((l.take h).drop a)) | none => none
  | _ => none
def rEx (e : Env) (x : O) (i : Nat) : Option AV := match ev e x with | .tp l => l[i]? | _ => none
def rLn (e : Env) (x : O) : Option AV := match ev e x with
  | .ns => some (.i .i64 0) | .sl _ _ _ n _ => some (.i .i64 n) | _ => none
def rLs (e : Env) (x : O) : Option AV := match ev e x with
  | .s l => some (.i .i64 l.length) | _ => none
def rCp (e : Env) (x : O) : Option AV := match ev e x with | .ns => some (.i .i64 0) | _ => none
def rMn (e : Env) : List O → Option AV
  | x :: l => match ev e x with | .i k a => foldInt (fun x y => if y < x then y else x) e k a l | _ => none
  | [] => none
def rMx (e : Env) : List O → Option AV
  | x :: l => match ev e x with | .i k a => foldInt (fun x y => if y > x then y else x) e k a l | _ => none
  | [] => none
def PO.run (e : Env) : PO → Option AV
  | .mv x => some (ev e x)
  | .pk c x y => rPk e c x y
  | .nc x => rNc e x
  | .bo op x y => bin op (ev e x) (ev e y)
  | .eq neg t x y => rEq e neg t x y
  | .un op x => rUn e op x
  | .ci k x => rCi e k x
  | .fa x off => rFa e x off
  | .fd x agg off n => rFd e x agg off n
  | .ia x i z => rIa e x i z
  | .iA x i len z => rIA e x i len z
  | .ix x i => rIx e x i
  | .ig x i agg len z => rIg e x i agg len z
  | .mf f x y => some (.fn f (x.map (ev e)) (y.map (ev e)))
  | .sl x z lo hi h => rSl e x z lo hi h
  | .ss x lo hi => rSs e x lo hi
  | .bd z l => (lay e z l).map .ag
  | .ex x i => rEx e x i
  | .ln x => rLn e x
  | .ls x => rLs e x
  | .cp x => rCp e x
  | .ci64 n => some (.i .i64 n)
  | .mn l => rMn e l
  | .mx l => rMx e l
  | .no => none
/-- A key that fits. -/
def kOK : ET → AV → Bool
  | .i, .i _ _ | .s, .s _ | .b, .b _ => true
  | .ag l, .ag xs => l.all fun q => match q.2.2, xs[q.1]? with | .i, some (.i _ _) => true | _, _ => false
  | _, _ => false
def look (t : ET) (k : AV) : List (AV × AV) → Option (Option (Nat × AV))
  | [] => some none
  | (x, v) :: l => match eqv t k x with
    | some true => some (some (0, v))
    | some false => match look t k l with
      | some (some (i, u)) => some (some (i + 1, u))
      | r => r
    | none => none
def Hp.cells (H : Hp) (a : Nat) : Option (List AV) := match H.get a with | some (.c _ l) => some l | _ => none
def Hp.map (H : Hp) (a : Nat) : Option (List (AV × AV)) := match H.get a with | some (.mp _ l) => some l | _ => none
def Hp.ver (H : Hp) (a : Nat) : Nat := match H.get a with | some (.mp n _) => n | _ => 0
/-- So many cells from one on. -/
def rdN (l : List AV) (o n : Nat) : Option (List AV) := if o + n ≤ l.length then some ((l.drop o).take n) else none
def wrN (l : List AV) (o : Nat) (v : List AV) : List AV := l.take o ++ v ++ l.drop (o + v.length)
def bytesOf : List AV → Option (List UInt8)
  | [] => some []
  | .i .u8 n :: l => (bytesOf l).map (UInt8.ofNat n.toNat :: ·)
  | _ => none
def RO.run (e : Env) (H : Hp) : RO → Option AV
  | .ld x => match ev e x with
    | .p a o => match H.cells a with | some l => l[o]? | none => none
    | _ => none
  | .la x n => match ev e x with
    | .p a o => match H.cells a with | some l => (rdN l o n).map .ag | none => none
    | _ => none
  | .lk t z x k ok =>
    match (match ev e x with | .nm => some [] | .m r => H.map r | _ => none) with
    | none => none
    | some l => if kOK t (ev e k) then (match look t (ev e k) l with
      | none => none
      | some (some (_, v)) => some (if ok then .tp [v, .b true] else v)
      | some none => some (if ok then .tp [z, .b false] else z)) else none
  | .lm x => match ev e x with
    | .nm => some (.i .i64 0)
    | .m r => match H.map r with | some l => some (.i .i64 l.length) | none => none
    | _ => none
  | .bs x => match ev e x with
    | .ns => some (.s [])
    | .sl a z o n _ => if z = 1 then (match H.cells a with
      | some l => match rdN l o n with | some v => (bytesOf v).map .s | none => none
      | none => none) else none
    | _ => none
  | .en x => match ev e x with
    | .p a 0 => match H.get a with
      | some (.it (some m) n _ (some (k, v))) => match H.get m with
        | some (.mp n' _) => if n' = n then some (.tp [k, v]) else none
        | _ => none
      | _ => none
    | _ => none
def NO.run (e : Env) : NO → Option (AO × (Nat → AV))
  | .al z => if z.all AV.one then some (.c .w z, fun a => .p a 0) else none
  | .bx x => if (ev e x).cells.all AV.one then some (.c .w (ev e x).cells, fun a => .p a 0) else none
  | .bs z c n l => match lay e (rep c n) l with
    | some cs => if 0 < z ∧ cs.length = n * z ∧ cs.all AV.one then some (.c .w cs, fun a => .sl a z 0 n n) else none
    | none => none
  | .mm => some (.mp 0 [], fun a => .m a)
  | .ms z c bytes n m => match ev e n, ev e m with
    | .i .i64 x, .i .i64 y => if 0 < z ∧ 0 ≤ x ∧ x = y ∧ y ≤ 1000000000000 ∧ y * bytes ≤ 1000000000000 ∧ c.length = z ∧ c.all AV.one then some (.c .w (rep c x.toNat), fun a => .sl a z 0 x.toNat x.toNat) else none
    | _, _ => none
  | .sb x => match ev e x with
    | .s l => if l.length ≤ 1000000000000 then some (.c .w (l.map fun c => .i .u8 c.toNat), fun a => .sl a 1 0 l.length l.length) else none
    | _ => none
/-- What an append brings: cells, how many elements. -/
def apSrc (H : Hp) (z : Nat) : AV → Option (List AV × Nat)
  | .ns => some ([], 0)
  | .s l => if z = 1 then some (l.map fun c => .i .u8 c.toNat, l.length) else none
  | .sl a z' o n _ => if z' = z then (match H.cells a with
    | some l => (rdN l o (n * z)).map fun v => (v, n)
    | none => none) else none
  | _ => none
/-- An append of n elements v: within what is known, in place; else a new object: the old one is gone. -/
def apRun (H : Hp) (z : Nat) (bytes : Nat) (x : AV) (v : List AV) (n : Nat) : Option (AV × Hp) :=
    if 0 < z ∧ v.all AV.one then
      match x with
      | .ns => if n = 0 then some (.ns, H) else if n ≤ 1000000000000 ∧ n * bytes ≤ 1000000000000 then some (.sl H.nx z 0 n n, H.new (.c .w v)) else none
      | .sl a z' o k c =>
        if z' = z then
          match H.get a with
          | some (.c .w l) =>
            if k + n ≤ c then
              if o + (k + n) * z ≤ l.length then some (.sl a z o (k + n) c, H.set a (.c .w (wrN l (o + k * z) v))) else none
            else if o + k * z ≤ l.length ∧ k + n ≤ 1000000000000 ∧ (k + n) * bytes ≤ 1000000000000 then
              some (.sl H.nx z 0 (k + n) (k + n), (H.kill a).new (.c .w ((l.drop o).take (k * z) ++ v)))
            else none
          | _ => none
        else none
      | _ => none
    else none
def EO.run (e : Env) (H : Hp) : EO → Option (AV × Hp)
  | .st x v n => match ev e x with
    | .p a o => match H.get a with
      | some (.c .w l) => if (ev e v).cells.length = n ∧ o + n ≤ l.length ∧ (ev e v).cells.all AV.one then some (.tp [], H.set a (.c .w (wrN l o (ev e v).cells))) else none
      | _ => none
    | _ => none
  | .ap z _ bytes x y => match apSrc H z (ev e y) with | some (v, n) => apRun H z bytes (ev e x) v n | none => none
  | .az z c bytes x n => match ev e n with
    | .i .i64 k => if 0 ≤ k ∧ k ≤ 1000000000000 ∧ k * bytes ≤ 1000000000000 ∧ c.length = z then apRun H z bytes (ev e x) (rep c k.toNat) k.toNat else none
    | _ => none
  | .cy z x y => match apSrc H z (ev e y) with
    | none => none
    | some (v, n) => match ev e x with
      | .ns => some (.i .i64 0, H)
      | .sl a z' o k _ => match H.get a with
        | some (.c .w l) =>
          if z' = z ∧ 0 < z ∧ o + min n k * z ≤ l.length ∧ v.all AV.one then some (.i .i64 (min n k : Nat), H.set a (.c .w (wrN l o (v.take (min n k * z))))) else none
        | _ => none
      | _ => none
  | .cl z x => match ev e x with
    | .ns => some (.tp [], H)
    | .sl a z' o n _ => if n = 0 then some (.tp [], H) else match H.get a with
      | some (.c .w l) => if z' = z.length ∧ o + n * z' ≤ l.length ∧ z.all AV.one then some (.tp [], H.set a (.c .w (wrN l o (rep z n)))) else none
      | _ => none
    | _ => none
  | .mu t m k v => match ev e m with
    | .m r => match H.map r with
      | some l => if kOK t (ev e k) then (match look t (ev e k) l with
        | none => none
        | some (some (i, _)) => (match l[i]? with
          | some (x, _) => if veq (ev e k) x then some (.tp [], H.set r (.mp (H.ver r + 1) (l.set i (ev e k, ev e v)))) else none
          | none => none)
        | some none => some (.tp [], H.set r (.mp (H.ver r + 1) (l ++ [(ev e k, ev e v)])))) else none
      | none => none
    | _ => none
  | .dl t m k => match ev e m with
    | .nm => if kOK t (ev e k) then some (.tp [], H) else none
    | .m r => match H.map r with
      | some l => if kOK t (ev e k) then (match look t (ev e k) l with
        | none => none
        | some (some (i, _)) => some (.tp [], H.set r (.mp (H.ver r + 1) (l.eraseIdx i)))
        | some none => some (.tp [], H)) else none
      | none => none
    | _ => none
  | .mk x => match ev e x with
    | .sl a z o n c => if 0 < c then (match H.get a with | some (.c .w _) => some (.sl a z o n c, H) | _ => none) else none
    | _ => none
  | .rg x => match ev e x with
    | .nm => some (.p H.nx 0, H.new (.it none 0 [] none))
    | .m r => match H.get r with
      | some (.mp n l) => some (.p H.nx 0, H.new (.it (some r) n l none))
      | _ => none
    | _ => none
  | .ca _ _ | .cv _ _ | .nx _ | .no => none
/-- One step of a way through a map, the k-th of those that are left. -/
def nxRun (H : Hp) (x : AV) (k : Nat) : Option (AV × Hp) :=
  match x with
  | .p a 0 => match H.get a with
    | some (.it none _ _ _) => some (.tp [.b false], H)
    | some (.it (some m) n left cur) => match H.get m with
      | some (.mp n' _) => if n' = n then (match left with
        | [] => some (.tp [.b false], H)
        | _ :: _ => match left[k]? with
          | some (u, v) => some (.tp [.b true, u, v], H.set a (.it (some m) n (left.eraseIdx k) (some (u, v))))
          | none => none) else none
      | _ => none
    | _ => none
  | _ => none
end Go.AM
/- The abstract machine: code, and a run of it. -/
set_option linter.unusedVariables false
namespace Go.AM
open Go

/-- A region whose order is open: its operations by their places: one that changes nothing that is there; an effect, some slots' objects out of sight, some reads once more. -/
inductive DC where
  | n (i : Nat)
  | e (i : Nat) (ms cs : List Nat)
inductive AC where
  | sk
  | rg (l : List Op)
  | dr (l : List Op) (s : List DC)
  | sq (a b : AC)
  | cd (c : O) (a b : AC)
  | bl (id : Nat) (a : AC)
  | lp (a : AC)
  | ex (id : Nat)
  | rt
inductive RV where
  | t (n : Nat)
  | c (n : Nat) (agg : Bool) (size : Nat)
structure AFn where
  n : Nat
  rs : List RV
  c : AC

def Op.dst : Op → Option Nat
  | .p d _ | .r d _ | .n d _ => some d
  | .e d _ => d
  | .g _ _ o => o.dst
def putO (e : Env) (d : Option Nat) (v : AV) : Env := match d with | some d => e.st d v | none => e
def EO.callee (e : Env) : EO → Option (Nat × List AV)
  | .ca f l => some (f, l.map (ev e))
  | .cv x l => match ev e x with | .fn f a b => some (f, a ++ l.map (ev e) ++ b) | _ => none
  | _ => none
def RV.get (e : Env) (H : Hp) : RV → Option AV
  | .t n => some (e.g n)
  | .c n agg size => if agg then RO.run e H (.la (.t n) size) else RO.run e H (.ld (.t n))
def resL (e : Env) (H : Hp) : List RV → Option (List AV)
  | [] => some []
  | r :: l => match r.get e H with
    | some v => (resL e H l).map (v :: ·)
    | none => none
def results (rs : List RV) (e : Env) (H : Hp) : Option AV :=
  match resL e H rs with
  | some [v] => some v
  | some l => some (.tp l)
  | none => none
def envOf : Nat → List AV → Env
  | _, [] => .nil
  | k, v :: l => (envOf (k + 1) l).st k v
def blk : AV → Option Nat
  | .p a _ | .sl a _ _ _ _ | .m a => some a
  | _ => none
/-- One that may be out of sight. -/
def AO.msk : AO → Bool
  | .c .w _ | .mp _ _ => true
  | _ => false
def maskL (e : Env) (H : Hp) : List Nat → Option (Hp × List (Nat × AO))
  | [] => some (H, [])
  | t :: l => match blk (e.g t) with
    | none => maskL e H l
    | some a => match H.get a with
      | none => none
      | some o => if o.msk then (match maskL e (H.kill a) l with
        | some (H', r) => some (H', (a, o) :: r)
        | none => none) else none
def unmask (H : Hp) : List (Nat × AO) → Hp
  | [] => H
  | (a, o) :: l => unmask (H.set a o) l
/-- Is it wanted? -/
def wanted (e : Env) (t : Nat) (w : Bool) : Bool := match e.g t with | .b x => x == w | _ => false
/-- The read is what it was. -/
def again1 (e : Env) (H : Hp) : Op → Bool
  | .r d r => match r.run e H with | some v => veq v (e.g d) | none => false
  | _ => false
def again (e : Env) (H : Hp) : Op → Bool
  | .g t w o => if wanted e t w then again1 e H o else true
  | o => again1 e H o

abbrev R := Option (AV × Hp)
abbrev Cal := Nat → List AV → Hp → (AV → Hp → R) → R
def opP (d : Nat) (o : PO) (e : Env) (H : Hp) (K : Env → Hp → R) : R := match o.run e with | some v => K (e.st d v) H | none => none
def opR (d : Nat) (o : RO) (e : Env) (H : Hp) (K : Env → Hp → R) : R := match o.run e H with | some v => K (e.st d v) H | none => none
def opN (d : Nat) (o : NO) (e : Env) (H : Hp) (K : Env → Hp → R) : R := match o.run e with | some (ob, f) => K (e.st d (f H.nx)) (H.new ob) | none => none
def opE (cal : Cal) (d : Option Nat) (o : EO) (e : Env) (H : Hp) (K : Env → Hp → R) : R :=
  match o.callee e with
  | some (f, args) => cal f args H fun v H1 => K (putO e d v) H1
  | none => match o.run e H with
    | some (v, H1) => K (putO e d v) H1
    | none => none
/-- An operation without a guard. -/
def op1 (cal : Cal) (o : Op) (e : Env) (H : Hp) (K : Env → Hp → R) : R :=
  match o with
  | .p d o => opP d o e H K
  | .r d o => opR d o e H K
  | .n d o => opN d o e H K
  | .e d o => opE cal d o e H K
  | .g _ _ _ => none
def op0 (cal : Cal) (o : Op) (e : Env) (H : Hp) (K : Env → Hp → R) : R :=
  match o with
  | .g t w o => if wanted e t w then op1 cal o e H K else K (putO e o.dst (.tp [])) H
  | o => op1 cal o e H K
def opM (cal : Cal) (o : Op) (ms : List Nat) (e : Env) (H : Hp) (K : Env → Hp → R) : R :=
  match maskL e H ms with
  | some (M, r) => op0 cal o e M fun e1 H1 => K e1 (unmask H1 r)
  | none => none
def againAll (ops : List Op) (e : Env) (H : Hp) : List Nat → Bool
  | [] => true
  | c :: l => match ops[c]? with
    | some o => if again e H o then againAll ops e H l else false
    | none => false
def opD (cal : Cal) (ops : List Op) (c : DC) (e : Env) (H : Hp) (K : Env → Hp → R) : R :=
  match c with
  | .n i => match ops[i]? with | some o => op0 cal o e H K | none => none
  | .e i ms cs => match ops[i]? with | some o => opM cal o ms e H fun e1 H1 => if againAll ops e1 H1 cs then K e1 H1 else none | none => none
def opsL (cal : Cal) : List Op → Env → Hp → (Env → Hp → R) → R
  | [], e, H, K => K e H
  | o :: l, e, H, K => op0 cal o e H fun e1 H1 => opsL cal l e1 H1 K
def opsD (cal : Cal) (ops : List Op) : List DC → Env → Hp → (Env → Hp → R) → R
  | [], e, H, K => K e H
  | c :: s, e, H, K => opD cal ops c e H fun e1 H1 => opsD cal ops s e1 H1 K
def opsDr (cal : Cal) (l : List Op) (s : List DC) (e : Env) (H : Hp) (K : Env → Hp → R) : R := match s with
  | [] => opsL cal l e H K
  | _ :: _ => opsD cal l s e H K
/-- How a piece of code is left. -/
inductive Ex where
  | n
  | x (id : Nat)
  | r
abbrev Run := AC → Env → Hp → (Ex → Env → Hp → R) → R
def kSq (b : Run) (c : AC) (K : Ex → Env → Hp → R) (x : Ex) (e : Env) (H : Hp) : R := match x with
  | .n => b c e H K
  | x => K x e H
def kBl (id : Nat) (K : Ex → Env → Hp → R) (x : Ex) (e : Env) (H : Hp) : R := match x with
  | .x i => if i = id then K .n e H else K (.x i) e H
  | x => K x e H
def kCl (rs : List RV) (K : AV → Hp → R) (x : Ex) (e : Env) (H : Hp) : R := match x with
  | .x _ => none
  | _ => match results rs e H with | some v => K v H | none => none
def runCd (r : Run) (c : O) (a b : AC) (e : Env) (H : Hp) (K : Ex → Env → Hp → R) : R := match ev e c with
  | .b x => r (if x then a else b) e H K
  | _ => none
section
variable (G : Nat → Option AFn) (ov : Nat → Option (List AV → Hp → R))
def calG (r : Run) : Cal := fun f args H K => match ov f with
  | some φ => match φ args H with | some (v, H1) => K v H1 | none => none
  | none => match G f with
    | some fn => if args.length ≤ fn.n then r fn.c (envOf 0 args) H (kCl fn.rs K) else none
    | none => none
def run : Nat → Run
  | 0, _, _, _, _ => none
  | n + 1, c, e, H, K => match c with
    | .sk => K .n e H
    | .rg l => opsL (calG G ov (run n)) l e H (K .n)
    | .dr l s => opsDr (calG G ov (run n)) l s e H (K .n)
    | .sq a b => run n a e H (kSq (run n) b K)
    | .cd c a b => runCd (run n) c a b e H K
    | .bl id a => run n a e H (kBl id K)
    | .lp a => run n a e H (kSq (run n) (.lp a) K)
    | .ex id => K (.x id) e H
    | .rt => K .r e H
def callG (n f : Nat) (args : List AV) (H : Hp) : R := match G f with
  | some fn => if args.length ≤ fn.n then run G ov n fn.c (envOf 0 args) H (kCl fn.rs fun v H1 => some (v, H1)) else none
  | none => none
end
def Hp.empty : Hp := ⟨.nil, 0⟩
end Go.AM
namespace Go.AM
instance (n : Nat) : OfNat O n := ⟨.t n⟩
def k (n : Int) : O := .c (.i .i64 n)
end Go.AM
/- From the model's code to the abstract machine's. -/
set_option linter.unusedVariables false
namespace Go.AM
open Go

def cvN : Nat → Value → Option AV
  | _, .bool b => some (.b b)
  | _, .int k n => some (.i k n)
  | _, .string s => some (.s s.data.toList)
  | _, .pointer none => some .np
  | _, .slice none 0 0 => some .ns
  | _, .map none => some .nm
  | _, .nilFunc => some .nf
  | n + 1, .agg cs => (cs.toList.mapM (cvN n)).map .ag
  | _, _ => none
def cvV (v : Value) : Option AV := cvN 4 v
def cO : Operand → Option O
  | .tmp t => some (.t t)
  | .const v => (cvV v).map .c
  | .func f => some (.c (.fn f [] []))
  | .global _ => none
def cOs (l : List Operand) : Option (List O) := l.mapM cO
def cOo : Option Operand → Option (Option O)
  | none => some none
  | some x => (cO x).map some
section
variable (P : Program)
def szOf (t : TypeId) : Option Nat := (P.info? t).map (·.size)
def byOf (t : TypeId) : Option Nat := (P.info? t).map (·.bytes)
def zOf (t : TypeId) : Option AV := ((P.info? t).bind (·.zero)).bind cvV
def agOf (t : TypeId) : Option Bool := (P.underlying t).map fun | .struct _ | .array _ _ => true | _ => false
def eqT : Nat → TypeId → Option ET
  | 0, _ => none
  | n + 1, t => match P.underlying t with
    | some .bool => some .b
    | some (.int _) => some .i
    | some .string => some .s
    | some (.pointer _) => some .np
    | some (.slice _) => some .ns
    | some (.map _ _) => some .nm
    | some (.func _ _ _) => some .nf
    | some (.struct fields) =>
      if P.stoodInHeld t then none else
      (fields.toList.mapM fun f => if f.name = "_" then none else
        match szOf P f.type, eqT n f.type with | some z, some x => some (f.offset, z, x) | _, _ => none).map .ag
    | some (.array len elem) =>
      match szOf P elem, eqT n elem with
      | some z, some x => some (.ag ((List.range len).map fun i => (i * z, z, x)))
      | _, _ => none
    | _ => none
def keyOk (t : TypeId) : Bool :=
  match P.underlying t with
  | some (.int _) | some .string | some .bool => true
  | some (.struct fields) => fields.toList.zipIdx.all fun (f, i) => f.name != "_" && f.offset == i && (match P.underlying f.type with | some (.int _) => true | _ => false)
  | _ => false
def cBin (d : Nat) (op : BinOp) (t : TypeId) (x y : O) : Option Op :=
  let eq (neg : Bool) : Option Op := match P.underlying t with
    | some (.int _) | some .string => some (.p d (.bo op x y))
    | _ => match eqT P 6 t with
      | some (.ag l) => if P.eqGuardType P.depth t then none else some (.p d (.eq neg (.ag l) x y))
      | some e => some (.p d (.eq neg e x y))
      | none => none
  match op with
  | .eql => eq false
  | .neq => eq true
  | _ => some (.p d (.bo op x y))
def cParts (place : Nat → Option (Nat × Nat)) (l : List (Nat × Operand)) : Option (List (Nat × Nat × O)) :=
  l.mapM fun (i, x) => match place i, cO x with | some (off, z), some o => some (off, z, o) | _, _ => none
def cOp (o : Oper) : Option Op :=
  match o.op, o.dst with
  | .move x, some d | .assign x, some d => (cO x).map fun x => .p d (.mv x)
  | .pick c a b, some d => match cO c, cO a, cO b with | some c, some a, some b => some (.p d (.pk c a b)) | _, _, _ => none
  | .alloc t, some d => (zOf P t).map fun z => .n d (.al z.cells)
  | .box _ x, some d => (cO x).map fun x => .n d (.bx x)
  | .build t parts, some d =>
    match zOf P t, P.underlying t with
    | some z, some (.struct fields) =>
      if fields.toList.all (fun f => (szOf P f.type).isSome) then (cParts (fun i => (fields.toList[i]?).map fun f => (f.offset, (szOf P f.type).getD 0)) parts.toList).map fun l => .p d (.bd z.cells l) else none
    | some z, some (.array _ elem) => match szOf P elem with
      | some s => (cParts (fun i => some (i * s, s)) parts.toList).map fun l => .p d (.bd z.cells l)
      | none => none
    | _, _ => none
  | .buildSlice t n parts, some d =>
    match P.underlying t with
    | some (.slice elem) => match szOf P elem, zOf P elem with
      | some s, some z => if n * s ≤ 16777216 ∧ z.cells.length = s then (cParts (fun i => some (i * s, s)) parts.toList).map fun l => .n d (.bs s z.cells n l) else none
      | _, _ => none
    | _ => none
  | .load t a, some d => match agOf P t, szOf P t, cO a with
    | some true, some n, some a => some (.r d (.la a n))
    | some false, some _, some a => some (.r d (.ld a))
    | _, _, _ => none
  | .store t a v, none => match szOf P t, cO a, cO v with | some n, some a, some v => some (.e none (.st a v n)) | _, _, _ => none
  | .nilCheck x, some d => (cO x).map fun x => .p d (.nc x)
  | .binOp op t x y _, some d => match cO x, cO y with | some x, some y => cBin P d op t x y | _, _ => none
  | .unOp op _ x, some d => (cO x).map fun x => .p d (.un op x)
  | .convert s t x, some d => match P.underlying s, P.underlying t, cO x with
    | some (.int _), some (.int k), some x => some (.p d (.ci k x))
    | some .string, some .string, some x => some (.p d (.bo .add x (.c (.s []))))
    | some .string, some (.slice e), some x => match P.underlying e, szOf P e with | some (.int .u8), some 1 => some (.n d (.sb x)) | _, _ => none
    | some (.slice e), some .string, some x => match P.underlying e with | some (.int .u8) => some (.r d (.bs x)) | _ => none
    | some (.slice e), some (.slice e'), some x => match P.underlying e' with | some (.int .u8) => if s == t && e == e' then some (.e (some d) (.mk x)) else none | _ => none
    | _, _, _ => none
  | .makeFunc (.func f) x y, some d => match cOs x.toList, cOs y.toList with | some x, some y => some (.p d (.mf f x y)) | _, _ => none
  | .makeMap t r, some d => match P.underlying t, r with
    | some (.map _ _), none => some (.n d .mm)
    | some (.map _ _), some (.const (.int _ _)) => some (.n d .mm)
    | _, _ => none
  | .makeSlice t l c, some d => match P.underlying t with
    | some (.slice e) => match szOf P e, byOf P e, zOf P e, cO l, cO c with
      | some s, some b, some z, some l, some c => some (.n d (.ms s z.cells b l c))
      | _, _, _, _, _ => none
    | _ => none
  | .slice t x lo hi mx, some d => match P.underlying t, cO x, cOo lo, cOo hi, cOo mx with
    | some (.slice e), some x, some lo, some hi, some mx => (szOf P e).map fun s => .p d (.sl x s lo hi mx)
    | some .string, some x, some lo, some hi, some none => some (.p d (.ss x lo hi))
    | _, _, _, _, _ => none
  | .fieldAddr s x f, some d => match P.underlying s, cO x with
    | some (.struct fields), some x => match fields.toList[f]? with
      | some fd => match szOf P fd.type with
        | some 0 => none
        | some _ => some (.p d (.fa x fd.offset))
        | none => none
      | none => none
    | _, _ => none
  | .field s x f, some d => match P.underlying s, cO x with
    | some (.struct fields), some x => match fields.toList[f]? with
      | some fd => match agOf P fd.type, szOf P fd.type with
        | some a, some n => some (.p d (.fd x a fd.offset n))
        | _, _ => none
      | none => none
    | _, _ => none
  | .indexAddr t x i, some d => match P.underlying t, cO x, cO i with
    | some (.array len e), some x, some i => (szOf P e).map fun s => .p d (.iA x i len s)
    | some (.slice e), some x, some i => (szOf P e).map fun s => .p d (.ia x i s)
    | _, _, _ => none
  | .index t x i, some d => match P.underlying t, cO x, cO i with
    | some (.array len e), some x, some i => match agOf P e, szOf P e with
      | some a, some s => some (.p d (.ig x i a len s))
      | _, _ => none
    | some .string, some x, some i => some (.p d (.ix x i))
    | _, _, _ => none
  | .lookup t x k ok, some d => match P.underlying t, cO x, cO k with
    | some (.map kt e), some x, some k => match eqT P 6 kt, zOf P e with | some t, some z => if keyOk P kt then some (.r d (.lk t z x k ok)) else none | _, _ => none
    | _, _, _ => none
  | .mapUpdate t m k v, none | .insert t m k v, none => match P.underlying t, cO m, cO k, cO v with
    | some (.map kt _), some m, some k, some v => match eqT P 6 kt with | some t => if keyOk P kt then some (.e none (.mu t m k v)) else none | none => none
    | _, _, _, _ => none
  | .range t x, some d => match P.underlying t, cO x with
    | some (.map _ _), some x => some (.e (some d) (.rg x))
    | _, _ => none
  | .next x false, some d => (cO x).map fun x => .e (some d) (.nx x)
  | .entry x, some d => (cO x).map fun x => .r d (.en x)
  | .extract x i, some d => (cO x).map fun x => .p d (.ex x i)
  | .call c, d => match c.callee, c.args.toList, c.argTypes.toList with
    | .builtin .append, [x, y], [t, u] => match P.underlying t, P.underlying u, cO x, cO y with
      | some (.slice e), some u', some x, some y => match u', szOf P e, byOf P e, zOf P e with
        | .int _, some s, some b, some z => if z.cells.length = s then some (.e d (.az s z.cells b x y)) else none
        | .string, some s, some b, some z | .slice _, some s, some b, some z => if z.cells.length = s then some (.e d (.ap s z.cells b x y)) else none
        | _, _, _, _ => none
      | _, _, _, _ => none
    | .builtin .len, [x], [t] => match P.underlying t, cO x, d with
      | some .string, some x, some d => some (.p d (.ls x))
      | some (.slice _), some x, some d => some (.p d (.ln x))
      | some (.array n _), some _, some d => some (.p d (.ci64 n))
      | some (.pointer a), some _, some d => match P.underlying a with | some (.array n _) => some (.p d (.ci64 n)) | _ => none
      | some (.map _ _), some x, some d => some (.r d (.lm x))
      | _, _, _ => none
    | .builtin .cap, [x], [t] => match P.underlying t, cO x, d with
      | some (.slice _), some x, some d => some (.p d (.cp x))
      | _, _, _ => none
    | .builtin .copy, [x, y], [t, _] => match P.underlying t, cO x, cO y with
      | some (.slice e), some x, some y => (szOf P e).map fun s => .e d (.cy s x y)
      | _, _, _ => none
    | .builtin .clear, [x], [t] => match P.underlying t, cO x with
      | some (.slice e), some x => (zOf P e).map fun z => .e d (.cl z.cells x)
      | _, _ => none
    | .builtin .delete, [m, k], [t, _] => match P.underlying t, cO m, cO k with
      | some (.map kt _), some m, some k => match eqT P 6 kt with | some t => if keyOk P kt then some (.e d (.dl t m k)) else none | none => none
      | _, _, _ => none
    | .builtin .max, l, _ => match cOs l, d with | some l, some d => some (.p d (.mx l)) | _, _ => none
    | .builtin .min, l, _ => match cOs l, d with | some l, some d => some (.p d (.mn l)) | _, _ => none
    | .value (.func f), l, _ => match P.funcs[f]? with
      | some fn => if fn.body.isSome && fn.name != "runtime.NumGoroutine" then (cOs l).map fun l => .e d (.ca f l) else none
      | none => none
    | .value x, l, _ => match cO x, cOs l with | some x, some l => some (.e d (.cv x l)) | _, _ => none
    | _, _, _ => none
  | _, _ => none
def cOpG (ops : Array Oper) (o : Oper) : Option Op :=
  match o.guard, cOp P o with
  | none, r => r
  | some (j, w), some r => match (ops[j]?).bind (·.dst) with | some t => some (.g t w r) | none => none
  | some _, none => none
/-- What is not taken never runs. -/
def badOp (o : Oper) : Op := match o.dst with | some d => .p d .no | none => .e none .no
def cOps (ops : Array Oper) : Option (List Op) := ops.toList.mapM (cOpG P ops)
def cRV : ResultVar → Option RV
  | .tmp t => some (.t t)
  | .cell a t => match agOf P t, szOf P t with | some b, some n => some (.c a b n) | _, _ => none
end
end Go.AM
/- The relation between the abstract machine's values, heap and the model's. -/
set_option linter.unusedVariables false
namespace Go.AM
open Go

/-- Where an object lies: block, first cell, cells that are known, cells that are owned. -/
structure BI where
  cb : Nat
  base : Nat
  size : Nat
  ext : Nat
abbrev Mu := Nat → Option BI

def SlR (μ : Mu) (a z o n c : Nat) (ad : Addr) (c' : Nat) : Prop :=
  ∃ bi, μ a = some bi ∧ n ≤ c ∧ 0 < z ∧ o + c * z ≤ bi.size ∧ c ≤ c' ∧
    o + c' * z ≤ bi.ext ∧ (o + c * z < bi.size → c' = c) ∧ (0 < c' → ad = ⟨bi.cb, bi.base + o, none⟩)
mutual
inductive VR (μ : Mu) : AV → Value → Prop
  | i (k : IntKind) (n : Int) : VR μ (.i k n) (.int k n)
  | b (x : Bool) : VR μ (.b x) (.bool x)
  | s (y : ByteArray) : VR μ (.s y.data.toList) (.string y)
  | np : VR μ .np (.pointer none)
  | p {a : Nat} {bi : BI} (h : μ a = some bi) (o : Nat) : VR μ (.p a o) (.pointer (some ⟨bi.cb, bi.base + o, none⟩))
  | ns : VR μ .ns (.slice none 0 0)
  | sl {a z o n c : Nat} {ad : Addr} {c' : Nat} (h : SlR μ a z o n c ad c') : VR μ (.sl a z o n c) (.slice (some ad) n c')
  | nm : VR μ .nm (.map none)
  | m {r : Nat} {bi : BI} (h : μ r = some bi) : VR μ (.m r) (.map (some bi.cb))
  | nf : VR μ .nf .nilFunc
  | fn (f : Nat) {x y : List AV} {x' y' : List Value} (hx : VRL μ x x') (hy : VRL μ y y') : VR μ (.fn f x y) (.func (.func f) x'.toArray y'.toArray)
  | ag {l : List AV} {l' : List Value} (h : VRL μ l l') : VR μ (.ag l) (.agg l'.toArray)
  | tp {l : List AV} {l' : List Value} (h : VRL μ l l') : VR μ (.tp l) (.tuple l'.toArray)
inductive VRL (μ : Mu) : List AV → List Value → Prop
  | nil : VRL μ [] []
  | cons {x : AV} {y : Value} {l : List AV} {l' : List Value} (h : VR μ x y) (r : VRL μ l l') : VRL μ (x :: l) (y :: l')
end
/-- More objects are placed. -/
def Ext (μ μ' : Mu) : Prop := ∀ a bi, μ a = some bi → μ' a = some bi
theorem Ext.refl (μ : Mu) : Ext μ μ := fun _ _ h => h
theorem Ext.trans {μ μ' μ'' : Mu} (h : Ext μ μ') (h' : Ext μ' μ'') : Ext μ μ'' := fun a bi e => h' a bi (h a bi e)
theorem SlR.mono {μ μ' : Mu} (h : Ext μ μ') {a z o n c : Nat} {ad : Addr} {c' : Nat} (hs : SlR μ a z o n c ad c') : SlR μ' a z o n c ad c' := by
  obtain ⟨bi, hb, r⟩ := hs
  exact ⟨bi, h _ _ hb, r⟩
mutual
theorem VR.mono {μ μ' : Mu} (h : Ext μ μ') : ∀ {v : AV} {cv : Value}, VR μ v cv → VR μ' v cv
  | _, _, .i k n => .i k n
  | _, _, .b x => .b x
  | _, _, .s y => .s y
  | _, _, .np => .np
  | _, _, .p hb o => .p (h _ _ hb) o
  | _, _, .ns => .ns
  | _, _, .sl hs => .sl (hs.mono h)
  | _, _, .nm => .nm
  | _, _, .m hb => .m (h _ _ hb)
  | _, _, .nf => .nf
  | _, _, .fn f hx hy => .fn f (hx.mono h) (hy.mono h)
  | _, _, .ag hl => .ag (hl.mono h)
  | _, _, .tp hl => .tp (hl.mono h)
theorem VRL.mono {μ μ' : Mu} (h : Ext μ μ') : ∀ {l : List AV} {l' : List Value}, VRL μ l l' → VRL μ' l l'
  | _, _, .nil => .nil
  | _, _, .cons hx hl => .cons (hx.mono h) (hl.mono h)
end
namespace VRL
variable {μ : Mu}
theorem length : ∀ {l : List AV} {l' : List Value}, VRL μ l l' → l'.length = l.length
  | _, _, .nil => rfl
  | _, _, .cons _ h => by simp [length h]
theorem append : ∀ {l : List AV} {l' : List Value} {r : List AV} {r' : List Value}, VRL μ l l' → VRL μ r r' → VRL μ (l ++ r) (l' ++ r')
  | _, _, _, _, .nil, h => h
  | _, _, _, _, .cons hx hl, h => .cons hx (hl.append h)
theorem get : ∀ {l : List AV} {l' : List Value}, VRL μ l l' → ∀ (k : Nat) (v : AV), l[k]? = some v → ∃ cv, l'[k]? = some cv ∧ VR μ v cv
  | _, _, .nil, k, v, h => by simp at h
  | _, _, .cons hx hl, 0, v, h => by simp at h; subst h; exact ⟨_, rfl, hx⟩
  | _, _, .cons hx hl, k + 1, v, h => by
    simp only [List.getElem?_cons_succ] at h ⊢
    exact get hl k v h
theorem take : ∀ {l : List AV} {l' : List Value} (n : Nat), VRL μ l l' → VRL μ (l.take n) (l'.take n)
  | _, _, 0, _ => by simp only [List.take_zero]; exact .nil
  | _, _, n + 1, .nil => by simp only [List.take_nil]; exact .nil
  | _, _, n + 1, .cons hx hl => by simp only [List.take_succ_cons]; exact .cons hx (take n hl)
theorem drop : ∀ {l : List AV} {l' : List Value} (n : Nat), VRL μ l l' → VRL μ (l.drop n) (l'.drop n)
  | _, _, 0, h => by simpa using h
  | _, _, n + 1, .nil => by simp only [List.drop_nil]; exact .nil
  | _, _, n + 1, .cons hx hl => by simp only [List.drop_succ_cons]; exact drop n hl
theorem of_get {l : List AV} {l' : List Value} (hn : l'.length = l.length) (h : ∀ (k : Nat) (v : AV) (cv : Value), l[k]? = some v → l'[k]? = some cv → VR μ v cv) : VRL μ l l' := by
  induction l generalizing l' with
  | nil =>
    cases l' with
    | nil => exact .nil
    | cons y l' => simp at hn
  | cons x l ih =>
    cases l' with
    | nil => simp at hn
    | cons y l' =>
      refine .cons (h 0 x y rfl rfl) (ih (by simpa using hn) fun k v cv a b => h (k + 1) v cv ?_ ?_)
      · simpa using a
      · simpa using b
end VRL
theorem VR.cells {μ : Mu} {v : AV} {cv : Value} (h : VR μ v cv) : VRL μ v.cells cv.cells.toList := by
  cases h with
  | ag h => simpa [AV.cells, Value.cells] using h
  | i k n => exact .cons (.i k n) .nil
  | b x => exact .cons (.b x) .nil
  | s y => exact .cons (.s y) .nil
  | np => exact .cons .np .nil
  | p h o => exact .cons (.p h o) .nil
  | ns => exact .cons .ns .nil
  | sl h => exact .cons (.sl h) .nil
  | nm => exact .cons .nm .nil
  | m h => exact .cons (.m h) .nil
  | nf => exact .cons .nf .nil
  | fn f hx hy => exact .cons (.fn f hx hy) .nil
  | tp h => exact .cons (.tp h) .nil
/-- One cell's value. -/
def oneV : Value → Bool
  | .agg _ | .tuple _ => false
  | _ => true
theorem VR.one {μ : Mu} {v : AV} {cv : Value} (h : VR μ v cv) (h1 : v.one = true) : oneV cv = true := by
  cases h <;> first | rfl | simp [AV.one] at h1
/-- Entries of a map. -/
inductive ERL (μ : Mu) : List (AV × AV) → List MapEntry → Prop
  | nil : ERL μ [] []
  | cons {k v : AV} {e : MapEntry} {l : List (AV × AV)} {l' : List MapEntry} (hk : VR μ k e.key) (hv : VR μ v e.val) (r : ERL μ l l') : ERL μ ((k, v) :: l) (e :: l')
theorem ERL.mono {μ μ' : Mu} (h : Ext μ μ') : ∀ {l : List (AV × AV)} {l' : List MapEntry}, ERL μ l l' → ERL μ' l l'
  | _, _, .nil => .nil
  | _, _, .cons hk hv r => .cons (hk.mono h) (hv.mono h) (r.mono h)
theorem ERL.length {μ : Mu} : ∀ {l : List (AV × AV)} {l' : List MapEntry}, ERL μ l l' → l'.length = l.length
  | _, _, .nil => rfl
  | _, _, .cons _ _ r => by simp [r.length]

def AO.wr : AO → Bool
  | .c .w _ => true
  | .c _ _ => false
  | _ => true
def AO.own : AO → Bool
  | .c .r _ => false
  | _ => true
theorem AO.own_of {o : AO} (h : o.wr = true) : o.own = true := by
  match o, h with
  | .c .w _, _ => rfl
  | .mp _ _, _ => rfl
  | .it _ _ _ _, _ => rfl
def AO.isC : AO → Bool
  | .c _ _ => true
  | _ => false
/-- Borns: each below the clock, none twice. -/
def Borns (es : List MapEntry) (clk : Nat) : Prop := (∀ e ∈ es, e.born < clk) ∧ es.Pairwise (fun a b => a.born ≠ b.born)
/-- An object lies in the world where it is placed. -/
def OR (μ : Mu) (h : Nat → Option AO) (bi : BI) (w : World) : AO → Prop
  | .c wr l => ∃ C el lo hi, w.heap[bi.cb]? = some (.cells C el (lo, hi)) ∧ l.length = bi.size ∧ bi.size ≤ bi.ext ∧ bi.base + bi.ext ≤ C.size ∧
      (wr = .w → lo = hi ∨ C.size ≤ lo) ∧ VRL μ l ((C.toList.drop bi.base).take bi.size) ∧ l.all AV.one = true
  | .mp _ l => ∃ E clk, w.heap[bi.cb]? = some (.map E clk) ∧ ERL μ l E.toList ∧ Borns E.toList clk
  | .it none _ _ _ => bi.base = 0 ∧ ∃ a b c, w.heap[bi.cb]? = some (.mapIter none a b c)
  | .it (some m) n left cur => bi.base = 0 ∧ ∃ mb since seen last, w.heap[bi.cb]? = some (.mapIter (some mb.cb) since seen last) ∧ μ m = some mb ∧
      (∀ n' l, h m = some (.mp n' l) → n ≤ n') ∧
      (∀ l, h m = some (.mp n l) → ∀ E clk, w.heap[mb.cb]? = some (.map E clk) →
        since = clk ∧ last = clk ∧ ERL μ left (E.toList.filter fun e => !seen.contains e.born) ∧
        (∀ k v, cur = some (k, v) → ∃ b e, seen.back? = some b ∧ E.toList.find? (·.born == b) = some e ∧ VR μ k e.key ∧ VR μ v e.val))
/-- Two objects lie apart. -/
def Apart (b1 b2 : BI) (o1 o2 : AO) : Prop := b1.cb ≠ b2.cb ∨ (o1.isC = true ∧ o2.isC = true ∧ (b1.base + b1.ext ≤ b2.base ∨ b2.base + b2.ext ≤ b1.base))
structure Rel (Pr : Nat → Prop) (w0 : World) (μ : Mu) (h : Nat → Option AO) (nx : Nat) (w : World) : Prop where
  obj : ∀ a o, h a = some o → ∃ bi, μ a = some bi ∧ OR μ h bi w o
  sep : ∀ a1 a2 o1 o2 b1 b2, a1 ≠ a2 → h a1 = some o1 → h a2 = some o2 → μ a1 = some b1 → μ a2 = some b2 → (o1.wr || o2.wr) = true → Apart b1 b2 o1 o2
  new : ∀ a, nx ≤ a → μ a = none
  prot : ∀ B, Pr B → w.heap[B]? = w0.heap[B]? ∧ B < w.heap.size
  away : ∀ a o bi, h a = some o → μ a = some bi → o.own = true → ¬ Pr bi.cb
  os : w.os = w0.os
  tape : w.tape = w0.tape
  out : w.output = w0.output
end Go.AM
