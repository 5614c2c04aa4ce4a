/- The operations that only compute or read, all together. -/
import Derived.Test.YtojonobehnbeiaaGreatDoorSxB
namespace Go.Sx
open Go Go.RowKit
def AV.strip : AV → AV
  | .gd _ x => x
  | x => x
def Cond.under (t : Bool) : Cond → Cond
  | .b x => .b (!t || x)
  | .p x => .p (t = true → x)
theorem under_holds {t : Bool} {c : Cond} (h : (c.under t).holds) (ht : t = true) : c.holds := by
  subst ht
  cases c with
  | b x => simpa [Cond.under, Cond.holds] using h
  | p x => exact h rfl
def AV.gprop : AV → List Cond
  | .gd g _ => [.b g]
  | _ => []
theorem Rel.strip {w : World} {S : Nat → Prop} {ρ : Nat → Own} {x : AV} {v : Value} (h : Rel w S ρ x v) (hg : ∀ p ∈ x.gprop, p.holds) : Rel w S ρ x.strip v := by
  cases x with
  | gd g y =>
    cases h with
    | gd v hh _ => exact hh (hg _ (List.mem_singleton.2 rfl))
  | _ => exact h
def allN (f : Nat → Bool) : Nat → Bool
  | 0 => true
  | n + 1 => allN f n && f n
theorem allN_true {f : Nat → Bool} {n : Nat} (h : allN f n = true) : ∀ i, i < n → f i = true := by
  induction n with
  | zero => intro i hi; omega
  | succ n ih =>
    simp only [allN, Bool.and_eq_true] at h
    intro i hi
    by_cases e : i = n
    · subst e; exact h.2
    · exact ih h.1 i (by omega)
def oneAV : AV → Bool
  | .v x => x.oneCell'
  | .str _ | .xl _ _ _ _ | .xq _ _ _ | .fn _ _ _ _ _ | .np _ _ | .ns _ _ _ | .ap _ _ _ | .yl _ | .nb _ _ => true
  | _ => false
def cellsAV : AV → Option (Nat × (Nat → AV))
  | .agg n cs => if allN (fun i => oneAV (cs i)) n then some (n, cs) else none
  | x => if oneAV x then some (1, fun _ => x) else none
def zcell (z : Value) (j : Nat) : AV := constAV (z.cells.getD j undef)
def litEq : Value → Value → Bool
  | .bool a, .bool b => a == b
  | .int k a, .int k' b => k == k' && a == b
  | _, _ => false
theorem litEq_eq {a b : Value} (h : litEq a b = true) : a = b ∧ a.oneCell' = true := by
  unfold litEq at h
  split at h
  · exact ⟨by rw [eq_of_beq h], rfl⟩
  · rw [Bool.and_eq_true] at h
    exact ⟨by rw [eq_of_beq h.1, eq_of_beq h.2], rfl⟩
  · cases h
def litAV : Value → AV
  | .bool true => .v (.bool true)
  | .bool false => .v (.bool false)
  | x => constAV x
theorem litAV_eq (x : Value) : litAV x = constAV x := by
  unfold litAV
  split <;> rfl
def zcellU (z : Value) : Nat → AV := bif Nat.blt 64 z.cells.size && z.cells.toList.all (litEq (z.cells.getD 0 undef)) then fun _ => litAV (z.cells.getD 0 undef) else zcell z
theorem zcellU_eq {z : Value} {j : Nat} (hj : j < z.cells.size) : zcellU z j = zcell z j := by
  unfold zcellU
  cases h : Nat.blt 64 z.cells.size && z.cells.toList.all (litEq (z.cells.getD 0 undef)) with
  | false => rfl
  | true =>
    have h5 := (Bool.and_eq_true _ _ ▸ h : _ ∧ _).2
    have hm : z.cells.getD j undef ∈ z.cells.toList := by
      rw [Array.getD_eq_getD_getElem?, Array.getElem?_eq_getElem hj, Option.getD_some]
      simp
    have := litEq_eq (List.all_eq_true.1 h5 _ hm)
    simp only [cond_true, zcell, litAV_eq]
    rw [this.1]
def intBin (op : BinOp) (k : IntKind) (a b : Int) : Option (List Cond × AV) :=
  match op with
  | .add => some ([.d (inK k (a + b))], .v (.int k (a + b)))
  | .sub => some ([.d (inK k (a - b))], .v (.int k (a - b)))
  | .mul => some ([.d (inK k (a * b))], .v (.int k (a * b)))
  | .quo => some ([.d (b ≠ 0), .d (inK k (a.tdiv b))], .v (.int k (a.tdiv b)))
  | .rem => some ([.d (b ≠ 0)], .v (.int k (a.tmod b)))
  | .lss => some ([], .v (.bool (ltB a b)))
  | .leq => some ([], .v (.bool (leB a b)))
  | .gtr => some ([], .v (.bool (ltB b a)))
  | .geq => some ([], .v (.bool (leB b a)))
  | .eql => some ([], .v (.bool (a == b)))
  | .neq => some ([], .v (.bool (a != b)))
  | _ => none
def strBin (op : BinOp) (a b : List UInt8) : Option (List Cond × AV) :=
  match op with
  | .add => some ([.d (a.length + b.length ≤ 9223372036854775807)], .str (a ++ b))
  | .eql => some ([], .v (.bool (a == b)))
  | .neq => some ([], .v (.bool (!(a == b))))
  | .lss => some ([], .v (.bool (Op.bytesLess a b)))
  | .leq => some ([], .v (.bool (Op.bytesLess a b || a == b)))
  | .gtr => some ([], .v (.bool (!(Op.bytesLess a b || a == b))))
  | .geq => some ([], .v (.bool (!Op.bytesLess a b)))
  | _ => none
def eqFs (P : Program) (xs ys : Nat → AV) : List Field → Option Bool
  | [] => some true
  | f :: fs =>
    if f.name = "_" then none else
    match P.underlying f.type, xs f.offset, ys f.offset, eqFs P xs ys fs with
    | some (.int _), .v (.int k a), .v (.int k' b), some r => if k = k' then some ((a == b) && r) else none
    | some .bool, .v (.bool a), .v (.bool b), some r => some ((a == b) && r)
    | some .string, .str a, .str b, some r => some ((a == b) && r)
    | _, _, _, _ => none
def binAV (P : Program) (op : BinOp) (t : TypeId) (x y : AV) : Option (List Cond × AV) :=
  match x, y with
  | .v (.int k a), .v (.int k' b) => if k = k' then intBin op k a b else none
  | .str a, .str b => strBin op a b
  | .v (.bool a), .v (.bool b) =>
    match P.underlying t with
    | some .bool =>
      match op with
      | .eql => some ([], .v (.bool (a == b)))
      | .neq => some ([], .v (.bool (!(a == b))))
      | _ => none
    | _ => none
  | .agg n xs, .agg m ys =>
    match P.underlying t with
    | some (.struct fs) =>
      if n = P.cellsOf t ∧ m = P.cellsOf t ∧ fs.all (fun f => f.offset < P.cellsOf t) then
        match op, eqFs P xs ys fs.toList with
        | .eql, some r => some ([.d (P.stoodInHeld t = false), .d (P.eqGuardType P.depth t = false)], .v (.bool r))
        | .neq, some r => some ([.d (P.stoodInHeld t = false), .d (P.eqGuardType P.depth t = false)], .v (.bool (!r)))
        | _, _ => none
      else none
    | _ => none
  | _, _ => none
def sliceZ (bl : Nat → OB) : AV → Option Bool
  | .xl _ sz len _ => if 0 < sz then some (Nat.beq len 0) else none
  | .ns k _ len =>
    match bl k with
    | .arr _ _ _ _ => some (Nat.beq len 0)
    | _ => none
  | _ => none
def isPtr : AV → Bool
  | .np _ _ | .ap _ _ _ | .xq _ _ _ => true
  | _ => false
def bits2 (op : BinOp) (k : IntKind) (a b : Int) : Option Int :=
  match op with
  | .and => some (k.wrap (BitVec.ofInt k.bits a &&& BitVec.ofInt k.bits b).toNat)
  | .or => some (k.wrap (BitVec.ofInt k.bits a ||| BitVec.ofInt k.bits b).toNat)
  | .xor => some (k.wrap (BitVec.ofInt k.bits a ^^^ BitVec.ofInt k.bits b).toNat)
  | _ => none
def bin2AV (P : Program) (bl : Nat → OB) (op : BinOp) (t : TypeId) (x y : AV) : Option (List Cond × AV) :=
  match y with
  | .v (.int k' b) =>
    match x with
    | .v (.int k a) =>
      match op with
      | .shr => some ([.d (0 ≤ b)], .v (.int k (a.fdiv (2 ^ (min b.toNat k.bits)))))
      | .shl => some ([.d (0 ≤ b)], .v (.int k (k.wrap (a * 2 ^ (min b.toNat k.bits)))))
      | op => if k = k' then (bits2 op k a b).map fun n => ([], .v (.int k n)) else none
    | _ => none
  | .v (.slice none 0 0) =>
    match P.underlying t, op with
    | some (.slice _), .eql => (sliceZ bl x).map fun z => ([], .nb true z)
    | some (.slice _), .neq => (sliceZ bl x).map fun z => ([], .nb false z)
    | _, _ => none
  | .v (.pointer none) =>
    match P.underlying t, op, x with
    | some (.pointer _), .eql, .v (.pointer none) => some ([], .v (.bool true))
    | some (.pointer _), .neq, .v (.pointer none) => some ([], .v (.bool false))
    | some (.pointer _), .eql, x => if isPtr x then some ([], .v (.bool false)) else none
    | some (.pointer _), .neq, x => if isPtr x then some ([], .v (.bool true)) else none
    | _, _, _ => none
  | .np k' o' =>
    match P.underlying t, x, bl k' with
    | some (.pointer e), .np k o, .box _ _ _ =>
      if k = k' ∧ o = o' ∧ (P.info? e).isSome then
        match op with
        | .eql => some ([], .v (.bool true))
        | .neq => some ([], .v (.bool false))
        | _ => none
      else none
    | _, _, _ => none
  | _ => none
def binX (P : Program) (bl : Nat → OB) (op : BinOp) (t : TypeId) (x y : AV) : Option (List Cond × AV) :=
  match bin2AV P bl op t x y with
  | some r => some r
  | none => binAV P op t x y
def fillAV (place : Nat → Option (Nat × Nat)) (n : Nat) : (Nat → AV) → List (Nat × AV) → Option (Nat → AV)
  | cs, [] => some cs
  | cs, (i, x) :: rest =>
    match place i, cellsAV x with
    | some (off, size), some (m, ys) => if m = size ∧ off + m ≤ n then fillAV place n (fun j => bif Nat.ble off j && Nat.blt j (off + m) then ys (j - off) else cs j) rest else none
    | _, _ => none
def placesOf (P : Program) (t : TypeId) : Option (Nat → Option (Nat × Nat)) :=
  match P.underlying t with
  | some (.array _ e) => (P.info? e).map fun ie i => some (i * ie.size, ie.size)
  | some (.struct fields) => (fields.toList.mapM (fun f => (P.info? f.type).map fun i => (f.offset, i.size))).map fun places i => places.toArray[i]?
  | _ => none
def listFn (l : List AV) : Nat → AV := fun i => (l[i]?).getD .junk
def flatF (n : Nat) (cs : Nat → AV) : Nat → AV := bif Nat.ble n 64 then listFn ((List.range n).map cs) else cs
theorem flatF_eq {n : Nat} {cs : Nat → AV} {i : Nat} (h : i < n) : flatF n cs i = cs i := by
  unfold flatF listFn
  cases Nat.ble n 64 <;> simp [h]
def buildAV (P : Program) (t : TypeId) (parts : List (Nat × AV)) : Option AV :=
  match P.info? t, placesOf P t with
  | some it, some place =>
    match it.zero with
    | some z => (fillAV place z.cells.size (zcellU z) parts).map fun cs => .agg z.cells.size (flatF z.cells.size cs)
    | none => none
  | _, _ => none
def pickAV (c a b : AV) : Option (List Cond × AV) :=
  match c.strip, a.strip, b.strip with
  | .v (.bool t), .v (.bool x), .v (.bool y) =>
    some (c.gprop ++ (a.gprop.map fun p => p.under t) ++ (b.gprop.map fun p => p.under (!t)), .v (.bool (cond t x y)))
  | _, _, _ => none
def fieldOff (P : Program) (t : TypeId) (f : Nat) : Option Nat :=
  match P.underlying t with
  | some (.struct fs) =>
    match fs[f]? with
    | some fd =>
      match P.info? fd.type with
      | some i => if i.size = 0 then none else some fd.offset
      | none => none
    | none => none
  | _ => none
def isBox : OB → Bool
  | .box .. => true
  | _ => false
def isArr : OB → Bool
  | .arr .. => true
  | .rows .. => true
  | .app .. => true
  | _ => false
def AV.shift (bl : Nat → OB) (d : Nat) : AV → Option AV
  | .np k off => if isBox (bl k) then some (.np k (off + d)) else none
  | .ap k i j => if isArr (bl k) then some (.ap k i (j + d)) else none
  | .xq n cells off => some (.xq n cells (off + d))
  | _ => none
def fieldAV (P : Program) (t : TypeId) (f : Nat) (x : AV) : Option AV :=
  match P.underlying t, x with
  | some (.struct fs), .agg n cs =>
    match fs[f]? with
    | some fd =>
      match shapeOf P fd.type with
      | some none => if fd.offset < n then some (cs fd.offset) else none
      | some (some m) => if fd.offset + m ≤ n then some (.agg m fun i => cs (fd.offset + i)) else none
      | none => none
    | none => none
  | _, _ => none
def indexAddrAV (P : Program) (bl : Nat → OB) (t : TypeId) (x ix : AV) : Option (List Cond × AV) :=
  match ix with
  | .v (.int _ n) =>
    match P.underlying t with
    | some (.slice e) =>
      match P.info? e, x with
      | some i, .xl _ sz len els => if i.size = sz ∧ 0 < sz then some ([.d (0 ≤ n ∧ n < len)], .xq sz (els n.toNat) 0) else none
      | some i, .ns k off len =>
        match bl k with
        | .arr _ sz _ _ => if i.size = sz then some ([.d (0 ≤ n ∧ n < len)], .ap k (off + n.toNat) 0) else none
        | .rows _ sz _ _ _ _ _ _ => if i.size = sz then some ([.d (0 ≤ n ∧ n < len)], .ap k (off + n.toNat) 0) else none
        | _ => none
      | _, _ => none
    | some (.array N e) =>
      match P.info? e, x with
      | some i, .ap k a 0 =>
        match bl k with
        | .arr _ sz L _ => if i.size = sz ∧ a + N ≤ L then some ([.d (0 ≤ n ∧ n < N)], .ap k (a + n.toNat) 0) else none
        | _ => none
      | _, _ => none
    | _ => none
  | _ => none
def indexAV (P : Program) (t : TypeId) (x ix : AV) : Option (List Cond × AV) :=
  match P.underlying t, x, ix with
  | some .string, .str l, .v (.int _ n) => some ([.d (0 ≤ n ∧ n < l.length)], .v (.int .u8 (l.getD n.toNat 0).toNat))
  | _, _, _ => none
def nilAV (bl : Nat → OB) : AV → Option AV
  | .np k off => if isBox (bl k) then some (.np k off) else none
  | .ap k i j => if isArr (bl k) then some (.ap k i j) else none
  | .xq n c off => some (.xq n c off)
  | .fn (.func f) nf a nc b => some (.fn (.func f) nf a nc b)
  | _ => none
def optInt : Option AV → Option (Option Int)
  | none => some none
  | some (.v (.int _ n)) => some (some n)
  | _ => none
def sliceAV (P : Program) (bl : Nat → OB) (t : TypeId) (x : AV) (lo hi mx : Option AV) : Option (List Cond × AV) :=
  match P.underlying t, x, optInt lo, optInt hi, optInt mx with
  | some .string, .str l, some none, some (some h), some none => some ([.d (0 ≤ h ∧ h ≤ l.length)], .str (l.take h.toNat))
  | some .string, .str l, some (some a), some none, some none => some ([.d (0 ≤ a ∧ a ≤ l.length)], .str (l.drop a.toNat))
  | some .string, .str l, some (some a), some (some h), some none => some ([.d (0 ≤ a ∧ a ≤ h ∧ h ≤ l.length)], .str ((l.drop a.toNat).take (h.toNat - a.toNat)))
  | some (.slice e), .xl _ sz len els, some none, some (some h), some none =>
    if P.cellsOf e = sz ∧ (P.info? e).isSome then some ([.d (0 ≤ h ∧ h ≤ len)], .xl false sz h.toNat els) else none
  | some (.slice e), .xl full sz len els, some (some a), some none, some none =>
    if P.cellsOf e = sz ∧ (P.info? e).isSome then some ([.d (0 ≤ a ∧ a ≤ len)], .xl full sz (len - a.toNat) fun i j => els (a.toNat + i) j) else none
  | some (.slice e), .xl _ sz len els, some (some a), some (some h), some none =>
    if P.cellsOf e = sz ∧ (P.info? e).isSome then some ([.d (0 ≤ a ∧ a ≤ h ∧ h ≤ len)], .xl false sz (h.toNat - a.toNat) fun i j => els (a.toNat + i) j) else none
  | some (.slice e), .xl _ sz len els, some none, some (some h), some (some m) =>
    if P.cellsOf e = sz ∧ (P.info? e).isSome then some ([.d (0 ≤ h ∧ h ≤ len), .d (m = h)], .xl true sz h.toNat els) else none
  | some (.slice e), .ns k off len, some none, some (some h), some none =>
    match bl k with
    | .arr _ sz _ _ => if P.cellsOf e = sz ∧ (P.info? e).isSome then some ([.d (0 ≤ h ∧ h ≤ len)], .ns k off h.toNat) else none
    | _ => none
  | some (.slice e), .ns k off len, some (some a), some none, some none =>
    match bl k with
    | .arr _ sz _ _ => if P.cellsOf e = sz ∧ (P.info? e).isSome then some ([.d (0 ≤ a ∧ a ≤ len)], .ns k (off + a.toNat) (len - a.toNat)) else none
    | _ => none
  | some (.slice e), .ns k off len, some (some a), some (some h), some none =>
    match bl k with
    | .arr _ sz _ _ => if P.cellsOf e = sz ∧ (P.info? e).isSome then some ([.d (0 ≤ a ∧ a ≤ h ∧ h ≤ len)], .ns k (off + a.toNat) (h.toNat - a.toNat)) else none
    | _ => none
  | _, _, _, _, _ => none
def lenAV (P : Program) (bl : Nat → OB) (t : TypeId) (x : AV) : Option AV :=
  match P.underlying t, x with
  | some .string, .str l => some (.v (.int .i64 l.length))
  | some (.slice _), .xl _ _ len _ => some (.v (.int .i64 len))
  | some (.slice _), .ns k _ len => if isArr (bl k) then some (.v (.int .i64 len)) else none
  | some (.slice _), .v (.slice _ n _) => some (.v (.int .i64 n))
  | _, _ => none
def max2AV : AV → AV → Option AV
  | .v (.int k x), .v (.int _ y) => some (.v (.int k (if y > x then y else x)))
  | _, _ => none
def min2AV : AV → AV → Option AV
  | .v (.int k x), .v (.int _ y) => some (.v (.int k (if y < x then y else x)))
  | _, _ => none
def biAV (P : Program) (bl : Nat → OB) (b : Builtin) (ts : List TypeId) (xs : List AV) : Option AV :=
  match b, ts, xs with
  | .len, [t], [x] => lenAV P bl t x
  | .max, _, [x, y] => max2AV x y
  | .min, _, [x, y] => min2AV x y
  | .max, _, [x, y, z] => (max2AV x y).bind fun m => max2AV m z
  | .min, _, [x, y, z] => (min2AV x y).bind fun m => min2AV m z
  | .max, _, [x, y, z, u, v] => (max2AV x y).bind fun m => (max2AV m z).bind fun m => (max2AV m u).bind fun m => max2AV m v
  | _, _, _ => none
def unAV (op : UnOp) (x : AV) : Option (List Cond × AV) :=
  match op, x with
  | .not, .v (.bool t) => some ([], .v (.bool (!t)))
  | .not, .nb p z => some ([], .nb (!p) z)
  | .neg, .v (.int k n) => some ([.d (inK k (-n))], .v (.int k (-n)))
  | _, _ => none
def convAV (P : Program) (s d : TypeId) (x : AV) : Option (List Cond × AV) :=
  match P.underlying s, P.underlying d, x with
  | some _, some (.int k), .v (.int _ n) => some ([.d (inK k n)], .v (.int k n))
  | some _, some .string, .str l => some ([], .str l)
  | _, _, _ => none
def ops1 (o : Op) : List Operand :=
  match o with
  | .pick .. => []
  | o => o.operands.toList
def detRaw (P : Program) (bl : Nat → OB) (ev sv : Operand → AV) (o : Op) : Option (List Cond × AV) :=
  match o with
  | .move x | .assign x => some ([], sv x)
  | .pick c a b => pickAV (ev c) (ev a) (ev b)
  | .load t a =>
    match shapeOf P t with
    | some sh =>
      match loadAV bl sh (sv a) with
      | some r => some ([], r)
      | none => loadRows bl sh (sv a)
    | none => none
  | .nilCheck x => (nilAV bl (sv x)).map fun r => ([], r)
  | .binOp op t x y _ => binX P bl op t (sv x) (sv y)
  | .build t parts => (buildAV P t (parts.toList.map fun p => (p.1, sv p.2))).map fun r => ([], r)
  | .unOp op _ x => unAV op (sv x)
  | .convert s d x => convAV P s d (sv x)
  | .makeFunc f first cap => some ([], .fn f first.size (listFn (first.toList.map sv)) cap.size (listFn (cap.toList.map sv)))
  | .slice t x lo hi mx => sliceAV P bl t (sv x) (lo.map sv) (hi.map sv) (mx.map sv)
  | .fieldAddr t x f =>
    match fieldOff P t f with
    | some d => ((sv x).shift bl d).map fun r => ([], r)
    | none => none
  | .field t x f => (fieldAV P t f (sv x)).map fun r => ([], r)
  | .indexAddr t x i => indexAddrAV P bl t (sv x) (sv i)
  | .index t x i => indexAV P t (sv x) (sv i)
  | .extract x i =>
    match sv x with
    | .tup n vs => if i < n then some ([], vs i) else none
    | _ => none
  | .call { callee := .builtin b, args, argTypes } => (biAV P bl b argTypes.toList (args.toList.map sv)).map fun r => ([], r)
  | _ => none
def detOp (P : Program) (bl : Nat → OB) (ev : Operand → AV) (o : Op) : Option (List Cond × AV) :=
  match detRaw P bl ev (fun x => (ev x).strip) o with
  | some (ps, r) => some (((ops1 o).flatMap fun x => (ev x).gprop) ++ ps, r)
  | none => none
end Go.Sx
