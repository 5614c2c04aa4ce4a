/- Values worked out, for runs without unknowns: each of these functions hands on what it was given, with its parts written out. -/
import Derived.Test.YtgpbohfbhfbelaaGreatDoorSxA
set_option linter.unusedSimpArgs false
set_option linter.unusedVariables false
namespace Go.Sx
open Go Go.RowKit
def XF (n : Nat) (k : Nat → Prop) : Prop :=
 match n with
 | 0 => k 0
 | m + 1 => k (m + 1)
theorem YK (n : Nat) (k : Nat → Prop) : XF n k = k n := by cases n <;> rfl
def fV (z : Int) (k : Int → Prop) : Prop :=
 match z with
 | .ofNat n => XF n fun n => k (.ofNat n)
 | .negSucc n => XF n fun n => k (.negSucc n)
theorem pn (z : Int) (k : Int → Prop) : fV z k = k z := by cases z <;> simp only [fV, YK]
def IK (b : Bool) (k : Bool → Prop) : Prop :=
 match b with
 | true => k true
 | false => k false
theorem Se (b : Bool) (k : Bool → Prop) : IK b k = k b := by cases b <;> rfl
def Fe (x : UInt8) (k : UInt8 → Prop) : Prop := XF x.toNat fun n => k (UInt8.ofNat n)
theorem iM (x : UInt8) (k : UInt8 → Prop) : Fe x k = k x := by unfold Fe; rw [YK, UInt8.ofNat_toNat]
def fj : List UInt8 → (List UInt8 → Prop) → Prop
 | [], k => k []
 | x :: l, k => Fe x fun x => fj l fun l => k (x :: l)
theorem lG : ∀ (l : List UInt8) (k : List UInt8 → Prop), fj l k = k l
 | [], _ => rfl
 | x :: l, k => by unfold fj; rw [iM]; exact lG l _
def Ft (x : Value) (k : Value → Prop) : Prop :=
 match x with
 | .int t z => fV z fun z => k (.int t z)
 | .bool b => IK b fun b => k (.bool b)
 | y => k y
theorem HH (x : Value) (k : Value → Prop) : Ft x k = k x := by cases x <;> simp only [Ft, pn, Se]
def Uz {α : Type} : List α → Nat → α → α
 | [], _, d => d
 | x :: _, 0, _ => x
 | _ :: l, i + 1, d => Uz l i d
theorem un {α : Type} (f : Nat → α) : ∀ (n s i : Nat), Uz ((List.range' s n).map f) i (f (s + i)) = f (s + i)
 | 0, _, _ => rfl
 | n + 1, s, 0 => rfl
 | n + 1, s, i + 1 => by
  rw [List.range'_succ, List.map_cons]
  unfold Uz
  rw [show s + (i + 1) = (s + 1) + i by omega]
  exact un f n (s + 1) i
def GL {α : Type} (g : Nat → (α → Prop) → Prop) (n : Nat) : List α → (List α → Prop) → Prop :=
 Nat.rec (motive := fun _ => List α → (List α → Prop) → Prop) (fun acc k => k acc) (fun i ih acc k => g i fun x => ih (x :: acc) k) n
theorem Rt {α : Type} {g : Nat → (α → Prop) → Prop} {f : Nat → α} (h : ∀ i k, g i k = k (f i)) : ∀ (n : Nat) (acc : List α) (k : List α → Prop), GL g n acc k = k ((List.range n).map f ++ acc)
 | 0, _, _ => rfl
 | n + 1, acc, k => by
  show g n (fun x => GL g n (x :: acc) k) = _
  rw [h, Rt h n, List.range_succ, List.map_append, List.append_assoc]
  rfl
def ND {α : Type} (g : Nat → (α → Prop) → Prop) (f : Nat → α) (n : Nat) (k : (Nat → α) → Prop) : Prop :=
 GL g n [] fun l => k fun i => Uz l i (f i)
theorem Xd {α : Type} {g : Nat → (α → Prop) → Prop} {f : Nat → α} (h : ∀ i k, g i k = k (f i)) (n : Nat) (k : (Nat → α) → Prop) : ND g f n k = k f := by
 unfold ND
 rw [Rt h, List.append_nil]
 congr 1
 funext i
 have := un f n 0 i
 rw [Nat.zero_add, ← List.range_eq_range'] at this
 exact this
def fK {α : Type} (g : Nat → (α → Prop) → Prop) (f : Nat → α) (n : Nat) (k : (Nat → α) → Prop) : Prop :=
 GL (fun j k => GL (fun r => g (16 * j + r)) 16 [] k) (n / 16 + 1) [] fun l => k fun i => Uz (Uz l (i / 16) []) (i % 16) (f i)
theorem LB {α : Type} {g : Nat → (α → Prop) → Prop} {f : Nat → α} (h : ∀ i k, g i k = k (f i)) (n : Nat) (k : (Nat → α) → Prop) : fK g f n k = k f := by
 unfold fK
 rw [Rt (f := fun j => (List.range 16).map fun r => f (16 * j + r)) fun j k => by rw [Rt (f := fun r => f (16 * j + r)) fun r k => h _ k, List.append_nil], List.append_nil]
 congr 1
 funext i
 have key : ∀ m s q, Uz ((List.range' s m).map fun j => (List.range 16).map fun r => f (16 * j + r)) q [] = (List.range 16).map (fun r => f (16 * (s + q) + r)) ∨ Uz ((List.range' s m).map fun j => (List.range 16).map fun r => f (16 * j + r)) q [] = [] := by
  intro m
  induction m with
  | zero => intro s q; exact .inr rfl
  | succ m ih =>
   intro s q
   rw [List.range'_succ, List.map_cons]
   cases q with
   | zero => exact .inl rfl
   | succ q =>
    have := ih (s + 1) q
    rw [show s + 1 + q = s + (q + 1) by omega] at this
    exact this
 have := key (n / 16 + 1) 0 (i / 16)
 rw [← List.range_eq_range', Nat.zero_add] at this
 rcases this with e | e
 ·rw [e]
  have h1 := un (fun r => f (16 * (i / 16) + r)) 16 0 (i % 16)
  rw [Nat.zero_add, ← List.range_eq_range', Nat.div_add_mod] at h1
  exact h1
 ·rw [e]; rfl
def XD : AV → (AV → Prop) → Prop
 | .v x, k => Ft x fun x => k (.v x)
 | .str l, k => fj l fun l => k (.str l)
 | .xl full sz len els, k => IK full fun full => XF sz fun sz => XF len fun len => ND (fun i k => ND (fun j k => XD (els i j) k) (els i) sz k) els len fun els => k (.xl full sz len els)
 | .xq n cells off, k => XF n fun n => XF off fun off => ND (fun i k => XD (cells i) k) cells n fun cells => k (.xq n cells off)
 | .np a b, k => XF a fun a => XF b fun b => k (.np a b)
 | .ns a b c, k => XF a fun a => XF b fun b => XF c fun c => k (.ns a b c)
 | .ap a b c, k => XF a fun a => XF b fun b => XF c fun c => k (.ap a b c)
 | .agg n cs, k => XF n fun n => ND (fun i k => XD (cs i) k) cs n fun cs => k (.agg n cs)
 | .tup n cs, k => XF n fun n => ND (fun i k => XD (cs i) k) cs n fun cs => k (.tup n cs)
 | .fn f nf first nc cap, k => XF nf fun nf => XF nc fun nc => ND (fun i k => XD (first i) k) first nf fun first => ND (fun i k => XD (cap i) k) cap nc fun cap => k (.fn f nf first nc cap)
 | .gd g x, k => IK g fun g => XD x fun x => k (.gd g x)
 | .yl a, k => XF a fun a => k (.yl a)
 | .nb p z, k => IK p fun p => IK z fun z => k (.nb p z)
 | .er z, k => IK z fun z => k (.er z)
 | .ps a b, k => XF a fun a => XF b fun b => k (.ps a b)
 | .mp a, k => XF a fun a => k (.mp a)
 | .junk, k => k .junk
theorem Ul : ∀ (x : AV) (k : AV → Prop), XD x k = k x := by
 intro x
 induction x with
 | v x => intro k; simp only [XD, HH]
 | str l => intro k; simp only [XD, lG]
 | xl full sz len els ih =>
  intro k
  simp only [XD, Se, YK]
  rw [Xd fun i k => Xd (fun j k => ih i j k) _ _]
 | xq n cells off ih => intro k; simp only [XD, YK]; rw [Xd fun i k => ih i k]
 | agg n cs ih => intro k; simp only [XD, YK]; rw [Xd fun i k => ih i k]
 | tup n cs ih => intro k; simp only [XD, YK]; rw [Xd fun i k => ih i k]
 | fn f nf first nc cap ih1 ih2 => intro k; simp only [XD, YK]; rw [Xd fun i k => ih1 i k, Xd fun i k => ih2 i k]
 | gd g x ih => intro k; simp only [XD, Se, ih]
 | _ => intro k; simp only [XD, YK, Se]
def Jt : List (Int × Int) → (List (Int × Int) → Prop) → Prop
 | [], k => k []
 | p :: l, k => fV p.1 fun a => fV p.2 fun b => Jt l fun l => k ((a, b) :: l)
theorem oA : ∀ (l : List (Int × Int)) (k : List (Int × Int) → Prop), Jt l k = k l
 | [], _ => rfl
 | p :: l, k => by unfold Jt; rw [pn, pn]; exact oA l _
def Ou : List (Int × Int × AV) → Int → Int → AV → AV
 | [], _, _, d => d
 | p :: l, a, b, d => bif (decide (p.1 = a) && decide (p.2.1 = b)) then p.2.2 else Ou l a b d
def fh (f : Int → Int → AV) : List (Int × Int) → (List (Int × Int × AV) → Prop) → Prop
 | [], k => k []
 | p :: l, k => XD (f p.1 p.2) fun x => fh f l fun m => k ((p.1, p.2, x) :: m)
theorem L2 (f : Int → Int → AV) : ∀ (l : List (Int × Int)) (k : List (Int × Int × AV) → Prop), fh f l k = k (l.map fun p => (p.1, p.2, f p.1 p.2))
 | [], _ => rfl
 | p :: l, k => by unfold fh; rw [Ul]; exact L2 f l _
theorem QP (f : Int → Int → AV) (a b : Int) : ∀ l : List (Int × Int), Ou (l.map fun p => (p.1, p.2, f p.1 p.2)) a b (f a b) = f a b
 | [] => rfl
 | p :: l => by
  rw [List.map_cons]
  unfold Ou
  cases h : (decide (p.1 = a) && decide (p.2 = b)) with
  | true =>
   simp only [Bool.and_eq_true, decide_eq_true_eq] at h
   simp only [h.1, h.2, decide_true, Bool.and_self, cond_true]
  | false => simp only [h, cond_false]; exact QP f a b l
def lY : OB → (OB → Prop) → Prop
 | .dead, k => k .dead
 | .box t n cs, k => XF n fun n => ND (fun i k => XD (cs i) k) cs n fun cs => k (.box t n cs)
 | .arr t sz len els, k => XF sz fun sz => XF len fun len => ND (fun i k => ND (fun j k => XD (els i j) k) (els i) sz k) els len fun els => k (.arr t sz len els)
 | .lrec st p, k => k (.lrec st p)
 | .mp ks f, k => Jt ks fun ks => fh f ks fun m => k (.mp ks fun a b => Ou m a b (f a b))
theorem Kn (x : OB) (k : OB → Prop) : lY x k = k x := by
 cases x with
 | dead => rfl
 | box t n cs => simp only [lY, YK]; rw [Xd (f := cs) fun i k => Ul (cs i) k]
 | arr t sz len els => simp only [lY, YK]; rw [Xd (f := els) fun i k => Xd (f := els i) (fun j k => Ul (els i j) k) _ _]
 | lrec st p => rfl
 | mp ks f =>
  simp only [lY, oA, L2]
  congr 1
  congr 1
  funext a b
  exact QP f a b ks
def fw (x : AV) (k : AV → Prop) : Prop :=
 match x with
 | .v x => k (.v x)
 | .str l => k (.str l)
 | .xl a b c d => k (.xl a b c d)
 | .xq a b c => k (.xq a b c)
 | .np a b => k (.np a b)
 | .ns a b c => k (.ns a b c)
 | .ap a b c => k (.ap a b c)
 | .agg a b => k (.agg a b)
 | .tup a b => k (.tup a b)
 | .fn a b c d e => k (.fn a b c d e)
 | .gd a b => k (.gd a b)
 | .yl a => k (.yl a)
 | .nb a b => k (.nb a b)
 | .er a => k (.er a)
 | .ps a b => k (.ps a b)
 | .mp a => k (.mp a)
 | .junk => k .junk
theorem JR (x : AV) (k : AV → Prop) : fw x k = k x := by cases x <;> rfl
def Gv (x : OB) (k : OB → Prop) : Prop :=
 match x with
 | .dead => k .dead
 | .box a b c => k (.box a b c)
 | .arr a b c d => k (.arr a b c d)
 | .lrec a b => k (.lrec a b)
 | .mp a b => k (.mp a b)
theorem Jv (x : OB) (k : OB → Prop) : Gv x k = k x := by cases x <;> rfl
def refs : AV → List Nat
 | .np a _ | .ns a _ _ | .ap a _ _ | .ps a _ | .mp a => [a]
 | .gd _ x => refs x
 | _ => []
def makes (o : Oper) : Bool :=
 match o.op with
 | .call _ | .alloc _ | .box .. | .makeSlice .. | .buildSlice .. | .makeMap .. => true
 | _ => false
def wrote (σ : zo) (o : Oper) : List Nat :=
 (match makes o, o.dst with | true, some d => refs (σ.tm d) | _, _ => []) ++
 match o.op with
 | .store _ a _ => refs (σ.ev a)
 | .mapUpdate _ m _ _ => refs (σ.ev m)
 | .entryStore _ m _ _ => refs (σ.ev m)
 | .call { callee := .builtin .clear, args, .. } => args.toList.flatMap fun x => refs (σ.ev x)
 | _ => []
def Ek (l : List Nat) (i : Nat) : Bool := l.any fun j => Nat.beq i j
def writes (o : Oper) : Bool :=
 match o.op with
 | .store .. | .mapUpdate .. | .entryStore .. | .call _ | .alloc _ | .box .. | .makeSlice .. | .buildSlice .. | .makeMap .. => true
 | _ => false
def LP : List Nat → (List Nat → Prop) → Prop
 | [], k => k []
 | x :: l, k => XF x fun x => LP l fun l => k (x :: l)
theorem OU : ∀ (l : List Nat) (k : List Nat → Prop), LP l k = k l
 | [], _ => rfl
 | x :: l, k => by unfold LP; rw [YK]; exact OU l _
theorem lS {α : Type} (f : Nat → α) (d : Nat) : upd f d (f d) = f := by
 funext t
 by_cases h : t = d
 ·subst h; exact upd_same _ _ _
 ·exact zM _ _ h
def fE (ds : List Nat) (tm : Nat → AV) (k : (Nat → AV) → Prop) : Prop :=
 match ds with
 | [] => k tm
 | d :: ds => XD (tm d) fun x => fE ds (upd tm d x) k
theorem Lr (k : (Nat → AV) → Prop) : ∀ (ds : List Nat) (tm : Nat → AV), fE ds tm k = k tm
 | [], _ => rfl
 | d :: ds, tm => by unfold fE; rw [Ul, Lr k ds, lS]
def fJ (ks : List Nat) (bl : Nat → OB) (k : (Nat → OB) → Prop) : Prop :=
 match ks with
 | [] => k bl
 | d :: ks => lY (bl d) fun x => fJ ks (upd bl d x) k
theorem mP (k : (Nat → OB) → Prop) : ∀ (ks : List Nat) (bl : Nat → OB), fJ ks bl k = k bl
 | [], _ => rfl
 | d :: ks, bl => by unfold fJ; rw [Kn, mP k ks, lS]
def addN (x : Nat) (l : List Nat) : List Nat := bif Ek l x then l else x :: l
def gO : List Nat → List Nat
 | [] => []
 | x :: l => addN x (gO l)
def H4 (c : Bool) (ops : List Oper) (k : zo → Prop) (σ : zo) : Prop :=
 match c with
 | false => k σ
 | true => XF σ.n fun n => XF σ.nb fun nb => LP (ops.filterMap (·.dst)) fun ds => fE ds σ.tm fun tm =>
   match ops.any writes with
   | false => k { n := n, tm := tm, nb := nb, bl := σ.bl }
   | true => LP (gO (ops.flatMap (wrote { n := n, tm := tm, nb := nb, bl := σ.bl }))) fun ws => fJ ws σ.bl fun bl => k { n := n, tm := tm, nb := nb, bl := bl }
theorem VZ (c : Bool) (ops : List Oper) (k : zo → Prop) : H4 c ops k = k := by
 funext σ
 unfold H4
 cases c with
 | false => rfl
 | true =>
  simp only [YK, OU, Lr, mP]
  split <;> rfl
def fg (k : zo → Prop) (σ : zo) : Prop :=
 XF σ.n fun n => XF σ.nb fun nb => fK (fun i k => fw (σ.tm i) k) σ.tm n fun tm => fK (fun i k => Gv (σ.bl i) k) σ.bl nb fun bl => k { n := n, tm := tm, nb := nb, bl := bl }
theorem Pk (k : zo → Prop) (σ : zo) : fg k σ = k σ := by
 unfold fg
 simp only [YK]
 rw [LB (f := σ.tm) fun i k => JR _ _, LB (f := σ.bl) fun i k => Jv _ _]
def oe (c : Bool) (k : zo → Prop) : zo → Prop :=
 match c with
 | false => fun σ => k { σ with tm := zt ((List.range σ.n).map σ.tm) }
 | true => fg k
theorem oZ {c : Bool} {k k' : zo → Prop} (h : ∀ σ, k σ → k' σ) {σ : zo} (hv : oe c k σ) : oe c k' σ := by
 cases c with
 | false => exact h _ hv
 | true =>
  show fg k' σ
  rw [Pk]
  exact h _ ((Pk k σ).mp hv)
end Go.Sx
