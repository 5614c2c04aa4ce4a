/- Symbolic values, their relation to the model's values, and the memory of one activation. -/
import Derived.WalkKit
import Derived.OrdersIn
import Derived.ChangeKeysEq
import Derived.Laws.StructEq
import Derived.Lib.Strings
set_option linter.unusedSimpArgs false
set_option linter.unusedVariables false
namespace Go.Sx
open Go Go.RowKit
inductive AV where
 | v (x : Value)
 | str (l : List UInt8)
 | xl (full : Bool) (sz len : Nat) (els : Nat → Nat → AV)
 | xq (n : Nat) (cells : Nat → AV) (off : Nat)
 | np (k off : Nat)
 | ns (k off len : Nat)
 | ap (k i j : Nat)
 | agg (n : Nat) (cs : Nat → AV)
 | tup (n : Nat) (vs : Nat → AV)
 | fn (f : Fn) (nf : Nat) (first : Nat → AV) (nc : Nat) (cap : Nat → AV)
 | gd (g : Bool) (x : AV)
 | yl (k : Nat)
 | nb (p z : Bool)
 | er (z : Bool)
 | ps (k len : Nat)
 | mp (k : Nat)
 | junk
abbrev AV.i (n : Int) : AV := .v (.int .i64 n)
abbrev AV.b (t : Bool) : AV := .v (.bool t)
inductive Own where
 | none | dead
 | box (g : Nat)
 | arr (g base cap sz len : Nat)
 | nila (sz : Nat)
 | lrec (g : Nat) (r : Loop)
 | mp (g : Nat)
def Own.has : Own → Nat → Prop
 | .box g, b => g = b
 | .arr g _ _ _ _, b => g = b
 | .lrec g _, b => g = b
 | .mp g, b => g = b
 | _, _ => False
def yi : Nat → Own := fun _ => .none
theorem yS (a : Addr) (n : Nat) : (a.add n).block = a.block := by unfold Addr.add; split <;> rfl
theorem wN (a : Addr) (i j : Nat) : (a.add i).add j = a.add (i + j) := by
 unfold Addr.add
 grind
theorem add_lit (g o n : Nat) : (⟨g, o, none⟩ : Addr).add n = ⟨g, o + n, none⟩ := by
 unfold Addr.add; split <;> simp_all
def uS : AV → Value → Prop
 | .np _ _, x => ∃ a, x = .pointer (some a)
 | .ap _ _ _, x => ∃ a, x = .pointer (some a)
 | .ns _ _ len, x => ∃ o c, x = .slice o len c
 | .yl _, x => ∃ g, x = .func (.yield g) #[] #[]
 | .mp _, x => ∃ g, x = .map (some g)
 | .ps _ len, x => ∃ o c, x = .slice o len c
 | _, _ => True
inductive zF (w : World) (S : Nat → Prop) : (Nat → Own) → AV → Value → Prop where
 | v {ρ} (x) : zF w S ρ (.v x) x
 | str {ρ} (l : List UInt8) : zF w S ρ (.str l) (.string ⟨l.toArray⟩)
 | xl {ρ} {full sz len els} (o : Option Addr) (cap : Nat) (cvs : Nat → Nat → Value) (hle : len ≤ cap) (hm : cap ≤ maxLen)
   (hf : full = true → cap = len)
   (hc : ∀ i j, i < len → j < sz → ∃ A, o = some A ∧ S A.block ∧ w.cell? (A.add (i * sz + j)) = some (cvs i j) ∧ (cvs i j).oneCell' = true)
   (hr : ∀ i j, i < len → j < sz → zF w S yi (els i j) (cvs i j)) : zF w S ρ (.xl full sz len els) (.slice o len cap)
 | xq {ρ} {n cells off} (A : Addr) (cvs : Nat → Value)
   (hc : ∀ i, i < n → S A.block ∧ w.cell? (A.add i) = some (cvs i) ∧ (cvs i).oneCell' = true)
   (hr : ∀ i, i < n → zF w S yi (cells i) (cvs i)) : zF w S ρ (.xq n cells off) (.pointer (some (A.add off)))
 | np {ρ} {k off} (g : Nat) (h : ρ k = .box g) : zF w S ρ (.np k off) (.pointer (some ⟨g, off, none⟩))
 | ns {ρ} {k off len} (g base cap sz L : Nat) (h : ρ k = .arr g base cap sz L) (hl : off + len ≤ L) (hc : L ≤ cap) :
   zF w S ρ (.ns k off len) (.slice (some ⟨g, (base + off) * sz, none⟩) len (cap - off))
 | ns0 {ρ} {k off} (g base cap sz L : Nat) (A : Addr) (h : ρ k = .arr g base cap sz L) (hl : off ≤ L) (hc : L ≤ cap) (h0 : cap = off) :
   zF w S ρ (.ns k off 0) (.slice (some A) 0 0)
 | nsn {ρ} {k} (sz : Nat) (o : Option Addr) (h : ρ k = .nila sz) : zF w S ρ (.ns k 0 0) (.slice o 0 0)
 | ap {ρ} {k i j} (g base cap sz L : Nat) (h : ρ k = .arr g base cap sz L) (hi : i < L) (hc : L ≤ cap) :
   zF w S ρ (.ap k i j) (.pointer (some ⟨g, (base + i) * sz + j, none⟩))
 | yl {ρ} {k} (g : Nat) (r : Loop) (h : ρ k = .lrec g r) : zF w S ρ (.yl k) (.func (.yield g) #[] #[])
 | dyl {ρ} {k x} (h : ρ k = .dead) (hx : uS (.yl k) x) : zF w S ρ (.yl k) x
 | dnp {ρ} {k off x} (h : ρ k = .dead) (hx : uS (.np k off) x) : zF w S ρ (.np k off) x
 | dns {ρ} {k off len x} (h : ρ k = .dead) (hx : uS (.ns k off len) x) : zF w S ρ (.ns k off len) x
 | dap {ρ} {k i j x} (h : ρ k = .dead) (hx : uS (.ap k i j) x) : zF w S ρ (.ap k i j) x
 | agg {ρ} {n cs} (vs : Array Value) (hn : vs.size = n) (hr : ∀ i, i < n → zF w S ρ (cs i) (vs.getD i undef)) : zF w S ρ (.agg n cs) (.agg vs)
 | tup {ρ} {n cs} (vs : Array Value) (hn : vs.size = n) (hr : ∀ i, i < n → zF w S ρ (cs i) (vs.getD i undef)) : zF w S ρ (.tup n cs) (.tuple vs)
 | fn {ρ} {f nf first nc cap} (vs us : Array Value) (hn : vs.size = nf) (hm : us.size = nc) (hr : ∀ i, i < nf → zF w S ρ (first i) (vs.getD i undef))
   (hs : ∀ i, i < nc → zF w S ρ (cap i) (us.getD i undef)) : zF w S ρ (.fn f nf first nc cap) (.func f vs us)
 | gd {ρ} {g x} (v : Value) (h : g = true → zF w S ρ x v) (h' : g = false → v = undef) : zF w S ρ (.gd g x) v
 | nb {ρ} {p z} (t : Bool) (h : t = p → z = true) : zF w S ρ (.nb p z) (.bool t)
 | er {ρ} {z} (x : Value) (h1 : z = true → x = .nilIface) (h2 : z = false → ∃ t v, x = .iface t v) : zF w S ρ (.er z) x
 | ps {ρ} {k len} (g cap : Nat) (h : ρ k = .box g) (hc : len ≤ cap) : zF w S ρ (.ps k len) (.slice (some ⟨g, 0, none⟩) len cap)
 | dps {ρ} {k len x} (h : ρ k = .dead) (hx : uS (.ps k len) x) : zF w S ρ (.ps k len) x
 | mp {ρ} {k} (g : Nat) (h : ρ k = .mp g) : zF w S ρ (.mp k) (.map (some g))
 | dmp {ρ} {k x} (h : ρ k = .dead) (hx : uS (.mp k) x) : zF w S ρ (.mp k) x
 | junk {ρ} (x) : zF w S ρ .junk x
def zf (ρ ρ' : Nat → Own) : Prop := ∀ k, ρ k = ρ' k ∨ ρ' k = .dead ∨ ρ k = .none
theorem zf.refl (ρ : Nat → Own) : zf ρ ρ := fun _ => .inl (rfl)
theorem zf.of {ρ ρ' : Nat → Own} (h : ∀ k, ρ k = ρ' k ∨ ρ' k = .dead ∨ ρ k = .none) : zf ρ ρ' := h
theorem zf.zero (ρ : Nat → Own) : zf yi ρ := fun _ => .inr (.inr rfl)
theorem W9 {w w' : World} {a : Addr} (h : w'.heap[a.block]? = w.heap[a.block]?) : w'.cell? a = w.cell? a := World.cell?_of_block h
theorem zF.mono {w w' : World} {S S' : Nat → Prop} {ρ ρ' : Nat → Own} {av : AV} {v : Value} (h : zF w S ρ av v)
  (hS : ∀ b, S b → S' b ∧ w'.heap[b]? = w.heap[b]?) (hρ : zf ρ ρ') : zF w' S' ρ' av v := by
 induction h generalizing ρ' with
 | v x => exact .v x
 | str l => exact .str l
 | xl o cap cvs hle hm hf hc hr ih =>
  refine .xl o cap cvs hle hm hf (fun i j hi hj => ?_) (fun i j hi hj => ih i j hi hj (zf.refl _))
  obtain ⟨A, e, hs, hcell, ho⟩ := hc i j hi hj
  exact ⟨A, e, (hS _ hs).1, (W9 (w := w) (w' := w') (by rw [yS]; exact (hS _ hs).2)).trans hcell, ho⟩
 | xq A cvs hc hr ih =>
  refine .xq A cvs (fun i hi => ?_) (fun i hi => ih i hi (zf.refl _))
  obtain ⟨hs, hcell, ho⟩ := hc i hi
  exact ⟨(hS _ hs).1, (W9 (w := w) (w' := w') (by rw [yS]; exact (hS _ hs).2)).trans hcell, ho⟩
 | @np ρ k off g h =>
  rcases hρ k with e | e | e
  ·rw [h] at e; exact .np g e.symm
  ·exact .dnp e ⟨_, rfl⟩
  ·rw [h] at e; cases e
 | @ns ρ k off len g base cap sz L h hl hc =>
  rcases hρ k with e | e | e
  ·rw [h] at e; exact .ns g base cap sz L e.symm hl hc
  ·exact .dns e ⟨_, _, rfl⟩
  ·rw [h] at e; cases e
 | @ns0 ρ k off g base cap sz L A h hl hc h0 =>
  rcases hρ k with e | e | e
  ·rw [h] at e; exact .ns0 g base cap sz L A e.symm hl hc h0
  ·exact .dns e ⟨_, _, rfl⟩
  ·rw [h] at e; cases e
 | @nsn ρ k sz o h =>
  rcases hρ k with e | e | e
  ·rw [h] at e; exact .nsn sz o e.symm
  ·exact .dns e ⟨_, _, rfl⟩
  ·rw [h] at e; cases e
 | @ap ρ k i j g base cap sz L h hi hc =>
  rcases hρ k with e | e | e
  ·rw [h] at e; exact .ap g base cap sz L e.symm hi hc
  ·exact .dap e ⟨_, rfl⟩
  ·rw [h] at e; cases e
 | @yl ρ k g r h =>
  rcases hρ k with e | e | e
  ·rw [h] at e; exact .yl g r e.symm
  ·exact .dyl e ⟨_, rfl⟩
  ·rw [h] at e; cases e
 | @dyl ρ k x h hx =>
  rcases hρ k with e | e | e
  ·rw [h] at e; exact .dyl e.symm hx
  ·exact .dyl e hx
  ·rw [h] at e; cases e
 | @dnp ρ k off x h hx =>
  rcases hρ k with e | e | e
  ·rw [h] at e; exact .dnp e.symm hx
  ·exact .dnp e hx
  ·rw [h] at e; cases e
 | @dns ρ k off len x h hx =>
  rcases hρ k with e | e | e
  ·rw [h] at e; exact .dns e.symm hx
  ·exact .dns e hx
  ·rw [h] at e; cases e
 | @dap ρ k i j x h hx =>
  rcases hρ k with e | e | e
  ·rw [h] at e; exact .dap e.symm hx
  ·exact .dap e hx
  ·rw [h] at e; cases e
 | agg vs hn hr ih => exact .agg vs hn fun i hi => ih i hi hρ
 | tup vs hn hr ih => exact .tup vs hn fun i hi => ih i hi hρ
 | fn vs us hn hm hr hs ih1 ih2 => exact .fn vs us hn hm (fun i hi => ih1 i hi hρ) (fun i hi => ih2 i hi hρ)
 | gd v h h' ih => exact .gd v (fun hg => ih hg hρ) h'
 | nb t h => exact .nb t h
 | er x h1 h2 => exact .er x h1 h2
 | @ps ρ k len g cap h hc =>
  rcases hρ k with e | e | e
  ·rw [h] at e; exact .ps g cap e.symm hc
  ·exact .dps e ⟨_, _, rfl⟩
  ·rw [h] at e; cases e
 | @dps ρ k len x h hx =>
  rcases hρ k with e | e | e
  ·rw [h] at e; exact .dps e.symm hx
  ·exact .dps e hx
  ·rw [h] at e; cases e
 | @mp ρ k g h =>
  rcases hρ k with e | e | e
  ·rw [h] at e; exact .mp g e.symm
  ·exact .dmp e ⟨_, rfl⟩
  ·rw [h] at e; cases e
 | @dmp ρ k x h hx =>
  rcases hρ k with e | e | e
  ·rw [h] at e; exact .dmp e.symm hx
  ·exact .dmp e hx
  ·rw [h] at e; cases e
 | junk x => exact .junk x
def AV.Closed : AV → Prop
 | .np _ _ | .ns _ _ _ | .ap _ _ _ | .yl _ | .ps _ _ | .mp _ | .junk => False
 | .agg n cs => ∀ i, i < n → (cs i).Closed
 | .tup n cs => ∀ i, i < n → (cs i).Closed
 | .fn _ nf f nc c => (∀ i, i < nf → (f i).Closed) ∧ (∀ i, i < nc → (c i).Closed)
 | .gd g x => g = true ∧ x.Closed
 | _ => True
theorem zF.closed {w : World} {S : Nat → Prop} {ρ ρ' : Nat → Own} {av : AV} {v : Value} (h : zF w S ρ av v) (hc : av.Closed) : zF w S ρ' av v := by
 induction h generalizing ρ' with
 | v x => exact .v x
 | str l => exact .str l
 | xl o cap cvs hle hm hf hcc hr ih => exact .xl o cap cvs hle hm hf hcc hr
 | xq A cvs hcc hr ih => exact .xq A cvs hcc hr
 | agg vs hn hr ih => exact .agg vs hn fun i hi => ih i hi (hc i hi)
 | tup vs hn hr ih => exact .tup vs hn fun i hi => ih i hi (hc i hi)
 | fn vs us hn hm hr hs ih1 ih2 => exact .fn vs us hn hm (fun i hi => ih1 i hi (hc.1 i hi)) (fun i hi => ih2 i hi (hc.2 i hi))
 | gd v h h' ih => exact .gd v (fun hg => ih hg hc.2) h'
 | nb t h => exact .nb t h
 | er x h1 h2 => exact .er x h1 h2
 | _ => exact hc.elim
def Ys (a b : Int) : Value := .agg #[.int .i64 a, .int .i64 b]
def Yp (a b : Int) : Value → Bool
 | .agg ⟨[.int .i64 x, .int .i64 y]⟩ => a == x && b == y
 | _ => false
def xL (a b : Int) : List MapEntry → Value
 | [] => .slice none 0 0
 | e :: es => if Yp a b e.key then e.val else xL a b es
structure Xr (es : Array MapEntry) (ks : List (Int × Int)) : Prop where
 key : es.toList.map (·.key) = ks.map fun p => Ys p.1 p.2
 born : es.toList.map (·.born) = List.range es.size
 one : ks.Nodup
inductive OB where
 | dead
 | box (t : TypeId) (n : Nat) (cells : Nat → AV)
 | arr (t : TypeId) (sz len : Nat) (els : Nat → Nat → AV)
 | lrec (st : LoopState) (pend : Option Code)
 | mp (ks : List (Int × Int)) (f : Int → Int → AV)
def TF (w : World) (S : Nat → Prop) (ρ : Nat → Own) : OB → Own → Prop
 | .dead, .dead => True
 | .box t n cells, .box g => ∃ c, w.heap[g]? = some (.cells c t (0, 0)) ∧ c.size = n ∧ ∀ i, i < n → zF w S ρ (cells i) (c.getD i undef) ∧ (c.getD i undef).oneCell' = true
 | .arr t sz len els, .arr g base cap sz' len' => sz' = sz ∧ len' = len ∧ len ≤ cap ∧ cap ≤ maxLen ∧
   ∃ c, w.heap[g]? = some (.cells c t (0, 0)) ∧ (base + cap) * sz = c.size ∧
    ∀ i j, i < len → j < sz → zF w S yi (els i j) (c.getD ((base + i) * sz + j) undef) ∧ (c.getD ((base + i) * sz + j) undef).oneCell' = true
 | .arr _ sz len _, .nila sz' => sz' = sz ∧ len = 0
 | .lrec st pend, .lrec g r => w.heap[g]? = some (.loop { r with state := st, pending := pend })
 | .mp ks f, .mp g => ∃ es, w.heap[g]? = some (.map es es.size) ∧ Xr es ks ∧ ∀ a b, zF w S ρ (f a b) (xL a b es.toList)
 | _, _ => False
theorem TF.mono {w w' : World} {S S' : Nat → Prop} {ρ ρ' : Nat → Own} {B : OB} {o : Own} (h : TF w S ρ B o)
  (hS : ∀ b, S b → S' b ∧ w'.heap[b]? = w.heap[b]?) (hρ : zf ρ ρ') (hb : ∀ g, o.has g → w'.heap[g]? = w.heap[g]?) : TF w' S' ρ' B o := by
 cases B with
 | dead => cases o <;> first | exact h | trivial
 | box t n cells =>
  cases o with
  | box g =>
   obtain ⟨c, h1, h2, h3⟩ := h
   exact ⟨c, (hb g rfl).trans h1, h2, fun i hi => ⟨(h3 i hi).1.mono hS hρ, (h3 i hi).2⟩⟩
  | _ => exact h.elim
 | arr t sz len els =>
  cases o with
  | arr g base cap sz' len' =>
   obtain ⟨e1, e2, h1, h2, c, h3, h4, h5⟩ := h
   exact ⟨e1, e2, h1, h2, c, (hb g rfl).trans h3, h4, fun i j hi hj => ⟨(h5 i j hi hj).1.mono hS (zf.refl _), (h5 i j hi hj).2⟩⟩
  | nila sz' => exact h
  | _ => exact h.elim
 | mp ks f =>
  cases o with
  | mp g =>
   obtain ⟨es, h1, h2, h3⟩ := h
   exact ⟨es, (hb g rfl).trans h1, h2, fun a b => (h3 a b).mono hS hρ⟩
  | _ => exact h.elim
 | lrec st pend =>
  cases o with
  | lrec g r => exact (hb g rfl).trans h
  | _ => exact h.elim
abbrev dn (w : World) : Nat := w.drawn
theorem se (w : World) (n : Nat) : dn w ≤ dn { w with drawn := w.drawn + n } := by simp [dn]
theorem Jm {w w' : World} (h : w.drawn ≤ w'.drawn) : dn w ≤ dn w' := by first | exact h | exact Nat.le_refl _
theorem fT {w w' : World} (h : w'.drawn = w.drawn) : dn w' = dn w := by simp [dn, h]
structure Fr (X : Nat → Prop) (w0 w : World) : Prop where
 os : w.os = w0.os
 tape : w.tape = w0.tape
 output : w.output = w0.output
 size : w0.heap.size ≤ w.heap.size
 block : ∀ k, k < w0.heap.size → ¬ X k → w.heap[k]? = w0.heap[k]?
 drawn : dn w0 ≤ dn w
theorem Fr.refl (X : Nat → Prop) (w : World) : Fr X w w := ⟨rfl, rfl, rfl, Nat.le_refl _, fun _ _ _ => rfl, Nat.le_refl _⟩
theorem Fr.trans {X : Nat → Prop} {a b c : World} (h : Fr X a b) (h2 : ∀ k, k < a.heap.size → ¬ X k → c.heap[k]? = b.heap[k]?)
  (e1 : c.os = b.os) (e2 : c.tape = b.tape) (e3 : c.output = b.output) (e4 : b.heap.size ≤ c.heap.size) (e5 : dn b ≤ dn c) : Fr X a c :=
 ⟨e1.trans h.os, e2.trans h.tape, e3.trans h.output, Nat.le_trans h.size e4, fun k hk hx => (h2 k hk hx).trans (h.block k hk hx), Nat.le_trans h.drawn e5⟩
structure IC (w w' : World) : Prop extends Below w.heap.size w w' where
 drawn : dn w ≤ dn w'
inductive ZH {α : Type} (x : α) : Prop
theorem ZH.elim {α : Type} {x : α} {C : Prop} (h : ZH x) : C := by cases h
inductive zn where
 | b (x : Bool)
 | p (x : Prop)
def zn.holds : zn → Prop
 | .b x => x = true
 | .p x => x
structure Cx where
 objs : List (Nat × Obj)
 nb0 : Nat
 own : FuncId → Option (Nat → (Nat → OB) → List AV → (Nat → (Nat → OB) → AV → Prop) → Prop)
 pu : FuncId → List AV → Option (List zn × AV) := fun _ _ => none
 fre : FuncId → List AV → Option (List zn × TypeId × Nat × Nat × (Nat → Nat → AV)) := fun _ _ => none
 conc : Bool := false
 frm : FuncId → Bool := fun _ => false
 yld : Nat → Option (Nat → (Nat → OB) → List AV → (Nat → (Nat → OB) → AV → Prop) → Prop) := fun _ => none
 enc : Option Nat := none
/-- The fixed surroundings of one activation: the world at its start, the old blocks that it may write, what it may read of old memory,
 what holds of blocks that never change (package-level tables). -/
structure Env where
 w0 : World
 X : Nat → Prop
 S0 : Nat → Prop
 G : Cx
 r0 : Nat → Own
structure Mem (E : Env) (nb : Nat) (bl : Nat → OB) (S : Nat → Prop) (ρ : Nat → Own) (w : World) : Prop where
 fr : Fr E.X E.w0 w
 sb : ∀ b, S b → b < w.heap.size
 sup : ∀ b, E.S0 b → S b
 sub : ∀ b, S b → E.S0 b ∨ E.X b ∨ E.w0.heap.size ≤ b
 glob : ∀ b o, (b, o) ∈ E.G.objs → S b ∧ w.heap[b]? = some o
 hi : ∀ k, nb ≤ k → ρ k = .none
 ok : ∀ k, k < nb → TF w S ρ (bl k) (ρ k)
 own : ∀ k g, (ρ k).has g → ¬ S g ∧ (E.w0.heap.size ≤ g ∨ E.X g)
 dis : ∀ k k' g, (ρ k).has g → (ρ k').has g → k = k'
 b0 : ∀ k g base cap sz L, ρ k = .arr g base cap sz L → base = 0
 nbz : E.G.nb0 ≤ nb
 ole : ∀ k, k < E.G.nb0 → E.r0 k = ρ k ∨ ρ k = .dead
def upd {α : Type} (f : Nat → α) (d : Nat) (x : α) : Nat → α := fun t => bif Nat.beq t d then x else f t
theorem upd_same {α : Type} (f : Nat → α) (d : Nat) (x : α) : upd f d x d = x := by simp [upd]
theorem zM {α : Type} (f : Nat → α) {d t : Nat} (x : α) (h : t ≠ d) : upd f d x t = f t := by
 have : Nat.beq t d = false := by
  cases hb : Nat.beq t d with
  | false => rfl
  | true => simp_all
 simp [upd, this]
structure zo where
 n : Nat
 tm : Nat → AV
 nb : Nat
 bl : Nat → OB
def Yq (w : World) (S : Nat → Prop) (ρ : Nat → Own) (n : Nat) (tm : Nat → AV) (a : Act) : Prop :=
 a.tmps.size = n ∧ ∀ t, t < n → zF w S ρ (tm t) (a.tmps.getD t undef)
def wi (B : Nat) (w : World) (S : Nat → Prop) (ds : List Deferred) : Prop :=
 ds.Pairwise (fun d d' => d ≠ d') ∧ ∀ d ∈ ds, ∃ D, d = { target := .collected D, args := #[] } ∧ S D ∧ B ≤ D ∧ w.heap[D]? = some (.deferred (some []))
def St (E : Env) (σ : zo) (a : Act) (w : World) : Prop :=
 ∃ S ρ, Mem E σ.nb σ.bl S ρ w ∧ Yq w S ρ σ.n σ.tm a ∧ wi E.w0.heap.size w S a.defers
theorem Yq.mono {w w' : World} {S S' : Nat → Prop} {ρ ρ' : Nat → Own} {n : Nat} {tm : Nat → AV} {a : Act} (h : Yq w S ρ n tm a)
  (hS : ∀ b, S b → S' b ∧ w'.heap[b]? = w.heap[b]?) (hρ : zf ρ ρ') : Yq w' S' ρ' n tm a :=
 ⟨h.1, fun t ht => (h.2 t ht).mono hS hρ⟩
theorem wi.mono {B : Nat} {w w' : World} {S S' : Nat → Prop} {ds : List Deferred} (h : wi B w S ds)
  (hS : ∀ b, S b → S' b ∧ w'.heap[b]? = w.heap[b]?) : wi B w' S' ds := ⟨h.1, fun d hd => by
 obtain ⟨D, e, h1, hB, h2⟩ := h.2 d hd
 simp_all⟩
theorem Lz (a : Act) (d : Option Tmp) (v : Value) : (a.put d v).tmps.size = a.tmps.size := by
 cases d <;> simp [Act.put]
theorem YZ (a : Act) (d : Option Tmp) (v : Value) : (a.put d v).defers = a.defers := by cases d <;> rfl
theorem mr (a : Act) (d t : Nat) (v : Value) (h : t < a.tmps.size) :
  (a.put (some d) v).tmps.getD t undef = if t = d then v else a.tmps.getD t undef := by
 simp only [Act.put, Array.getD_eq_getD_getElem?, Array.getElem?_setIfInBounds]
 grind
def zo.put (σ : zo) : Option Tmp → AV → zo
 | some d, x => { σ with tm := upd σ.tm d x }
 | none, _ => σ
theorem Yq.put {w : World} {S : Nat → Prop} {ρ : Nat → Own} {n : Nat} {tm : Nat → AV} {a : Act} (h : Yq w S ρ n tm a) (d : Nat) (x : AV) (v : Value)
  (hx : zF w S ρ x v) : Yq w S ρ n (upd tm d x) (a.put (some d) v) := by
 refine ⟨(Lz _ _ _).trans h.1, fun t ht => ?_⟩
 rw [mr _ _ _ _ (by rw [h.1]; exact ht)]
 by_cases e : t = d
 ·subst e; rw [upd_same, if_pos rfl]; exact hx
 ·rw [zM _ _ e, if_neg e]; exact h.2 t ht
theorem Yq.putO {w : World} {S : Nat → Prop} {ρ : Nat → Own} {σ : zo} {a : Act} (h : Yq w S ρ σ.n σ.tm a) (d : Option Tmp) (x : AV) (v : Value)
  (hx : zF w S ρ x v) : Yq w S ρ (σ.put d x).n (σ.put d x).tm (a.put d v) := by
 cases d with
 | none => exact h
 | some d => exact h.put d x v hx
def HA : Value → AV
 | .string s => .str s.data.toList
 | x => .v x
def VV : Value → AV
 | .string s => .str s.data.toList
 | .agg vs => .agg vs.size fun i => HA (vs.getD i undef)
 | x => .v x
def zo.ev (σ : zo) : Operand → AV
 | .tmp t => bif Nat.blt t σ.n then σ.tm t else .junk
 | .const v => VV v
 | .global g => .v (.pointer (some ⟨g, 0, none⟩))
 | .func f => .fn (.func f) 0 (fun _ => .junk) 0 (fun _ => .junk)
theorem zF.const {w : World} {S : Nat → Prop} {ρ : Nat → Own} (x : Value) : zF w S ρ (VV x) x := by
 cases x with
 | string s => exact .str s.data.toList
 | agg vs =>
  refine .agg vs rfl fun i _ => ?_
  cases vs.getD i undef with
  | string s => exact .str s.data.toList
  | _ => exact .v _
 | _ => exact .v _
theorem Yq.ev {w : World} {S : Nat → Prop} {ρ : Nat → Own} {σ : zo} {a : Act} (h : Yq w S ρ σ.n σ.tm a) (x : Operand) : zF w S ρ (σ.ev x) (a.eval x) := by
 cases x with
 | tmp t =>
  show zF w S ρ (bif Nat.blt t σ.n then σ.tm t else .junk) (a.tmps.getD t undef)
  cases hb : Nat.blt t σ.n with
  | true => exact h.2 t (Nat.le_of_ble_eq_true hb)
  | false => exact .junk _
 | const v => exact .const v
 | global g => exact .v _
 | func f => exact .fn #[] #[] rfl rfl (fun i hi => absurd hi (Nat.not_lt_zero _)) (fun i hi => absurd hi (Nat.not_lt_zero _))
end Go.Sx

namespace Go.Sx
open Go Go.RowKit
def Y1 : IntKind → Int → Prop
 | .i8, n => -128 ≤ n ∧ n ≤ 127
 | .i16, n => -32768 ≤ n ∧ n ≤ 32767
 | .i32, n => -2147483648 ≤ n ∧ n ≤ 2147483647
 | .i64, n => -9223372036854775808 ≤ n ∧ n ≤ 9223372036854775807
 | .u8, n => 0 ≤ n ∧ n ≤ 255
 | .u16, n => 0 ≤ n ∧ n ≤ 65535
 | .u32, n => 0 ≤ n ∧ n ≤ 4294967295
 | .u64, n => 0 ≤ n ∧ n ≤ 18446744073709551615
theorem vx {k : IntKind} {n : Int} (h : Y1 k n) : k.wrap n = n := by
 cases k <;> simp only [Y1] at h <;> simp only [IntKind.wrap, IntKind.bits, IntKind.signed] <;> simp <;> omega
def zH : Int → Int → Bool
 | .ofNat m, .ofNat n => Nat.blt m n
 | .ofNat _, .negSucc _ => false
 | .negSucc _, .ofNat _ => true
 | .negSucc m, .negSucc n => Nat.blt n m
theorem zA (m n : Nat) : Nat.blt m n = true ↔ m < n := ⟨fun h => Nat.le_of_ble_eq_true h, fun h => Nat.ble_eq_true_of_le h⟩
theorem zR (a b : Int) : zH a b = true ↔ a < b := by
 cases a <;> cases b <;> simp only [zH, zA, Int.ofNat_eq_natCast, Bool.false_eq_true, true_iff, false_iff] <;> omega
theorem Lh (a b : Int) : zH a b = decide (a < b) := by
 rw [Bool.eq_iff_iff, zR, decide_eq_true_eq]
def leB (a b : Int) : Bool := !zH b a
theorem ze (a b : Int) : leB a b = true ↔ a ≤ b := by
 have := zR b a
 unfold leB
 grind
theorem lE (a b : Int) : leB a b = decide (a ≤ b) := by
 rw [Bool.eq_iff_iff, ze, decide_eq_true_eq]
def He : IntKind → Int → Bool
 | .i8, n => leB (-128) n && leB n 127
 | .i16, n => leB (-32768) n && leB n 32767
 | .i32, n => leB (-2147483648) n && leB n 2147483647
 | .i64, n => leB (-9223372036854775808) n && leB n 9223372036854775807
 | .u8, n => leB 0 n && leB n 255
 | .u16, n => leB 0 n && leB n 65535
 | .u32, n => leB 0 n && leB n 4294967295
 | .u64, n => leB 0 n && leB n 18446744073709551615
theorem LI (k : IntKind) (n : Int) : He k n = true ↔ Y1 k n := by
 cases k <;> simp only [He, Y1, Bool.and_eq_true, ze]
class DB (p : Prop) where
 db : Bool
 iff : db = true ↔ p
instance {k : IntKind} {n : Int} : DB (Y1 k n) := ⟨He k n, LI k n⟩
instance {a b : Int} : DB (a ≤ b) := ⟨leB a b, ze a b⟩
instance {a b : Int} : DB (a < b) := ⟨zH a b, zR a b⟩
instance {a b : Nat} : DB (a ≤ b) := ⟨Nat.ble a b, ⟨Nat.le_of_ble_eq_true, Nat.ble_eq_true_of_le⟩⟩
instance {a b : Nat} : DB (a = b) := ⟨Nat.beq a b, ⟨Nat.eq_of_beq_eq_true, fun h => h ▸ Nat.beq_refl a⟩⟩
instance {a b : Nat} : DB (a < b) := ⟨Nat.blt a b, zA a b⟩
instance {p q : Prop} [DB p] [DB q] : DB (p ∧ q) := ⟨DB.db p && DB.db q, by rw [Bool.and_eq_true, DB.iff, DB.iff]⟩
instance {a b : Int} : DB (a ≠ b) := ⟨!(a == b), by simp⟩
instance {a b : Int} : DB (a = b) := ⟨a == b, by simp⟩
instance {a : Bool} : DB (a = false) := ⟨!a, by simp⟩
@[reducible] def zn.d (p : Prop) [DB p] : zn := .b (DB.db p)
theorem cd {p : Prop} [DB p] (h : (zn.d p).holds) : p := DB.iff.1 h
def UF (x : Bool) (k : Prop) : Prop :=
 match x with
 | true => k
 | false => False
theorem TL (x : Bool) (k : Prop) : UF x k ↔ x = true ∧ k := by cases x <;> simp [UF]
theorem UF.mk {x : Bool} {k : Prop} (h : x = true) (hk : k) : UF x k := (TL x k).2 ⟨h, hk⟩
def y4 : List zn → Prop → Prop
 | [], k => k
 | .b x :: ps, k => UF x (y4 ps k)
 | .p x :: ps, k => x ∧ y4 ps k
theorem zd (ps : List zn) (k : Prop) : y4 ps k ↔ (∀ p ∈ ps, p.holds) ∧ k := by
 induction ps with
 | nil => exact ⟨fun h => ⟨fun _ hp => (by cases hp), h⟩, fun h => h.2⟩
 | cons p ps ih =>
  have e : y4 (p :: ps) k ↔ p.holds ∧ y4 ps k := by
   cases p with
   | b x => exact TL _ _
   | p x => exact Iff.rfl
  grind
def shapeOf (P : Program) (t : TypeId) : Option (Option Nat) :=
 match P.underlying t with
 | none => none
 | some (.struct _) | some (.array _ _) => (P.info? t).map fun i => some i.size
 | some _ => some none
theorem Si {P : Program} {t : TypeId} (h : shapeOf P t = some none) (w : World) : (isAgg t).run P w = .ok false w := by
 unfold shapeOf at h
 cases hu : P.underlying t with
 | none => simp_all
 | some d =>
  rw [hu] at h
  unfold isAgg
  simp only [Sem.run_bind, run_underlying hu, Result.andThen_ok]
  cases d <;> first | rfl | (simp at h)
theorem W1 {P : Program} {t : TypeId} {n : Nat} (h : shapeOf P t = some (some n)) (w : World) :
  (isAgg t).run P w = .ok true w ∧ (sizeOf t).run P w = .ok n w := by
 unfold shapeOf at h
 cases hu : P.underlying t with
 | none => simp_all
 | some d =>
  rw [hu] at h
  unfold isAgg
  simp only [Sem.run_bind, run_underlying hu, Result.andThen_ok]
  cases d <;> simp at h
  all_goals
   obtain ⟨i, hi, e⟩ := h
   refine ⟨rfl, ?_⟩
   rw [run_sizeOf w hi]
   simp [Program.cellsOf, hi, e]
theorem wB {P : Program} {t : TypeId} {w : World} {a : Addr} {v : Value} (h : shapeOf P t = some none) (hc : w.cell? a = some v) :
  (loadVar t a).run P w = .ok v w := by
 unfold loadVar
 simp only [Sem.run_bind, Si h, Result.andThen_ok, Bool.false_eq_true, if_false]
 simp [hc]
theorem YN {P : Program} {t : TypeId} {n : Nat} {w : World} {a : Addr} (f : Nat → Value) (h : shapeOf P t = some (some n))
  (hc : ∀ j, j < n → w.cell? (a.add j) = some (f j)) :
  (loadVar t a).run P w = .ok (.agg ((List.range n).map f).toArray) w := by
 unfold loadVar
 simp only [Sem.run_bind, (W1 h w).1, Result.andThen_ok, if_true, (W1 h w).2, run_loadCells w a n f hc, Sem.run_pure]
theorem wL (n : Nat) (f : Nat → Value) (i : Nat) (h : i < n) : (((List.range n).map f).toArray).getD i undef = f i := by
 simp_all
def xx (bl : Nat → OB) (sh : Option Nat) : AV → Option AV
 | .np k off =>
  match bl k with
  | .box _ n cells =>
   match sh with
   | none => if off < n then some (cells off) else none
   | some m => if off + m ≤ n then some (.agg m fun i => cells (off + i)) else none
  | _ => none
 | .ap k i j =>
  match bl k with
  | .arr _ sz _ els =>
   match sh with
   | none => if j < sz then some (els i j) else none
   | some m => if j + m ≤ sz then some (.agg m fun x => els i (j + x)) else none
  | _ => none
 | .xq n cells off =>
  match sh with
  | none => if off < n then some (cells off) else none
  | some m => if off + m ≤ n then some (.agg m fun i => cells (off + i)) else none
 | _ => none
def strOf : Value → List UInt8
 | .string s => s.data.toList
 | _ => []
def Hd : Value → Bool
 | .string _ => true
 | _ => false
def intOf : Value → Int
 | .int .i64 n => n
 | _ => 0
def Hk : Value → Bool
 | .int .i64 _ => true
 | _ => false
def wX (g : Nat) : List (Nat × Obj) → Option (Array Value)
 | [] => none
 | (b, o) :: r =>
  match Nat.beq b g with
  | true => (match o with | .cells cs _ _ => some cs | _ => none)
  | false => wX g r
def Mz (ob : List (Nat × Obj)) (sh : Option Nat) : AV → Option AV
 | .v (.pointer (some ⟨g, 0, none⟩)) =>
  match sh with
  | some n =>
   match wX g ob with
   | some cs =>
    match Nat.beq n cs.size && cs.toList.all Hd with
    | true => some (.agg n fun i => .str (strOf (cs.getD i undef)))
    | false =>
     match Nat.beq n cs.size && cs.toList.all Hk with
     | true => some (.agg n fun i => .v (.int .i64 (intOf (cs.getD i undef))))
     | false => none
   | none => none
  | none => none
 | _ => none
section
variable {P : Program} {E : Env} {nb : Nat} {bl : Nat → OB} {S : Nat → Prop} {ρ : Nat → Own} {w : World}
theorem Mem.at (h : Mem E nb bl S ρ w) (k : Nat) : ρ k = .none ∨ TF w S ρ (bl k) (ρ k) := by
 by_cases hk : k < nb
 ·exact .inr (h.ok k hk)
 ·exact .inl (h.hi k (by omega))
theorem yk {g i : Nat} {c : Array Value} {t : TypeId} {fr : Nat × Nat} (h : w.heap[g]? = some (.cells c t fr)) (hi : i < c.size) :
  w.cell? ⟨g, i, none⟩ = some (c.getD i undef) := by
 simp [World.cell?, h, Array.getD_eq_getD_getElem?, hi]
theorem U3 {x r : AV} {v : Value} {sh : Option Nat} (hM : Mem E nb bl S ρ w) (hx : zF w S ρ x v) (h : xx bl sh x = some r)  :
  ∃ a, v = .pointer (some a) ∧
   match sh with
   | none => ∃ u, w.cell? a = some u ∧ zF w S ρ r u ∧ u.oneCell' = true
   | some m => ∃ f : Nat → Value, ∃ cs, r = .agg m cs ∧ ∀ i, i < m → w.cell? (a.add i) = some (f i) ∧ zF w S ρ (cs i) (f i) := by
 cases hx with
 | np g hk =>
  rename_i k off
  have hb := (hM.at k).resolve_left (by rw [hk]; simp)
  rw [hk] at hb
  simp only [xx] at h
  cases hB : bl k with
  | box t n cells =>
   rw [hB] at hb h
   obtain ⟨c, h1, h2, h3⟩ := hb
   refine ⟨_, rfl, ?_⟩
   cases sh with
   | none =>
    simp only at h ⊢
    split at h
    ·rename_i hlt
     cases h
     exact ⟨_, yk h1 (by omega), (h3 off hlt).1, (h3 off hlt).2⟩
    ·cases h
   | some m =>
    simp only at h ⊢
    split at h
    ·rename_i hlt
     cases h
     refine ⟨fun i => c.getD (off + i) undef, _, rfl, fun i hi => ⟨?_, (h3 _ (by omega)).1⟩⟩
     rw [add_lit]
     exact yk h1 (by omega)
    ·cases h
  | _ => rw [hB] at hb; exact hb.elim
 | ap g base cap sz L hk hi hc =>
  rename_i k i j
  have hb := (hM.at k).resolve_left (by rw [hk]; simp)
  rw [hk] at hb
  simp only [xx] at h
  cases hB : bl k with
  | arr t sz' len els =>
   rw [hB] at hb h
   obtain ⟨e1, e2, h1, h2, c, h3, h4, h5⟩ := hb
   subst e1; subst e2
   have hbound : ∀ j', j' < sz → (base + i) * sz + j' < c.size := fun j' hj' => by
    have e : (base + i) * sz + sz ≤ (base + cap) * sz := by
     rw [← Nat.succ_mul]; exact Nat.mul_le_mul_right _ (by omega)
    omega
   refine ⟨_, rfl, ?_⟩
   cases sh with
   | none =>
    simp only at h ⊢
    split at h
    ·rename_i hlt
     cases h
     exact ⟨_, yk h3 (hbound j hlt), (h5 i j hi hlt).1.mono (fun b hb => ⟨hb, rfl⟩) (zf.zero _), (h5 i j hi hlt).2⟩
    ·cases h
   | some m =>
    simp only at h ⊢
    split at h
    ·rename_i hlt
     cases h
     refine ⟨fun x => c.getD ((base + i) * sz + (j + x)) undef, _, rfl, fun x hx => ⟨?_, (h5 i (j + x) hi (by omega)).1.mono (fun b hb => ⟨hb, rfl⟩) (zf.zero _)⟩⟩
     rw [add_lit, Nat.add_assoc]
     exact yk h3 (hbound _ (by omega))
    ·cases h
  | _ => rw [hB] at hb; exact hb.elim
 | xq A cvs hc hr =>
  rename_i n cells off
  refine ⟨_, rfl, ?_⟩
  simp only [xx] at h
  cases sh with
  | none =>
   simp only at h ⊢
   split at h
   ·rename_i hlt
    cases h
    exact ⟨_, (hc off hlt).2.1, (hr off hlt).mono (fun b hb => ⟨hb, rfl⟩) (zf.zero _), (hc off hlt).2.2⟩
   ·cases h
  | some m =>
   simp only at h ⊢
   split at h
   ·rename_i hlt
    cases h
    refine ⟨fun i => cvs (off + i), _, rfl, fun i hi => ⟨?_, (hr (off + i) (by omega)).mono (fun b hb => ⟨hb, rfl⟩) (zf.zero _)⟩⟩
    rw [wN]
    grind
   ·cases h
 | dnp hd hsh =>
  rename_i k off
  have hb := (hM.at k).resolve_left (by rw [hd]; simp)
  rw [hd] at hb
  simp only [xx] at h
  cases hB : bl k <;> rw [hB] at hb h <;> first | exact hb.elim | cases h
 | dap hd hsh =>
  rename_i k i j
  have hb := (hM.at k).resolve_left (by rw [hd]; simp)
  rw [hd] at hb
  simp only [xx] at h
  cases hB : bl k <;> rw [hB] at hb h <;> first | exact hb.elim | cases h
 | _ => simp [xx] at h
theorem Py {t : TypeId} {x r : AV} {v : Value} {sh : Option Nat} (hM : Mem E nb bl S ρ w) (hs : shapeOf P t = some sh) (hx : zF w S ρ x v)
  (h : xx bl sh x = some r) :
  ∃ u, (Instr.loadAt t v).run P w = .ok u w ∧ zF w S ρ r u := by
 obtain ⟨a, rfl, hh⟩ := U3 hM hx h
 unfold Instr.loadAt
 simp only [Instr.sureAddr, Sem.run_bind, Sem.run_pure, Result.andThen_ok]
 cases sh with
 | none =>
  obtain ⟨u, h1, h2, _⟩ := hh
  exact ⟨u, wB hs h1, h2⟩
 | some m =>
  obtain ⟨f, cs, rfl, h1⟩ := hh
  exact ⟨_, YN f hs fun j hj => (h1 j hj).1, .agg _ (by simp) fun i hi => by rw [wL _ _ _ hi]; exact (h1 i hi).2⟩
theorem vO {g : Nat} {cs : Array Value} : ∀ {ob : List (Nat × Obj)}, wX g ob = some cs → ∃ t fr, (g, Obj.cells cs t fr) ∈ ob
 | [], h => by cases h
 | (b, o) :: r, h => by
  unfold wX at h
  split at h
  ·rename_i hb
   obtain rfl := Nat.eq_of_beq_eq_true hb
   split at h
   ·cases h
    exact ⟨_, _, List.mem_cons_self⟩
   ·cases h
  ·obtain ⟨t, fr, hm⟩ := vO h
   exact ⟨t, fr, List.mem_cons_of_mem _ hm⟩
theorem qe {t : TypeId} {x r : AV} {v : Value} {sh : Option Nat} (hM : Mem E nb bl S ρ w) (hs : shapeOf P t = some sh) (hx : zF w S ρ x v)
  (h : Mz E.G.objs sh x = some r) :
  ∃ u, (Instr.loadAt t v).run P w = .ok u w ∧ zF w S ρ r u := by
 unfold Mz at h
 split at h
 case h_2 => cases h
 rename_i g
 cases hx
 cases sh with
 | none => cases h
 | some n =>
  simp only at h
  cases hc : wX g E.G.objs with
  | none => rw [hc] at h; cases h
  | some cs =>
   rw [hc] at h
   simp only at h
   obtain ⟨ty, fr, hm⟩ := vO hc
   obtain ⟨_, hw⟩ := hM.glob _ _ hm
   have hcell : ∀ j, j < cs.size → w.cell? ((⟨g, 0, none⟩ : Addr).add j) = some (cs.getD j undef) := fun j hj => by
    rw [add_lit, Nat.zero_add]
    exact yk hw hj
   have hel : ∀ {p : Value → Bool}, (Nat.beq n cs.size && cs.toList.all p) = true → n = cs.size ∧ ∀ i, i < n → p (cs.getD i undef) = true := fun {p} hp => by
    rw [Bool.and_eq_true] at hp
    have e := Nat.eq_of_beq_eq_true hp.1
    refine ⟨e, fun i hi => ?_⟩
    have hi' : i < cs.size := by omega
    rw [Array.getD_eq_getD_getElem?, Array.getElem?_eq_getElem hi', Option.getD_some]
    exact List.all_eq_true.1 hp.2 _ (by simp)
   unfold Instr.loadAt
   simp only [Instr.sureAddr, Sem.run_bind, Sem.run_pure, Result.andThen_ok]
   split at h
   ·rename_i hp
    cases h
    obtain ⟨e, hi⟩ := hel hp
    refine ⟨_, YN (fun j => cs.getD j undef) hs fun j hj => hcell j (by omega), .agg _ (by simp) fun i hi' => ?_⟩
    rw [wL _ _ _ hi']
    have := hi i hi'
    revert this
    cases cs.getD i undef <;> intro this <;> first | exact .str _ | cases this
   ·split at h
    ·rename_i hp
     cases h
     obtain ⟨e, hi⟩ := hel hp
     refine ⟨_, YN (fun j => cs.getD j undef) hs fun j hj => hcell j (by omega), .agg _ (by simp) fun i hi' => ?_⟩
     rw [wL _ _ _ hi']
     have := hi i hi'
     revert this
     cases cs.getD i undef with
     | int k z => cases k <;> intro this <;> first | exact .v _ | cases this
     | _ => intro this; cases this
    ·cases h
end
end Go.Sx

namespace Go.Sx
open Go Go.RowKit
def AV.strip : AV → AV
 | .gd _ x => x
 | x => x
def zn.under (t : Bool) : zn → zn
 | .b x => .b (!t || x)
 | .p x => .p (t = true → x)
theorem WO {t : Bool} {c : zn} (h : (c.under t).holds) (ht : t = true) : c.holds := by
 subst ht
 cases c with
 | b x => assumption
 | p x => exact h rfl
def AV.gprop : AV → List zn
 | .gd g _ => [.b g]
 | _ => []
theorem zF.strip {w : World} {S : Nat → Prop} {ρ : Nat → Own} {x : AV} {v : Value} (h : zF w S ρ x v) (hg : ∀ p ∈ x.gprop, p.holds) : zF w S ρ x.strip v := by
 cases x with
 | gd g y =>
  cases h with
  | gd v hh _ => exact hh (hg _ (List.mem_singleton.2 rfl))
 | _ => exact h
def xm (f : Nat → Bool) : Nat → Bool
 | 0 => true
 | n + 1 => xm f n && f n
theorem ZK {f : Nat → Bool} {n : Nat} (h : xm f n = true) : ∀ i, i < n → f i = true := by
 induction n with
 | zero => omega
 | succ n ih =>
  simp only [xm, Bool.and_eq_true] at h
  grind
def oE : AV → Bool
 | .v x => x.oneCell'
 | .str _ | .xl _ _ _ _ | .xq _ _ _ | .fn _ _ _ _ _ | .np _ _ | .ns _ _ _ | .ap _ _ _ | .yl _ | .mp _ | .nb _ _ => true
 | _ => false
def vW : AV → Option (Nat × (Nat → AV))
 | .agg n cs => if xm (fun i => oE (cs i)) n then some (n, cs) else none
 | x => if oE x then some (1, fun _ => x) else none
def ZD (z : Value) (j : Nat) : AV := VV (z.cells.getD j undef)
def R3 : Value → Value → Bool
 | .bool a, .bool b => a == b
 | .int k a, .int k' b => k == k' && a == b
 | _, _ => false
theorem Qr {a b : Value} (h : R3 a b = true) : a = b ∧ a.oneCell' = true := by
 unfold R3 at h
 split at h
 ·exact ⟨by rw [eq_of_beq h], rfl⟩
 ·rw [Bool.and_eq_true] at h
  exact ⟨by rw [eq_of_beq h.1, eq_of_beq h.2], rfl⟩
 ·cases h
def QS : Value → AV
 | .bool true => .v (.bool true)
 | .bool false => .v (.bool false)
 | x => VV x
theorem qR (x : Value) : QS x = VV x := by
 unfold QS
 split <;> rfl
def pG (z : Value) : Nat → AV := bif Nat.blt 64 z.cells.size && z.cells.toList.all (R3 (z.cells.getD 0 undef)) then fun _ => QS (z.cells.getD 0 undef) else ZD z
theorem Oe {z : Value} {j : Nat} (hj : j < z.cells.size) : pG z j = ZD z j := by
 unfold pG
 cases h : Nat.blt 64 z.cells.size && z.cells.toList.all (R3 (z.cells.getD 0 undef)) with
 | false => rfl
 | true =>
  have h5 := (Bool.and_eq_true _ _ ▸ h : _ ∧ _).2
  have hm : z.cells.getD j undef ∈ z.cells.toList := by
   simp_all
  have := Qr (List.all_eq_true.1 h5 _ hm)
  simp only [cond_true, ZD, qR]
  rw [this.1]
def Qi (op : BinOp) (k : IntKind) (a b : Int) : Option (List zn × AV) :=
 match op with
 | .add => some ([.d (Y1 k (a + b))], .v (.int k (a + b)))
 | .sub => some ([.d (Y1 k (a - b))], .v (.int k (a - b)))
 | .mul => some ([.d (Y1 k (a * b))], .v (.int k (a * b)))
 | .quo => some ([.d (b ≠ 0), .d (Y1 k (a.tdiv b))], .v (.int k (a.tdiv b)))
 | .rem => some ([.d (b ≠ 0)], .v (.int k (a.tmod b)))
 | .lss => some ([], .v (.bool (zH a b)))
 | .leq => some ([], .v (.bool (leB a b)))
 | .gtr => some ([], .v (.bool (zH b a)))
 | .geq => some ([], .v (.bool (leB b a)))
 | .eql => some ([], .v (.bool (a == b)))
 | .neq => some ([], .v (.bool (a != b)))
 | _ => none
def oW (op : BinOp) (a b : List UInt8) : Option (List zn × AV) :=
 match op with
 | .add => some ([.d (a.length + b.length ≤ 9223372036854775807)], .str (a ++ b))
 | .eql => some ([], .v (.bool (a == b)))
 | .neq => some ([], .v (.bool (!(a == b))))
 | .lss => some ([], .v (.bool (Op.bytesLess a b)))
 | .leq => some ([], .v (.bool (Op.bytesLess a b || a == b)))
 | .gtr => some ([], .v (.bool (!(Op.bytesLess a b || a == b))))
 | .geq => some ([], .v (.bool (!Op.bytesLess a b)))
 | _ => none
def Xg (P : Program) (t : TypeId) : Bool :=
 match P.underlying t with
 | some (.struct fs) =>
  match fs.toList with
  | [f, g] =>
   if f.name = "_" then false else if g.name = "_" then false else
   match P.underlying f.type, P.underlying g.type with
   | some (.int .i64), some (.int .i64) => Nat.beq f.offset 0 && Nat.beq g.offset 1
   | _, _ => false
  | _ => false
 | _ => false
def MW (P : Program) (t : TypeId) (o : Nat) (xs ys : Nat → AV) (r : Bool) : Option Bool :=
 bif Xg P t && !P.stoodInHeld t then
  match shapeOf P t, xs o, xs (o + 1), ys o, ys (o + 1) with
  | some (some 2), .v (.int .i64 a), .v (.int .i64 b), .v (.int .i64 c), .v (.int .i64 d) => some ((a == c && (b == d && true)) && r)
  | _, _, _, _, _ => none
 else none
def Ka (P : Program) (xs ys : Nat → AV) : List Field → Option Bool
 | [] => some true
 | f :: fs =>
  if f.name = "_" then none else
  match P.underlying f.type, xs f.offset, ys f.offset, Ka P xs ys fs with
  | some (.int _), .v (.int k a), .v (.int k' b), some r => if k = k' then some ((a == b) && r) else none
  | some .bool, .v (.bool a), .v (.bool b), some r => some ((a == b) && r)
  | some .string, .str a, .str b, some r => some ((a == b) && r)
  | some (.struct _), _, _, some r => MW P f.type f.offset xs ys r
  | _, _, _, _ => none
def LC (P : Program) (op : BinOp) (t : TypeId) (x y : AV) : Option (List zn × AV) :=
 match x, y with
 | .v (.int k a), .v (.int k' b) => if k = k' then Qi op k a b else none
 | .str a, .str b => oW op a b
 | .v (.bool a), .v (.bool b) =>
  match P.underlying t with
  | some .bool =>
   match op with
   | .eql => some ([], .v (.bool (a == b)))
   | .neq => some ([], .v (.bool (!(a == b))))
   | _ => none
  | _ => none
 | .agg n xs, .agg m ys =>
  match P.underlying t with
  | some (.struct fs) =>
   if n = P.cellsOf t ∧ m = P.cellsOf t ∧ fs.all (fun f => f.offset < P.cellsOf t && (!Xg P f.type || Nat.ble (f.offset + 2) (P.cellsOf t))) then
    match op, Ka P xs ys fs.toList with
    | .eql, some r => some ([.d (P.stoodInHeld t = false), .d (P.eqGuardType P.depth t = false)], .v (.bool r))
    | .neq, some r => some ([.d (P.stoodInHeld t = false), .d (P.eqGuardType P.depth t = false)], .v (.bool (!r)))
    | _, _ => none
   else none
  | _ => none
 | _, _ => none
def vF (bl : Nat → OB) : AV → Option Bool
 | .xl _ sz len _ => if 0 < sz then some (Nat.beq len 0) else none
 | .ns k _ len =>
  match bl k with
  | .arr _ _ _ _ => some (Nat.beq len 0)
  | _ => none
 | _ => none
def MD : AV → Bool
 | .np _ _ | .ap _ _ _ | .xq _ _ _ => true
 | _ => false
def J5 (op : BinOp) (k : IntKind) (a b : Int) : Option Int :=
 match op with
 | .and => some (k.wrap (BitVec.ofInt k.bits a &&& BitVec.ofInt k.bits b).toNat)
 | .or => some (k.wrap (BitVec.ofInt k.bits a ||| BitVec.ofInt k.bits b).toNat)
 | .xor => some (k.wrap (BitVec.ofInt k.bits a ^^^ BitVec.ofInt k.bits b).toNat)
 | _ => none
def RY (P : Program) (bl : Nat → OB) (op : BinOp) (t : TypeId) (x y : AV) : Option (List zn × AV) :=
 match y with
 | .v (.int k' b) =>
  match x with
  | .v (.int k a) =>
   match op with
   | .shr => some ([.d (0 ≤ b)], .v (.int k (a.fdiv (2 ^ (min b.toNat k.bits)))))
   | .shl => some ([.d (0 ≤ b)], .v (.int k (k.wrap (a * 2 ^ (min b.toNat k.bits)))))
   | op => if k = k' then (J5 op k a b).map fun n => ([], .v (.int k n)) else none
  | _ => none
 | .v (.slice none 0 0) =>
  match P.underlying t, op with
  | some (.slice _), .eql => (vF bl x).map fun z => ([], .nb true z)
  | some (.slice _), .neq => (vF bl x).map fun z => ([], .nb false z)
  | _, _ => none
 | .v (.pointer none) =>
  match P.underlying t, op, x with
  | some (.pointer _), .eql, .v (.pointer none) => some ([], .v (.bool true))
  | some (.pointer _), .neq, .v (.pointer none) => some ([], .v (.bool false))
  | some (.pointer _), .eql, x => if MD x then some ([], .v (.bool false)) else none
  | some (.pointer _), .neq, x => if MD x then some ([], .v (.bool true)) else none
  | _, _, _ => none
 | .np k' o' =>
  match P.underlying t, x, bl k' with
  | some (.pointer e), .np k o, .box _ _ _ =>
   if k = k' ∧ o = o' ∧ (P.info? e).isSome then
    match op with
    | .eql => some ([], .v (.bool true))
    | .neq => some ([], .v (.bool false))
    | _ => none
   else none
  | _, _, _ => none
 | _ => none
def O5 (P : Program) (bl : Nat → OB) (op : BinOp) (t : TypeId) (x y : AV) : Option (List zn × AV) :=
 match RY P bl op t x y with
 | some r => some r
 | none => LC P op t x y
def S4 (place : Nat → Option (Nat × Nat)) (n : Nat) : (Nat → AV) → List (Nat × AV) → Option (Nat → AV)
 | cs, [] => some cs
 | cs, (i, x) :: rest =>
  match place i, vW x with
  | some (off, size), some (m, ys) => if m = size ∧ off + m ≤ n then S4 place n (fun j => bif Nat.ble off j && Nat.blt j (off + m) then ys (j - off) else cs j) rest else none
  | _, _ => none
def placesOf (P : Program) (t : TypeId) : Option (Nat → Option (Nat × Nat)) :=
 match P.underlying t with
 | some (.array _ e) => (P.info? e).map fun ie i => some (i * ie.size, ie.size)
 | some (.struct fields) => (fields.toList.mapM (fun f => (P.info? f.type).map fun i => (f.offset, i.size))).map fun places i => places.toArray[i]?
 | _ => none
def zt (l : List AV) : Nat → AV := fun i => (l[i]?).getD .junk
def On (n : Nat) (cs : Nat → AV) : Nat → AV := bif Nat.ble n 64 then zt ((List.range n).map cs) else cs
theorem Ue {n : Nat} {cs : Nat → AV} {i : Nat} (h : i < n) : On n cs i = cs i := by
 unfold On zt
 cases Nat.ble n 64 <;> simp [h]
def RI (P : Program) (t : TypeId) (parts : List (Nat × AV)) : Option AV :=
 match P.info? t, placesOf P t with
 | some it, some place =>
  match it.zero with
  | some z => (S4 place z.cells.size (pG z) parts).map fun cs => .agg z.cells.size (On z.cells.size cs)
  | none => none
 | _, _ => none
def Q9 (c a b : AV) : Option (List zn × AV) :=
 match c.strip, a.strip, b.strip with
 | .v (.bool t), .v (.bool x), .v (.bool y) =>
  some (c.gprop ++ (a.gprop.map fun p => p.under t) ++ (b.gprop.map fun p => p.under (!t)), .v (.bool (cond t x y)))
 | _, _, _ => none
def TW (P : Program) (t : TypeId) (f : Nat) : Option Nat :=
 match P.underlying t with
 | some (.struct fs) =>
  match fs[f]? with
  | some fd =>
   match P.info? fd.type with
   | some i => if i.size = 0 then none else some fd.offset
   | none => none
  | none => none
 | _ => none
def Wl : OB → Bool
 | .box .. => true
 | _ => false
def qy : OB → Bool
 | .arr .. => true
 | _ => false
def AV.shift (bl : Nat → OB) (d : Nat) : AV → Option AV
 | .np k off => if Wl (bl k) then some (.np k (off + d)) else none
 | .ap k i j => if qy (bl k) then some (.ap k i (j + d)) else none
 | .xq n cells off => some (.xq n cells (off + d))
 | _ => none
def rP (P : Program) (t : TypeId) (f : Nat) (x : AV) : Option AV :=
 match P.underlying t, x with
 | some (.struct fs), .agg n cs =>
  match fs[f]? with
  | some fd =>
   match shapeOf P fd.type with
   | some none => if fd.offset < n then some (cs fd.offset) else none
   | some (some m) => if fd.offset + m ≤ n then some (.agg m fun i => cs (fd.offset + i)) else none
   | none => none
  | none => none
 | _, _ => none
def Yi (P : Program) (bl : Nat → OB) (t : TypeId) (x ix : AV) : Option (List zn × AV) :=
 match ix with
 | .v (.int _ n) =>
  match P.underlying t with
  | some (.slice e) =>
   match P.info? e, x with
   | some i, .xl _ sz len els => if i.size = sz ∧ 0 < sz then some ([.d (0 ≤ n ∧ n < len)], .xq sz (els n.toNat) 0) else none
   | some i, .ns k off len =>
    match bl k with
    | .arr _ sz _ _ => if i.size = sz then some ([.d (0 ≤ n ∧ n < len)], .ap k (off + n.toNat) 0) else none
    | _ => none
   | some i, .ps k len => if i.size = 1 ∧ Wl (bl k) = true then some ([.d (0 ≤ n ∧ n < len)], .np k n.toNat) else none
   | _, _ => none
  | some (.array N e) =>
   match P.info? e, x with
   | some i, .ap k a 0 =>
    match bl k with
    | .arr _ sz L _ => if i.size = sz ∧ a + N ≤ L then some ([.d (0 ≤ n ∧ n < N)], .ap k (a + n.toNat) 0) else none
    | _ => none
   | some i, .np k off => if i.size = 1 ∧ Wl (bl k) = true then some ([.d (0 ≤ n ∧ n < N)], .np k (off + n.toNat)) else none
   | _, _ => none
  | _ => none
 | _ => none
def Rq (P : Program) (t : TypeId) (x ix : AV) : Option (List zn × AV) :=
 match P.underlying t, x, ix with
 | some .string, .str l, .v (.int _ n) => some ([.d (0 ≤ n ∧ n < l.length)], .v (.int .u8 (l.getD n.toNat 0).toNat))
 | some (.array N e), .agg m cs, .v (.int _ n) =>
  match P.info? e, shapeOf P e with
  | some i, some none => if i.size = 1 ∧ N ≤ m then some ([.d (0 ≤ n ∧ n < N)], cs n.toNat) else none
  | _, _ => none
 | _, _, _ => none
def qf (P : Program) (t : TypeId) : Option TypeId :=
 match P.underlying t with
 | some (.map k e) =>
  match P.info? e with
  | some i =>
   match i.zero with
   | some (.slice none 0 0) => bif Xg P k then some k else none
   | _ => none
  | none => none
 | _ => none
def iw (P : Program) (B : OB) (t : TypeId) (ix : AV) : Option (List zn × AV) :=
 match qf P t, B, ix with
 | some k, .mp _ f, .agg 2 cs =>
  match cs 0, cs 1 with
  | .v (.int .i64 a), .v (.int .i64 b) => some ([.d (P.stoodInHeld k = false)], f a b)
  | _, _ => none
 | _, _, _ => none
def V5 (P : Program) (bl : Nat → OB) (t : TypeId) (x ix : AV) : Option (List zn × AV) :=
 match x with
 | .mp m => iw P (bl m) t ix
 | _ => none
def WM (bl : Nat → OB) : AV → Option AV
 | .np k off => if Wl (bl k) then some (.np k off) else none
 | .ap k i j => if qy (bl k) then some (.ap k i j) else none
 | .xq n c off => some (.xq n c off)
 | .fn (.func f) nf a nc b => some (.fn (.func f) nf a nc b)
 | _ => none
def Xp : Option AV → Option (Option Int)
 | none => some none
 | some (.v (.int _ n)) => some (some n)
 | _ => none
def WB (P : Program) (bl : Nat → OB) (t : TypeId) (x : AV) (lo hi mx : Option AV) : Option (List zn × AV) :=
 match P.underlying t, x, Xp lo, Xp hi, Xp mx with
 | some .string, .str l, some none, some (some h), some none => some ([.d (0 ≤ h ∧ h ≤ l.length)], .str (l.take h.toNat))
 | some .string, .str l, some (some a), some none, some none => some ([.d (0 ≤ a ∧ a ≤ l.length)], .str (l.drop a.toNat))
 | some .string, .str l, some (some a), some (some h), some none => some ([.d (0 ≤ a ∧ a ≤ h ∧ h ≤ l.length)], .str ((l.drop a.toNat).take (h.toNat - a.toNat)))
 | some (.slice e), .xl _ sz len els, some none, some (some h), some none =>
  if P.cellsOf e = sz ∧ (P.info? e).isSome then some ([.d (0 ≤ h ∧ h ≤ len)], .xl false sz h.toNat els) else none
 | some (.slice e), .xl full sz len els, some (some a), some none, some none =>
  if P.cellsOf e = sz ∧ (P.info? e).isSome then some ([.d (0 ≤ a ∧ a ≤ len)], .xl full sz (len - a.toNat) fun i j => els (a.toNat + i) j) else none
 | some (.slice e), .xl _ sz len els, some (some a), some (some h), some none =>
  if P.cellsOf e = sz ∧ (P.info? e).isSome then some ([.d (0 ≤ a ∧ a ≤ h ∧ h ≤ len)], .xl false sz (h.toNat - a.toNat) fun i j => els (a.toNat + i) j) else none
 | some (.slice e), .xl _ sz len els, some none, some (some h), some (some m) =>
  if P.cellsOf e = sz ∧ (P.info? e).isSome then some ([.d (0 ≤ h ∧ h ≤ len), .d (m = h)], .xl true sz h.toNat els) else none
 | some (.slice e), .ns k off len, some none, some (some h), some none =>
  match bl k with
  | .arr _ sz _ _ => if P.cellsOf e = sz ∧ (P.info? e).isSome then some ([.d (0 ≤ h ∧ h ≤ len)], .ns k off h.toNat) else none
  | _ => none
 | some (.slice e), .ns k off len, some (some a), some none, some none =>
  match bl k with
  | .arr _ sz _ _ => if P.cellsOf e = sz ∧ (P.info? e).isSome then some ([.d (0 ≤ a ∧ a ≤ len)], .ns k (off + a.toNat) (len - a.toNat)) else none
  | _ => none
 | some (.slice e), .ns k off len, some (some a), some (some h), some none =>
  match bl k with
  | .arr _ sz _ _ => if P.cellsOf e = sz ∧ (P.info? e).isSome then some ([.d (0 ≤ a ∧ a ≤ h ∧ h ≤ len)], .ns k (off + a.toNat) (h.toNat - a.toNat)) else none
  | _ => none
 | _, _, _, _, _ => none
def sV (P : Program) (bl : Nat → OB) (t : TypeId) (x : AV) : Option AV :=
 match P.underlying t, x with
 | some .string, .str l => some (.v (.int .i64 l.length))
 | some (.slice _), .xl _ _ len _ => some (.v (.int .i64 len))
 | some (.slice _), .ns k _ len => if qy (bl k) then some (.v (.int .i64 len)) else none
 | some (.slice _), .ps _ len => some (.v (.int .i64 len))
 | some (.slice _), .v (.slice _ n _) => some (.v (.int .i64 n))
 | _, _ => none
def pO : AV → AV → Option AV
 | .v (.int k x), .v (.int _ y) => some (.v (.int k (if y > x then y else x)))
 | _, _ => none
def PW : AV → AV → Option AV
 | .v (.int k x), .v (.int _ y) => some (.v (.int k (if y < x then y else x)))
 | _, _ => none
def Rj (f : AV → AV → Option AV) : AV → List AV → Option AV
 | m, [] => some m
 | m, y :: l => (f m y).bind fun m => Rj f m l
def mK (P : Program) (t : TypeId) (x : AV) : Option AV :=
 match P.underlying t, x with
 | some (.slice _), .v (.slice none 0 0) => some (.v (.int .i64 0))
 | _, _ => none
def R6 (P : Program) (bl : Nat → OB) (b : Builtin) (ts : List TypeId) (xs : List AV) : Option AV :=
 match b, ts, xs with
 | .len, [t], [x] => sV P bl t x
 | .cap, [t], [x] => mK P t x
 | .max, _, x :: y :: l => Rj pO x (y :: l)
 | .min, _, x :: y :: l => Rj PW x (y :: l)
 | _, _, _ => none
def i7 (op : UnOp) (x : AV) : Option (List zn × AV) :=
 match op, x with
 | .not, .v (.bool t) => some ([], .v (.bool (!t)))
 | .not, .nb p z => some ([], .nb (!p) z)
 | .neg, .v (.int k n) => some ([.d (Y1 k (-n))], .v (.int k (-n)))
 | _, _ => none
def PL (P : Program) (s d : TypeId) (x : AV) : Option (List zn × AV) :=
 match P.underlying s, P.underlying d, x with
 | some _, some (.int k), .v (.int _ n) => some ([.d (Y1 k n)], .v (.int k n))
 | some _, some .string, .str l => some ([], .str l)
 | _, _, _ => none
def t6 (bl : Nat → OB) (sz : Nat) : AV → Option (Nat × (Nat → Nat → AV))
 | .xl _ s m els => if s = sz then some (m, els) else none
 | .ns k off m =>
  match bl k with
  | .arr _ s _ els => if s = sz then some (m, fun i j => els (off + i) j) else none
  | _ => none
 | _ => none
def N1 : AV → UInt8
 | .v (.int .u8 k) => UInt8.ofNat k.toNat
 | _ => 0
def SN (P : Program) (bl : Nat → OB) (s d : TypeId) (x : AV) : Option (List zn × AV) :=
 match P.underlying s, P.underlying d with
 | some (.slice e), some .string =>
  match P.underlying e with
  | some (.int .u8) =>
   match t6 bl 1 x with
   | some (m, src) => some ([.p (∀ i, i < m → ∃ k, src i 0 = .v (.int .u8 k))], .str ((List.range m).map fun i => N1 (src i 0)))
   | none => none
  | _ => none
 | _, _ => none
def YY (o : Op) : List Operand :=
 match o with
 | .pick .. => []
 | o => o.operands.toList
def isConst : Operand → Bool
 | .const _ => true
 | _ => false
def Jd (P : Program) (op : BinOp) (t : TypeId) (y : Operand) (xv yv : AV) : Option (List zn × AV) :=
 match xv, yv with
 | .v .nilIface, .v .nilIface =>
  match isConst y, P.underlying t, op with
  | true, some (.interface _), .eql => some ([], .v (.bool true))
  | true, some (.interface _), .neq => some ([], .v (.bool false))
  | _, _, _ => none
 | .er z, .v .nilIface =>
  match isConst y, P.underlying t, op with
  | true, some (.interface _), .eql => some ([], .v (.bool z))
  | true, some (.interface _), .neq => some ([], .v (.bool (!z)))
  | _, _, _ => none
 | _, _ => none
def ZQ (P : Program) (ob : List (Nat × Obj)) (bl : Nat → OB) (ev sv : Operand → AV) (o : Op) : Option (List zn × AV) :=
 match o with
 | .move x | .assign x => some ([], sv x)
 | .pick c a b => Q9 (ev c) (ev a) (ev b)
 | .load t a =>
  match shapeOf P t with
  | some sh =>
   match xx bl sh (sv a) with
   | some r => some ([], r)
   | none => (Mz ob sh (sv a)).map fun r => ([], r)
  | none => none
 | .nilCheck x => (WM bl (sv x)).map fun r => ([], r)
 | .binOp op t x y _ =>
  match Jd P op t y (sv x) (sv y) with
  | some r => some r
  | none => O5 P bl op t (sv x) (sv y)
 | .build t parts => (RI P t (parts.toList.map fun p => (p.1, sv p.2))).map fun r => ([], r)
 | .unOp op _ x => i7 op (sv x)
 | .convert s d x =>
  match PL P s d (sv x) with
  | some r => some r
  | none => SN P bl s d (sv x)
 | .makeFunc f first cap => some ([], .fn f first.size (zt (first.toList.map sv)) cap.size (zt (cap.toList.map sv)))
 | .slice t x lo hi mx => WB P bl t (sv x) (lo.map sv) (hi.map sv) (mx.map sv)
 | .fieldAddr t x f =>
  match TW P t f with
  | some d => ((sv x).shift bl d).map fun r => ([], r)
  | none => none
 | .field t x f => (rP P t f (sv x)).map fun r => ([], r)
 | .indexAddr t x i => Yi P bl t (sv x) (sv i)
 | .index t x i => Rq P t (sv x) (sv i)
 | .lookup t x i false => V5 P bl t (sv x) (sv i)
 | .extract x i =>
  match sv x with
  | .tup n vs => if i < n then some ([], vs i) else none
  | _ => none
 | .call { callee := .builtin b, args, argTypes } => (R6 P bl b argTypes.toList (args.toList.map sv)).map fun r => ([], r)
 | _ => none
def Z1 (P : Program) (ob : List (Nat × Obj)) (bl : Nat → OB) (ev : Operand → AV) (o : Op) : Option (List zn × AV) :=
 match ZQ P ob bl ev (fun x => (ev x).strip) o with
 | some (ps, r) => some (((YY o).flatMap fun x => (ev x).gprop) ++ ps, r)
 | none => none
end Go.Sx
