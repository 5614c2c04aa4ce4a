/- Symbolic values, their relation to the model's values, and the memory of one activation. -/
import Derived.WalkKit
import Derived.OrdersIn
import Derived.ChangeKeysEq
namespace Go.Sx
open Go Go.RowKit
inductive AV where
  | v (x : Value)
  | str (l : List UInt8)
  | xl (full : Bool) (sz len : Nat) (els : Nat → Nat → AV)
  | xq (n : Nat) (cells : Nat → AV) (off : Nat)
  | np (k off : Nat)
  | ns (k off len : Nat)
  | ap (k i j : Nat)
  | agg (n : Nat) (cs : Nat → AV)
  | tup (n : Nat) (vs : Nat → AV)
  | fn (f : Fn) (nf : Nat) (first : Nat → AV) (nc : Nat) (cap : Nat → AV)
  | gd (g : Bool) (x : AV)
  | yl (k : Nat)
  | nb (p z : Bool)
  | junk
abbrev AV.i (n : Int) : AV := .v (.int .i64 n)
abbrev AV.b (t : Bool) : AV := .v (.bool t)
inductive Own where
  | none | dead
  | box (g : Nat)
  | arr (g base cap sz len : Nat)
  | nila (sz : Nat)
  | lrec (g : Nat) (r : Loop)
  | rows (g cap sz len : Nat) (sub : Nat → Option Nat)
  | app (o : Option Nat) (v : Value)
def Own.has : Own → Nat → Prop
  | .box g, b => g = b
  | .arr g _ _ _ _, b => g = b
  | .lrec g _, b => g = b
  | .rows g _ _ _ sub, b => g = b ∨ ∃ i, sub i = some b
  | .app o _, b => o = some b
  | _, _ => False
def Own.like : Own → Own → Prop
  | .rows g cap sz len _, .rows g' cap' sz' len' _ => g = g' ∧ cap = cap' ∧ sz = sz' ∧ len = len'
  | o, o' => o = o'
theorem Own.like_refl (o : Own) : o.like o := by cases o <;> simp [Own.like]
theorem Own.like_trans {a b c : Own} (h1 : a.like b) (h2 : b.like c) : a.like c := by
  cases a <;> cases b <;> simp only [Own.like, reduceCtorEq] at h1 <;> cases c <;> simp only [Own.like, reduceCtorEq] at h2 ⊢ <;> simp_all
theorem Own.like_symm {a b : Own} (h : a.like b) : b.like a := by
  cases a <;> cases b <;> simp only [Own.like, reduceCtorEq] at h ⊢ <;> simp_all
theorem Own.like_eq {a b : Own} (h : a.like b) (hn : ∀ g cap sz len sub, a ≠ .rows g cap sz len sub) : b = a := by
  cases a <;> cases b <;> simp only [Own.like, reduceCtorEq] at h <;> first | exact absurd rfl (hn _ _ _ _ _) | (simp_all)
def rho0 : Nat → Own := fun _ => .none
theorem block_of_add (a : Addr) (n : Nat) : (a.add n).block = a.block := by unfold Addr.add; split <;> rfl
theorem add_of_add (a : Addr) (i j : Nat) : (a.add i).add j = a.add (i + j) := by
  unfold Addr.add
  by_cases hi : i = 0 <;> by_cases hj : j = 0 <;> simp [hi, hj, Nat.add_assoc]
theorem add_lit (g o n : Nat) : (⟨g, o, none⟩ : Addr).add n = ⟨g, o + n, none⟩ := by
  unfold Addr.add; split <;> simp_all
def dshape : AV → Value → Prop
  | .np _ _, x => ∃ a, x = .pointer (some a)
  | .ap _ _ _, x => ∃ a, x = .pointer (some a)
  | .ns _ _ len, x => ∃ o c, x = .slice o len c
  | .yl _, x => ∃ g, x = .func (.yield g) #[] #[]
  | _, _ => True
inductive Rel (w : World) (S : Nat → Prop) : (Nat → Own) → AV → Value → Prop where
  | v {ρ} (x) : Rel w S ρ (.v x) x
  | str {ρ} (l : List UInt8) : Rel w S ρ (.str l) (.string ⟨l.toArray⟩)
  | xl {ρ} {full sz len els} (o : Option Addr) (cap : Nat) (cvs : Nat → Nat → Value) (hle : len ≤ cap) (hm : cap ≤ maxLen)
      (hf : full = true → cap = len)
      (hc : ∀ i j, i < len → j < sz → ∃ A, o = some A ∧ S A.block ∧ w.cell? (A.add (i * sz + j)) = some (cvs i j) ∧ (cvs i j).oneCell' = true)
      (hr : ∀ i j, i < len → j < sz → Rel w S rho0 (els i j) (cvs i j)) : Rel w S ρ (.xl full sz len els) (.slice o len cap)
  | xq {ρ} {n cells off} (A : Addr) (cvs : Nat → Value)
      (hc : ∀ i, i < n → S A.block ∧ w.cell? (A.add i) = some (cvs i) ∧ (cvs i).oneCell' = true)
      (hr : ∀ i, i < n → Rel w S rho0 (cells i) (cvs i)) : Rel w S ρ (.xq n cells off) (.pointer (some (A.add off)))
  | np {ρ} {k off} (g : Nat) (h : ρ k = .box g) : Rel w S ρ (.np k off) (.pointer (some ⟨g, off, none⟩))
  | ns {ρ} {k off len} (g base cap sz L : Nat) (h : ρ k = .arr g base cap sz L) (hl : off + len ≤ L) (hc : L ≤ cap) :
      Rel w S ρ (.ns k off len) (.slice (some ⟨g, (base + off) * sz, none⟩) len (cap - off))
  | ns0 {ρ} {k off} (g base cap sz L : Nat) (A : Addr) (h : ρ k = .arr g base cap sz L) (hl : off ≤ L) (hc : L ≤ cap) (h0 : cap = off) :
      Rel w S ρ (.ns k off 0) (.slice (some A) 0 0)
  | nsn {ρ} {k} (sz : Nat) (o : Option Addr) (h : ρ k = .nila sz) : Rel w S ρ (.ns k 0 0) (.slice o 0 0)
  | nsr {ρ} {k off len} (g cap sz L : Nat) (sub : Nat → Option Nat) (h : ρ k = .rows g cap sz L sub) (hl : off + len ≤ L) (hc : L ≤ cap) :
      Rel w S ρ (.ns k off len) (.slice (some ⟨g, off * sz, none⟩) len (cap - off))
  | nsv {ρ} {k len} (q : Option Nat) (o : Option Addr) (cap : Nat) (h : ρ k = .app q (.slice o len cap)) : Rel w S ρ (.ns k 0 len) (.slice o len cap)
  | apr {ρ} {k i j} (g cap sz L : Nat) (sub : Nat → Option Nat) (h : ρ k = .rows g cap sz L sub) (hi : i < L) (hc : L ≤ cap) :
      Rel w S ρ (.ap k i j) (.pointer (some ⟨g, i * sz + j, none⟩))
  | ap {ρ} {k i j} (g base cap sz L : Nat) (h : ρ k = .arr g base cap sz L) (hi : i < L) (hc : L ≤ cap) :
      Rel w S ρ (.ap k i j) (.pointer (some ⟨g, (base + i) * sz + j, none⟩))
  | yl {ρ} {k} (g : Nat) (r : Loop) (h : ρ k = .lrec g r) : Rel w S ρ (.yl k) (.func (.yield g) #[] #[])
  | dyl {ρ} {k x} (h : ρ k = .dead) (hx : dshape (.yl k) x) : Rel w S ρ (.yl k) x
  | dnp {ρ} {k off x} (h : ρ k = .dead) (hx : dshape (.np k off) x) : Rel w S ρ (.np k off) x
  | dns {ρ} {k off len x} (h : ρ k = .dead) (hx : dshape (.ns k off len) x) : Rel w S ρ (.ns k off len) x
  | dap {ρ} {k i j x} (h : ρ k = .dead) (hx : dshape (.ap k i j) x) : Rel w S ρ (.ap k i j) x
  | agg {ρ} {n cs} (vs : Array Value) (hn : vs.size = n) (hr : ∀ i, i < n → Rel w S ρ (cs i) (vs.getD i undef)) : Rel w S ρ (.agg n cs) (.agg vs)
  | tup {ρ} {n cs} (vs : Array Value) (hn : vs.size = n) (hr : ∀ i, i < n → Rel w S ρ (cs i) (vs.getD i undef)) : Rel w S ρ (.tup n cs) (.tuple vs)
  | fn {ρ} {f nf first nc cap} (vs us : Array Value) (hn : vs.size = nf) (hm : us.size = nc) (hr : ∀ i, i < nf → Rel w S ρ (first i) (vs.getD i undef))
      (hs : ∀ i, i < nc → Rel w S ρ (cap i) (us.getD i undef)) : Rel w S ρ (.fn f nf first nc cap) (.func f vs us)
  | gd {ρ} {g x} (v : Value) (h : g = true → Rel w S ρ x v) (h' : g = false → v = undef) : Rel w S ρ (.gd g x) v
  | nb {ρ} {p z} (t : Bool) (h : t = p → z = true) : Rel w S ρ (.nb p z) (.bool t)
  | junk {ρ} (x) : Rel w S ρ .junk x
def OwnLe (ρ ρ' : Nat → Own) : Prop := ∀ k, (ρ k).like (ρ' k) ∨ ρ' k = .dead ∨ ρ k = .none
theorem OwnLe.refl (ρ : Nat → Own) : OwnLe ρ ρ := fun _ => .inl (Own.like_refl _)
theorem OwnLe.of {ρ ρ' : Nat → Own} (h : ∀ k, ρ k = ρ' k ∨ ρ' k = .dead ∨ ρ k = .none) : OwnLe ρ ρ' := fun k => (h k).imp (fun e => by rw [e]; exact Own.like_refl _) id
theorem OwnLe.zero (ρ : Nat → Own) : OwnLe rho0 ρ := fun _ => .inr (.inr rfl)
theorem cell_same {w w' : World} {a : Addr} (h : w'.heap[a.block]? = w.heap[a.block]?) : w'.cell? a = w.cell? a := World.cell?_of_block h
theorem Rel.mono {w w' : World} {S S' : Nat → Prop} {ρ ρ' : Nat → Own} {av : AV} {v : Value} (h : Rel w S ρ av v)
    (hS : ∀ b, S b → S' b ∧ w'.heap[b]? = w.heap[b]?) (hρ : OwnLe ρ ρ') : Rel w' S' ρ' av v := by
  induction h generalizing ρ' with
  | v x => exact .v x
  | str l => exact .str l
  | xl o cap cvs hle hm hf hc hr ih =>
    refine .xl o cap cvs hle hm hf (fun i j hi hj => ?_) (fun i j hi hj => ih i j hi hj (OwnLe.refl _))
    obtain ⟨A, e, hs, hcell, ho⟩ := hc i j hi hj
    exact ⟨A, e, (hS _ hs).1, (cell_same (w := w) (w' := w') (by rw [block_of_add]; exact (hS _ hs).2)).trans hcell, ho⟩
  | xq A cvs hc hr ih =>
    refine .xq A cvs (fun i hi => ?_) (fun i hi => ih i hi (OwnLe.refl _))
    obtain ⟨hs, hcell, ho⟩ := hc i hi
    exact ⟨(hS _ hs).1, (cell_same (w := w) (w' := w') (by rw [block_of_add]; exact (hS _ hs).2)).trans hcell, ho⟩
  | @np ρ k off g h =>
    rcases hρ k with e | e | e
    · rw [h] at e; exact .np g (Own.like_eq e (by simp))
    · exact .dnp e ⟨_, rfl⟩
    · rw [h] at e; cases e
  | @ns ρ k off len g base cap sz L h hl hc =>
    rcases hρ k with e | e | e
    · rw [h] at e; exact .ns g base cap sz L (Own.like_eq e (by simp)) hl hc
    · exact .dns e ⟨_, _, rfl⟩
    · rw [h] at e; cases e
  | @ns0 ρ k off g base cap sz L A h hl hc h0 =>
    rcases hρ k with e | e | e
    · rw [h] at e; exact .ns0 g base cap sz L A (Own.like_eq e (by simp)) hl hc h0
    · exact .dns e ⟨_, _, rfl⟩
    · rw [h] at e; cases e
  | @nsn ρ k sz o h =>
    rcases hρ k with e | e | e
    · rw [h] at e; exact .nsn sz o (Own.like_eq e (by simp))
    · exact .dns e ⟨_, _, rfl⟩
    · rw [h] at e; cases e
  | @ap ρ k i j g base cap sz L h hi hc =>
    rcases hρ k with e | e | e
    · rw [h] at e; exact .ap g base cap sz L (Own.like_eq e (by simp)) hi hc
    · exact .dap e ⟨_, rfl⟩
    · rw [h] at e; cases e
  | @nsr ρ k off len g cap sz L sub h hl hc =>
    rcases hρ k with e | e | e
    · rw [h] at e
      cases h' : ρ' k with
      | rows g' cap' sz' L' sub' => rw [h'] at e; obtain ⟨rfl, rfl, rfl, rfl⟩ := e; exact .nsr g cap sz L sub' h' hl hc
      | _ => rw [h'] at e; cases e
    · exact .dns e ⟨_, _, rfl⟩
    · rw [h] at e; cases e
  | @nsv ρ k len q o cap h =>
    rcases hρ k with e | e | e
    · rw [h] at e; exact .nsv q o cap (Own.like_eq e (by simp))
    · exact .dns e ⟨_, _, rfl⟩
    · rw [h] at e; cases e
  | @apr ρ k i j g cap sz L sub h hi hc =>
    rcases hρ k with e | e | e
    · rw [h] at e
      cases h' : ρ' k with
      | rows g' cap' sz' L' sub' => rw [h'] at e; obtain ⟨rfl, rfl, rfl, rfl⟩ := e; exact .apr g cap sz L sub' h' hi hc
      | _ => rw [h'] at e; cases e
    · exact .dap e ⟨_, rfl⟩
    · rw [h] at e; cases e
  | @yl ρ k g r h =>
    rcases hρ k with e | e | e
    · rw [h] at e; exact .yl g r (Own.like_eq e (by simp))
    · exact .dyl e ⟨_, rfl⟩
    · rw [h] at e; cases e
  | @dyl ρ k x h hx =>
    rcases hρ k with e | e | e
    · rw [h] at e; exact .dyl (Own.like_eq e (by simp)) hx
    · exact .dyl e hx
    · rw [h] at e; cases e
  | @dnp ρ k off x h hx =>
    rcases hρ k with e | e | e
    · rw [h] at e; exact .dnp (Own.like_eq e (by simp)) hx
    · exact .dnp e hx
    · rw [h] at e; cases e
  | @dns ρ k off len x h hx =>
    rcases hρ k with e | e | e
    · rw [h] at e; exact .dns (Own.like_eq e (by simp)) hx
    · exact .dns e hx
    · rw [h] at e; cases e
  | @dap ρ k i j x h hx =>
    rcases hρ k with e | e | e
    · rw [h] at e; exact .dap (Own.like_eq e (by simp)) hx
    · exact .dap e hx
    · rw [h] at e; cases e
  | agg vs hn hr ih => exact .agg vs hn fun i hi => ih i hi hρ
  | tup vs hn hr ih => exact .tup vs hn fun i hi => ih i hi hρ
  | fn vs us hn hm hr hs ih1 ih2 => exact .fn vs us hn hm (fun i hi => ih1 i hi hρ) (fun i hi => ih2 i hi hρ)
  | gd v h h' ih => exact .gd v (fun hg => ih hg hρ) h'
  | nb t h => exact .nb t h
  | junk x => exact .junk x
def AV.Closed : AV → Prop
  | .np _ _ | .ns _ _ _ | .ap _ _ _ | .yl _ | .junk => False
  | .agg n cs => ∀ i, i < n → (cs i).Closed
  | .tup n cs => ∀ i, i < n → (cs i).Closed
  | .fn _ nf f nc c => (∀ i, i < nf → (f i).Closed) ∧ (∀ i, i < nc → (c i).Closed)
  | .gd g x => g = true ∧ x.Closed
  | _ => True
theorem Rel.closed {w : World} {S : Nat → Prop} {ρ ρ' : Nat → Own} {av : AV} {v : Value} (h : Rel w S ρ av v) (hc : av.Closed) : Rel w S ρ' av v := by
  induction h generalizing ρ' with
  | v x => exact .v x
  | str l => exact .str l
  | xl o cap cvs hle hm hf hcc hr ih => exact .xl o cap cvs hle hm hf hcc hr
  | xq A cvs hcc hr ih => exact .xq A cvs hcc hr
  | agg vs hn hr ih => exact .agg vs hn fun i hi => ih i hi (hc i hi)
  | tup vs hn hr ih => exact .tup vs hn fun i hi => ih i hi (hc i hi)
  | fn vs us hn hm hr hs ih1 ih2 => exact .fn vs us hn hm (fun i hi => ih1 i hi (hc.1 i hi)) (fun i hi => ih2 i hi (hc.2 i hi))
  | gd v h h' ih => exact .gd v (fun hg => ih hg hc.2) h'
  | nb t h => exact .nb t h
  | _ => exact hc.elim
inductive OB where
  | dead
  | box (t : TypeId) (n : Nat) (cells : Nat → AV)
  | arr (t : TypeId) (sz len : Nat) (els : Nat → Nat → AV)
  | lrec (st : LoopState) (pend : Option Code)
  | rows (t : TypeId) (sz len col : Nat) (te : TypeId) (ssz : Nat) (els : Nat → Nat → AV) (out : Option (Nat × AV))
  | app (te : TypeId) (ssz len : Nat) (els : Nat → Nat → AV)
def RowOK (w : World) (S : Nat → Prop) (te : TypeId) (ssz : Nat) (x : AV) (v : Value) : Option Nat → Prop
  | none => ∃ n el, x = .xl false ssz n el ∧ Rel w S rho0 (.xl true ssz n el) v
  | some g => ∃ n el cap c, x = .xl false ssz n el ∧ v = .slice (some ⟨g, 0, none⟩) n cap ∧ w.heap[g]? = some (.cells c te (0, 0)) ∧ cap * ssz = c.size ∧ n ≤ cap ∧ cap ≤ maxLen ∧
      ∀ i j, i < n → j < ssz → Rel w S rho0 (el i j) (c.getD (i * ssz + j) undef) ∧ (c.getD (i * ssz + j) undef).oneCell' = true
theorem RowOK.mono {w w' : World} {S S' : Nat → Prop} {te : TypeId} {ssz : Nat} {x : AV} {v : Value} {o : Option Nat} (h : RowOK w S te ssz x v o)
    (hS : ∀ b, S b → S' b ∧ w'.heap[b]? = w.heap[b]?) (hb : ∀ g, o = some g → w'.heap[g]? = w.heap[g]?) : RowOK w' S' te ssz x v o := by
  cases o with
  | none =>
    obtain ⟨n, el, h1, h2⟩ := h
    exact ⟨n, el, h1, h2.mono hS (OwnLe.refl _)⟩
  | some g =>
    obtain ⟨n, el, cap, c, h1, h2, h3, h4, h5, h6, h7⟩ := h
    exact ⟨n, el, cap, c, h1, h2, (hb g rfl).trans h3, h4, h5, h6, fun i j hi hj => ⟨(h7 i j hi hj).1.mono hS (OwnLe.refl _), (h7 i j hi hj).2⟩⟩
def ColOK (w : World) (S : Nat → Prop) (ρ : Nat → Own) (te : TypeId) (ssz : Nat) (x : AV) (out : Option (Nat × AV)) (i : Nat) (v : Value) (o : Option Nat) : Prop :=
  match out with
  | none => RowOK w S te ssz x v o
  | some (i0, y) => (i = i0 → o = none ∧ Rel w S ρ y v) ∧ (i ≠ i0 → RowOK w S te ssz x v o)
theorem ColOK.mono {w w' : World} {S S' : Nat → Prop} {ρ ρ' : Nat → Own} {te : TypeId} {ssz : Nat} {x : AV} {out : Option (Nat × AV)} {i : Nat} {v : Value} {o : Option Nat} (h : ColOK w S ρ te ssz x out i v o)
    (hS : ∀ b, S b → S' b ∧ w'.heap[b]? = w.heap[b]?) (hρ : OwnLe ρ ρ') (hb : ∀ g, o = some g → w'.heap[g]? = w.heap[g]?) : ColOK w' S' ρ' te ssz x out i v o := by
  cases out with
  | none => exact RowOK.mono h hS hb
  | some p => exact ⟨fun e => ⟨(h.1 e).1, (h.1 e).2.mono hS hρ⟩, fun e => (h.2 e).mono hS hb⟩
def BOK (w : World) (S : Nat → Prop) (ρ : Nat → Own) : OB → Own → Prop
  | .dead, .dead => True
  | .box t n cells, .box g => ∃ c, w.heap[g]? = some (.cells c t (0, 0)) ∧ c.size = n ∧ ∀ i, i < n → Rel w S ρ (cells i) (c.getD i undef) ∧ (c.getD i undef).oneCell' = true
  | .arr t sz len els, .arr g base cap sz' len' => sz' = sz ∧ len' = len ∧ len ≤ cap ∧ cap ≤ maxLen ∧
      ∃ c, w.heap[g]? = some (.cells c t (0, 0)) ∧ (base + cap) * sz = c.size ∧
        ∀ i j, i < len → j < sz → Rel w S rho0 (els i j) (c.getD ((base + i) * sz + j) undef) ∧ (c.getD ((base + i) * sz + j) undef).oneCell' = true
  | .arr _ sz len _, .nila sz' => sz' = sz ∧ len = 0
  | .rows _ sz len _ _ _ _ out, .nila sz' => sz' = sz ∧ len = 0 ∧ out = none
  | .rows t sz len col te ssz els out, .rows g cap sz' len' sub => sz' = sz ∧ len' = len ∧ len ≤ cap ∧ cap ≤ maxLen ∧ col < sz ∧ (∀ i, len ≤ i → sub i = none) ∧ (∀ i, sub i ≠ some g) ∧ (∀ i i' b, sub i = some b → sub i' = some b → i = i') ∧
      ∃ c, w.heap[g]? = some (.cells c t (0, 0)) ∧ cap * sz = c.size ∧
        ∀ i, i < len → (c.getD (i * sz + col) undef).oneCell' = true ∧ ColOK w S ρ te ssz (els i col) out i (c.getD (i * sz + col) undef) (sub i) ∧
          ∀ j, j < sz → j ≠ col → Rel w S rho0 (els i j) (c.getD (i * sz + j) undef) ∧ (c.getD (i * sz + j) undef).oneCell' = true
  | .app te ssz len els, .app o v => RowOK w S te ssz (.xl false ssz len els) v o
  | .lrec st pend, .lrec g r => w.heap[g]? = some (.loop { r with state := st, pending := pend })
  | _, _ => False
theorem BOK.mono {w w' : World} {S S' : Nat → Prop} {ρ ρ' : Nat → Own} {B : OB} {o : Own} (h : BOK w S ρ B o)
    (hS : ∀ b, S b → S' b ∧ w'.heap[b]? = w.heap[b]?) (hρ : OwnLe ρ ρ') (hb : ∀ g, o.has g → w'.heap[g]? = w.heap[g]?) : BOK w' S' ρ' B o := by
  cases B with
  | dead => cases o <;> first | exact h | trivial
  | box t n cells =>
    cases o with
    | box g =>
      obtain ⟨c, h1, h2, h3⟩ := h
      exact ⟨c, (hb g rfl).trans h1, h2, fun i hi => ⟨(h3 i hi).1.mono hS hρ, (h3 i hi).2⟩⟩
    | _ => exact h.elim
  | arr t sz len els =>
    cases o with
    | arr g base cap sz' len' =>
      obtain ⟨e1, e2, h1, h2, c, h3, h4, h5⟩ := h
      exact ⟨e1, e2, h1, h2, c, (hb g rfl).trans h3, h4, fun i j hi hj => ⟨(h5 i j hi hj).1.mono hS (OwnLe.refl _), (h5 i j hi hj).2⟩⟩
    | nila sz' => exact h
    | _ => exact h.elim
  | lrec st pend =>
    cases o with
    | lrec g r => exact (hb g rfl).trans h
    | _ => exact h.elim
  | rows t sz len col te ssz els out =>
    cases o with
    | rows g cap sz' len' sub =>
      obtain ⟨e1, e2, h1, h2, h3, h4, h5, h6, c, h7, h8, h9⟩ := h
      exact ⟨e1, e2, h1, h2, h3, h4, h5, h6, c, (hb g (.inl rfl)).trans h7, h8, fun i hi => ⟨(h9 i hi).1, (h9 i hi).2.1.mono hS hρ fun b e => hb b (.inr ⟨i, e⟩),
        fun j hj hne => ⟨((h9 i hi).2.2 j hj hne).1.mono hS (OwnLe.refl _), ((h9 i hi).2.2 j hj hne).2⟩⟩⟩
    | nila sz' => exact h
    | _ => exact h.elim
  | app te ssz len els =>
    cases o with
    | app q v => exact RowOK.mono (o := q) h hS fun g e => hb g e
    | _ => exact h.elim
structure Fr (X : Nat → Prop) (w0 w : World) : Prop where
  os : w.os = w0.os
  tape : w.tape = w0.tape
  output : w.output = w0.output
  size : w0.heap.size ≤ w.heap.size
  block : ∀ k, k < w0.heap.size → ¬ X k → w.heap[k]? = w0.heap[k]?
  drawn : w0.drawn ≤ w.drawn
theorem Fr.refl (X : Nat → Prop) (w : World) : Fr X w w := ⟨rfl, rfl, rfl, Nat.le_refl _, fun _ _ _ => rfl, Nat.le_refl _⟩
theorem Fr.trans {X : Nat → Prop} {a b c : World} (h : Fr X a b) (h2 : ∀ k, k < a.heap.size → ¬ X k → c.heap[k]? = b.heap[k]?)
    (e1 : c.os = b.os) (e2 : c.tape = b.tape) (e3 : c.output = b.output) (e4 : b.heap.size ≤ c.heap.size) (e5 : b.drawn ≤ c.drawn) : Fr X a c :=
  ⟨e1.trans h.os, e2.trans h.tape, e3.trans h.output, Nat.le_trans h.size e4, fun k hk hx => (h2 k hk hx).trans (h.block k hk hx), Nat.le_trans h.drawn e5⟩
structure Blw (w w' : World) : Prop extends Below w.heap.size w w' where
  drawn : w.drawn ≤ w'.drawn
inductive Fail {α : Type} (x : α) : Prop
theorem Fail.elim {α : Type} {x : α} {C : Prop} (h : Fail x) : C := by cases h
inductive Cond where
  | b (x : Bool)
  | p (x : Prop)
def Cond.holds : Cond → Prop
  | .b x => x = true
  | .p x => x
structure Cx where
  objs : List (Nat × Obj)
  nb0 : Nat
  own : FuncId → Option (Nat → (Nat → OB) → List AV → (Nat → (Nat → OB) → AV → Prop) → Prop)
  pu : FuncId → List AV → Option (List Cond × AV) := fun _ _ => none
  fre : FuncId → List AV → Option (List Cond × TypeId × Nat × Nat × (Nat → Nat → AV)) := fun _ _ => none
  conc : Bool := false
  yld : Nat → Option (Nat → (Nat → OB) → List AV → (Nat → (Nat → OB) → AV → Prop) → Prop) := fun _ => none
  enc : Option Nat := none
/-- The fixed surroundings of one activation: the world at its start, the old blocks that it may write, what it may read of old memory,
  what holds of blocks that never change (package-level tables). -/
structure Env where
  w0 : World
  X : Nat → Prop
  S0 : Nat → Prop
  G : Cx
  r0 : Nat → Own
structure Mem (E : Env) (nb : Nat) (bl : Nat → OB) (S : Nat → Prop) (ρ : Nat → Own) (w : World) : Prop where
  fr : Fr E.X E.w0 w
  sb : ∀ b, S b → b < w.heap.size
  sup : ∀ b, E.S0 b → S b
  sub : ∀ b, S b → E.S0 b ∨ E.X b ∨ E.w0.heap.size ≤ b
  glob : ∀ b o, (b, o) ∈ E.G.objs → S b ∧ w.heap[b]? = some o
  hi : ∀ k, nb ≤ k → ρ k = .none
  ok : ∀ k, k < nb → BOK w S ρ (bl k) (ρ k)
  own : ∀ k g, (ρ k).has g → ¬ S g ∧ (E.w0.heap.size ≤ g ∨ E.X g)
  dis : ∀ k k' g, (ρ k).has g → (ρ k').has g → k = k'
  b0 : ∀ k g base cap sz L, ρ k = .arr g base cap sz L → base = 0
  nbz : E.G.nb0 ≤ nb
  ole : ∀ k, k < E.G.nb0 → (E.r0 k).like (ρ k) ∨ ρ k = .dead
def upd {α : Type} (f : Nat → α) (d : Nat) (x : α) : Nat → α := fun t => bif Nat.beq t d then x else f t
theorem upd_same {α : Type} (f : Nat → α) (d : Nat) (x : α) : upd f d x d = x := by simp [upd]
theorem upd_other {α : Type} (f : Nat → α) {d t : Nat} (x : α) (h : t ≠ d) : upd f d x t = f t := by
  have : Nat.beq t d = false := by
    cases hb : Nat.beq t d with
    | false => rfl
    | true => exact absurd (Nat.eq_of_beq_eq_true hb) h
  simp [upd, this]
structure Sig where
  n : Nat
  tm : Nat → AV
  nb : Nat
  bl : Nat → OB
def FrR (w : World) (S : Nat → Prop) (ρ : Nat → Own) (n : Nat) (tm : Nat → AV) (a : Act) : Prop :=
  a.tmps.size = n ∧ ∀ t, t < n → Rel w S ρ (tm t) (a.tmps.getD t undef)
def DfR (B : Nat) (w : World) (S : Nat → Prop) (ds : List Deferred) : Prop :=
  ds.Pairwise (fun d d' => d ≠ d') ∧ ∀ d ∈ ds, ∃ D, d = { target := .collected D, args := #[] } ∧ S D ∧ B ≤ D ∧ w.heap[D]? = some (.deferred (some []))
def St (E : Env) (σ : Sig) (a : Act) (w : World) : Prop :=
  ∃ S ρ, Mem E σ.nb σ.bl S ρ w ∧ FrR w S ρ σ.n σ.tm a ∧ DfR E.w0.heap.size w S a.defers
theorem FrR.mono {w w' : World} {S S' : Nat → Prop} {ρ ρ' : Nat → Own} {n : Nat} {tm : Nat → AV} {a : Act} (h : FrR w S ρ n tm a)
    (hS : ∀ b, S b → S' b ∧ w'.heap[b]? = w.heap[b]?) (hρ : OwnLe ρ ρ') : FrR w' S' ρ' n tm a :=
  ⟨h.1, fun t ht => (h.2 t ht).mono hS hρ⟩
theorem DfR.mono {B : Nat} {w w' : World} {S S' : Nat → Prop} {ds : List Deferred} (h : DfR B w S ds)
    (hS : ∀ b, S b → S' b ∧ w'.heap[b]? = w.heap[b]?) : DfR B w' S' ds := ⟨h.1, fun d hd => by
  obtain ⟨D, e, h1, hB, h2⟩ := h.2 d hd
  exact ⟨D, e, (hS D h1).1, hB, (hS D h1).2.trans h2⟩⟩
theorem put_size (a : Act) (d : Option Tmp) (v : Value) : (a.put d v).tmps.size = a.tmps.size := by
  cases d <;> simp [Act.put]
theorem put_defs (a : Act) (d : Option Tmp) (v : Value) : (a.put d v).defers = a.defers := by cases d <;> rfl
theorem put_getD (a : Act) (d t : Nat) (v : Value) (h : t < a.tmps.size) :
    (a.put (some d) v).tmps.getD t undef = if t = d then v else a.tmps.getD t undef := by
  simp only [Act.put, Array.getD_eq_getD_getElem?, Array.getElem?_setIfInBounds]
  by_cases e : d = t
  · subst e; simp [h]
  · have e' : ¬ t = d := fun x => e x.symm
    simp [e, e']
def Sig.put (σ : Sig) : Option Tmp → AV → Sig
  | some d, x => { σ with tm := upd σ.tm d x }
  | none, _ => σ
theorem FrR.put {w : World} {S : Nat → Prop} {ρ : Nat → Own} {n : Nat} {tm : Nat → AV} {a : Act} (h : FrR w S ρ n tm a) (d : Nat) (x : AV) (v : Value)
    (hx : Rel w S ρ x v) : FrR w S ρ n (upd tm d x) (a.put (some d) v) := by
  refine ⟨(put_size _ _ _).trans h.1, fun t ht => ?_⟩
  rw [put_getD _ _ _ _ (by rw [h.1]; exact ht)]
  by_cases e : t = d
  · subst e; rw [upd_same, if_pos rfl]; exact hx
  · rw [upd_other _ _ e, if_neg e]; exact h.2 t ht
theorem FrR.putO {w : World} {S : Nat → Prop} {ρ : Nat → Own} {σ : Sig} {a : Act} (h : FrR w S ρ σ.n σ.tm a) (d : Option Tmp) (x : AV) (v : Value)
    (hx : Rel w S ρ x v) : FrR w S ρ (σ.put d x).n (σ.put d x).tm (a.put d v) := by
  cases d with
  | none => exact h
  | some d => exact h.put d x v hx
def const1 : Value → AV
  | .string s => .str s.data.toList
  | x => .v x
def constAV : Value → AV
  | .string s => .str s.data.toList
  | .agg vs => .agg vs.size fun i => const1 (vs.getD i undef)
  | x => .v x
def Sig.ev (σ : Sig) : Operand → AV
  | .tmp t => bif Nat.blt t σ.n then σ.tm t else .junk
  | .const v => constAV v
  | .global g => .v (.pointer (some ⟨g, 0, none⟩))
  | .func f => .fn (.func f) 0 (fun _ => .junk) 0 (fun _ => .junk)
theorem Rel.const {w : World} {S : Nat → Prop} {ρ : Nat → Own} (x : Value) : Rel w S ρ (constAV x) x := by
  cases x with
  | string s => exact .str s.data.toList
  | agg vs =>
    refine .agg vs rfl fun i _ => ?_
    cases vs.getD i undef with
    | string s => exact .str s.data.toList
    | _ => exact .v _
  | _ => exact .v _
theorem FrR.ev {w : World} {S : Nat → Prop} {ρ : Nat → Own} {σ : Sig} {a : Act} (h : FrR w S ρ σ.n σ.tm a) (x : Operand) : Rel w S ρ (σ.ev x) (a.eval x) := by
  cases x with
  | tmp t =>
    show Rel w S ρ (bif Nat.blt t σ.n then σ.tm t else .junk) (a.tmps.getD t undef)
    cases hb : Nat.blt t σ.n with
    | true => exact h.2 t (Nat.le_of_ble_eq_true hb)
    | false => exact .junk _
  | const v => exact .const v
  | global g => exact .v _
  | func f => exact .fn #[] #[] rfl rfl (fun i hi => absurd hi (Nat.not_lt_zero _)) (fun i hi => absurd hi (Nat.not_lt_zero _))
end Go.Sx
