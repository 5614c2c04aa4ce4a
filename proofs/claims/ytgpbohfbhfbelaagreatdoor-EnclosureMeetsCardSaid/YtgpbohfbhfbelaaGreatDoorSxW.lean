/- The verification condition of code, and that it is enough. -/
import Derived.Test.YtgpbohfbhfbelaaGreatDoorSxR
import Derived.Test.YtgpbohfbhfbelaaGreatDoorSxDc
import Derived.LoopNIn
import Derived.RangeFuncLeaves
import Derived.RangeFuncRecord
import Derived.RangeFuncIn
set_option linter.unusedSimpArgs false
set_option linter.unusedVariables false
namespace Go.Sx
open Go Go.RowKit
inductive Z9 : Type 1 where
 | auto
 | two (a b : Z9)
 | one (a : Z9)
 | loop (α : Type) (vars : zo → α → List (Nat × AV)) (blks : zo → α → List (Nat × OB)) (extra : Nat) (pre : zo → α → Prop) (μ : zo → α → Nat) (a : Z9)
 | join (α : Type) (vars : zo → α → List (Nat × AV)) (blks : zo → α → List (Nat × OB)) (extra : Nat) (pre : zo → α → Prop) (a b : Z9)
 | range (iter assign body : Z9)
 | unroll (n : Nat) (a : Z9)
 | split (t : Tmp) (a b : Z9)
def Z9.left : Z9 → Z9
 | .two a _ => a
 | .one a => a
 | .join _ _ _ _ _ a _ => a
 | _ => .auto
def Z9.right : Z9 → Z9
 | .two _ b => b
 | .join _ _ _ _ _ _ b => b
 | _ => .auto
def Z9.iter : Z9 → Z9
 | .range a _ _ => a
 | _ => .auto
def Z9.asgn : Z9 → Z9
 | .range _ a _ => a
 | _ => .auto
def Z9.body : Z9 → Z9
 | .range _ _ a => a
 | _ => .auto
def IP (z : Bool) (A B : Prop) : Prop :=
 match z with
 | true => A ∧ B
 | false => B
theorem qx {z : Bool} {A B : Prop} : IP z A B ↔ (z = true → A) ∧ B := by cases z <;> simp [IP]
def zo.known (σ : zo) (c : Operand) (t : Bool) : zo :=
 match c with
 | .tmp d => { σ with tm := upd σ.tm d (.v (.bool t)) }
 | _ => σ
abbrev VC : Type := Cx → zo → (zo → Prop) → (Nat → zo → Prop) → (zo → Prop) → Prop
def Jz (tm : Nat → AV) : List Tmp → List AV → Nat → AV
 | p :: ps, x :: xs => Jz (upd tm p x) ps xs
 | _, _ => tm
def qj (p : Nat) (k : Nat → (Nat → OB) → AV → Prop) (jump : Option Code) (σ : zo) : Prop :=
 match σ.bl p with
 | .lrec .busy none => k σ.nb (upd σ.bl p (.lrec (match jump with | none => .ready | some _ => .done) jump)) (.v (.bool jump.isNone))
 | _ => False
def yT (vas vbd : VC) (G : Cx) (n : Nat) (tm : Nat → AV) (ps : List Tmp) (p nb : Nat) (bl : Nat → OB) (xs : List AV) (k : Nat → (Nat → OB) → AV → Prop) : Prop :=
 match bl p with
 | .lrec .ready none =>
  match Nat.beq xs.length ps.length && Nat.blt p nb with
  | true => vas { G with nb0 := nb, enc := some p } { n := n, tm := Jz tm ps xs, nb := nb, bl := bl }
    (fun σ => match σ.bl p with
     | .lrec .ready none => vbd { G with nb0 := nb, enc := some p } { σ with bl := upd σ.bl p (.lrec .busy none) } (qj p k none) (fun id => qj p k (some (.exit id))) (qj p k (some .ret))
     | _ => False)
    (fun _ _ => False) fun _ => False
  | false => False
 | _ => False
def PR (σ : zo) (kn : zo → Prop) (ke : Nat → zo → Prop) (kr : zo → Prop) (σr : zo) : Prop :=
 match σr.bl σ.nb with
 | .lrec .ready none => kn { σ with nb := σr.nb, bl := upd σr.bl σ.nb .dead }
 | .lrec .done (some (.exit id)) => ke id { σ with nb := σr.nb, bl := upd σr.bl σ.nb .dead }
 | .lrec .done (some .ret) => kr { σ with nb := σr.nb, bl := upd σr.bl σ.nb .dead }
 | _ => False
def iS (G : Cx) (σ : zo) : Bool :=
 match G.enc with
 | none => true
 | some p => MC (σ.bl p)
def rounds (c : Bool) (body : zo → (zo → Prop) → Prop) : Nat → zo → Prop
 | 0, σ => ZH σ
 | n + 1, σ => body σ (oe c (rounds c body n))
def Zv (P : Program) (rec : Code → Z9 → VC) : Code → Z9 → VC
 | .skip, _, _, σ, kn, _, _ => kn σ
 | .region _ ops draw, _, G, σ, kn, _, _ =>
  match draw with
  | true => W6 P G ops.toList σ kn
  | false => Ux P G ops.toList ops.toList σ (H4 G.conc ops.toList kn)
 | .seq x y, an, G, σ, kn, ke, kr =>
  match an with
  | .join _ vars blks extra pre a b =>
   Zv P rec x a G σ (fun σ' => ∃ z, vB σ.n G.nb0 σ' (vars σ z) (LU (blks σ z) σ.bl) (σ.nb + extra) (pre σ z)) ke kr ∧
    ∀ z, pre σ z → Zv P rec y b G (Wa σ.n (σ.nb + extra) (vars σ z) (LU (blks σ z) σ.bl)) kn ke kr
  | .split t a b =>
   match σ.ev (.tmp t) with
   | .v (.bool u) => zY u (Zv P rec x a G (σ.known (.tmp t) true) (fun σ' => Zv P rec y b G σ' kn ke kr) ke kr) (Zv P rec x a G (σ.known (.tmp t) false) (fun σ' => Zv P rec y b G σ' kn ke kr) ke kr)
   | _ => ZH t
  | an => Zv P rec x an.left G σ (fun σ' => Zv P rec y an.right G σ' kn ke kr) ke kr
 | .cond c x y, an, G, σ, kn, ke, kr =>
  match σ.ev c with
  | .v (.bool t) => zY t (Zv P rec x an.left G (σ.known c true) kn ke kr) (Zv P rec y an.right G (σ.known c false) kn ke kr)
  | .nb p z => IP z (zY p (Zv P rec x an.left G (σ.known c true) kn ke kr) (Zv P rec y an.right G (σ.known c false) kn ke kr)) (zY (!p) (Zv P rec x an.left G (σ.known c true) kn ke kr) (Zv P rec y an.right G (σ.known c false) kn ke kr))
  | .gd g (.v (.bool t)) => g = true ∧ zY t (Zv P rec x an.left G (σ.known c true) kn ke kr) (Zv P rec y an.right G (σ.known c false) kn ke kr)
  | _ => ZH (c, σ)
 | .block id x, an, G, σ, kn, ke, kr => Zv P rec x an.left G σ kn (fun i σ' => bif Nat.beq i id then kn σ' else ke i σ') kr
 | .loop x, an, G, σ, _, ke, kr =>
  match an with
  | .auto => rounds G.conc (fun σ kn => Zv P rec x .auto G σ kn ke kr) 4096 σ
  | .unroll m a => rounds G.conc (fun σ kn => Zv P rec x a G σ kn ke kr) m σ
  | .loop _ vars blks extra pre μ a =>
   (∃ z, vB σ.n G.nb0 σ (vars σ z) (LU (blks σ z) σ.bl) (σ.nb + extra) (pre σ z)) ∧
    ∀ z, pre σ z → Zv P rec x a G (Wa σ.n (σ.nb + extra) (vars σ z) (LU (blks σ z) σ.bl))
     (fun σ' => ∃ z', vB σ.n G.nb0 σ' (vars σ z') (LU (blks σ z') σ.bl) (σ.nb + extra) (pre σ z' ∧ μ σ z' < μ σ z)) ke kr
  | .two a1 (.unroll N (.loop _ vars blks extra pre μ a)) =>
   Zv P rec x a1 G σ (fun σ1 =>
    (∃ z, vB σ1.n G.nb0 σ1 (vars σ1 z) (LU (blks σ1 z) σ1.bl) (σ1.nb + extra) (pre σ1 z ∧ μ σ1 z < N)) ∧
    ∀ z, pre σ1 z → Zv P rec x a G (Wa σ1.n (σ1.nb + extra) (vars σ1 z) (LU (blks σ1 z) σ1.bl))
     (fun σ' => ∃ z', vB σ1.n G.nb0 σ' (vars σ1 z') (LU (blks σ1 z') σ1.bl) (σ1.nb + extra) (pre σ1 z' ∧ μ σ1 z' < μ σ1 z)) ke kr) ke kr
  | _ => False
 | .rangeFunc g ps as bd, an, G, σ, kn, ke, kr =>
  match σ.ev g with
  | .fn (.func gf) 0 _ nc cap =>
   match P.funcs[gf]? with
   | some fn =>
    match fn.body with
    | some c =>
     match (Nat.ble (nc + 1) fn.ntmps && !(fn.name == "runtime.NumGoroutine")) && iS G σ && fn.results.isEmpty with
     | true => rec c an.iter { G with nb0 := σ.nb + 1, yld := fun q => bif Nat.beq q σ.nb then some (yT (Zv P rec as an.asgn) (Zv P rec bd an.body) G σ.n σ.tm ps.toList σ.nb) else none, enc := none }
       { n := fn.ntmps, tm := zt (.yl σ.nb :: (List.range nc).map cap), nb := σ.nb + 1, bl := upd σ.bl σ.nb (.lrec .ready none) } (PR σ kn ke kr) (fun _ _ => False) (PR σ kn ke kr)
     | false => ZH gf
    | none => ZH gf
   | none => ZH gf
  | _ => ZH g
 | .exit id, _, _, σ, _, ke, _ => ke id σ
 | .ret, _, _, σ, _, _, kr => kr σ
 | c, _, _, _, _, _, _ => ZH c
def iA (P : Program) : Nat → Code → Z9 → VC
 | 0, _, _, _, _, _, _, _ => False
 | n + 1, c, an, G, σ, kn, ke, kr => Zv P (iA P n) c an G σ kn ke kr
section
variable {P : Program} {G : Cx}
theorem tg (hO : zE P G) {ops : List Oper} : ∀ (rest : List Oper) {σ : zo} {k k' : zo → Prop}, (∀ σ, k σ → k' σ) → Ux P G ops rest σ k → Ux P G ops rest σ k'
 | [], _, _, _, h, hv => h _ hv
 | _ :: rest, _, _, _, h, hv => wR hO (fun _ hv' => tg hO rest h hv') hv
theorem wh (hO : zE P G) {m : Option Nat} {ops : List Oper} {A : List Nat} {late : Nat → Bool} {k k' : zo → Prop} (h : ∀ σ, k σ → k' σ) : ∀ (f : Nat) {L : Array Bool} {σ : zo}, w8 P G m ops A late f L σ k → w8 P G m ops A late f L σ k'
 | 0, L, σ, hv => by
  unfold w8 at hv ⊢
  grind
 | f + 1, L, σ, hv => by
  unfold w8 at hv ⊢
  split at hv
  ·exact h _ hv
  ·split at hv
   ·split at hv
    ·exact v6 (fun _ hv' => wh hO h f hv') hv
    omega
   ·rw [sC] at hv ⊢
    intro i hi
    have := hv i hi
    split at this
    ·exact tr hO (fun _ hv' => wh hO h f hv') this
    omega
theorem R2 (hO : zE P G) {ops : List Oper} {σ : zo} {k k' : zo → Prop} (h : ∀ σ, k σ → k' σ) (hv : Vy P G ops σ k) : Vy P G ops σ k' := by
 unfold Vy at hv ⊢
 split at hv
 ·rw [W0] at hv ⊢
  exact wh hO h _ hv
 ·exact wh hO h _ hv
theorem rk (hO : zE P G) {ops : List Oper} {σ : zo} {k k' : zo → Prop} (h : ∀ σ, k σ → k' σ) (hv : W6 P G ops σ k) : W6 P G ops σ k' := by
 unfold W6 at hv ⊢
 split at hv
 ·unfold S5 at hv ⊢
  rw [VZ] at hv ⊢
  exact Tp hO (fun s ⟨h1, h2⟩ => ⟨h s h1, h2⟩) _ _ _ hv
 ·rw [VZ] at hv ⊢
  exact R2 hO h hv
theorem xJ {t : Bool} {A B A' B' : Prop} (h1 : A → A') (h2 : B → B') (h : zY t A B) : zY t A' B' := by
 cases t with
 | true => exact h1 h
 | false => exact h2 h
def WL (P : Program) (vc : VC) : Prop := ∀ (G : Cx) (σ : zo) (kn kn' : zo → Prop) (ke ke' : Nat → zo → Prop) (kr kr' : zo → Prop), zE P G → (∀ σ, kn σ → kn' σ) → (∀ i σ, ke i σ → ke' i σ) → (∀ σ, kr σ → kr' σ) →
 vc G σ kn ke kr → vc G σ kn' ke' kr'
theorem uf {p : Nat} {k k' : Nat → (Nat → OB) → AV → Prop} {jump : Option Code} (h : ∀ nb bl x, k nb bl x → k' nb bl x) (σ : zo) (hv : qj p k jump σ) : qj p k' jump σ := by
 unfold qj at hv ⊢
 grind
theorem zE.turn (h : zE P G) (nb0 : Nat) (enc : Option Nat) : zE P { G with nb0 := nb0, enc := enc } := ⟨h.own, h.pu, h.fre, h.mono, h.frm⟩
theorem ko {vas vbd : VC} (h1 : WL P vas) (h2 : WL P vbd) (hO : zE P G) {n : Nat} {tm : Nat → AV} {ps : List Tmp} {p nb : Nat} {bl : Nat → OB} {xs : List AV} {k k' : Nat → (Nat → OB) → AV → Prop}
  (h : ∀ nb bl x, k nb bl x → k' nb bl x) (hv : yT vas vbd G n tm ps p nb bl xs k) : yT vas vbd G n tm ps p nb bl xs k' := by
 unfold yT at hv ⊢
 split at hv
 ·split at hv
  ·refine h1 _ _ _ _ _ _ _ _ (hO.turn _ _) (fun σ hσ => ?_) (fun _ _ h => h) (fun _ h => h) hv
   split at hσ
   ·exact h2 _ _ _ _ _ _ _ _ (hO.turn _ _) (uf h) (fun _ => uf h) (uf h) hσ
   omega
  omega
 omega
theorem Sq {vas vbd : VC} (h1 : WL P vas) (h2 : WL P vbd) (hO : zE P G) {n : Nat} {tm : Nat → AV} {ps : List Tmp} {p : Nat} :
  zE P { G with nb0 := p + 1, yld := fun q => bif Nat.beq q p then some (yT vas vbd G n tm ps p) else none, enc := none } := by
 refine ⟨hO.own, hO.pu, hO.fre, fun q T h => ?_, hO.frm⟩
 simp only at h
 cases hb : Nat.beq q p with
 | true =>
  rw [hb] at h
  cases h
  exact fun nb bl xs k k' hk => ko h1 h2 hO hk
 | false => rw [hb] at h; cases h
theorem SS {σ : zo} {kn kn' : zo → Prop} {ke ke' : Nat → zo → Prop} {kr kr' : zo → Prop} (h1 : ∀ σ, kn σ → kn' σ) (h2 : ∀ i σ, ke i σ → ke' i σ) (h3 : ∀ σ, kr σ → kr' σ) (σr : zo)
  (hv : PR σ kn ke kr σr) : PR σ kn' ke' kr' σr := by
 unfold PR at hv ⊢
 grind
theorem uO {rec : Code → Z9 → VC} (hrec : ∀ c an, WL P (rec c an)) : ∀ (c : Code) (an : Z9), WL P (Zv P rec c an) := by
 intro c
 induction c with
 | skip => intro an G σ kn kn' ke ke' kr kr' hO h1 h2 h3 hv; exact h1 _ hv
 | region id ops draw =>
  intro an G σ kn kn' ke ke' kr kr' hO h1 h2 h3 hv
  cases draw with
  | true =>
   exact rk hO h1 hv
  | false =>
   simp only [Zv, VZ] at hv ⊢
   exact tg hO _ h1 hv
 | seq x y ihx ihy =>
  intro an G σ kn kn' ke ke' kr kr' hO h1 h2 h3 hv
  simp only [Zv] at hv ⊢
  split at hv
  ·exact ⟨ihx _ _ _ _ _ _ _ _ _ hO (fun _ h => h) h2 h3 hv.1, fun z hz => ihy _ _ _ _ _ _ _ _ _ hO h1 h2 h3 (hv.2 z hz)⟩
  ·split at hv
   ·exact xJ (ihx _ _ _ _ _ _ _ _ _ hO (fun _ h => ihy _ _ _ _ _ _ _ _ _ hO h1 h2 h3 h) h2 h3) (ihx _ _ _ _ _ _ _ _ _ hO (fun _ h => ihy _ _ _ _ _ _ _ _ _ hO h1 h2 h3 h) h2 h3) hv
   ·exact hv.elim
  ·exact ihx _ _ _ _ _ _ _ _ _ hO (fun _ h => ihy _ _ _ _ _ _ _ _ _ hO h1 h2 h3 h) h2 h3 hv
 | cond c x y ihx ihy =>
  intro an G σ kn kn' ke ke' kr kr' hO h1 h2 h3 hv
  simp only [Zv] at hv ⊢
  split at hv
  ·exact xJ (ihx _ _ _ _ _ _ _ _ _ hO h1 h2 h3) (ihy _ _ _ _ _ _ _ _ _ hO h1 h2 h3) hv
  ·rw [qx] at hv ⊢
   exact ⟨fun hz => xJ (ihx _ _ _ _ _ _ _ _ _ hO h1 h2 h3) (ihy _ _ _ _ _ _ _ _ _ hO h1 h2 h3) (hv.1 hz), xJ (ihx _ _ _ _ _ _ _ _ _ hO h1 h2 h3) (ihy _ _ _ _ _ _ _ _ _ hO h1 h2 h3) hv.2⟩
  ·exact ⟨hv.1, xJ (ihx _ _ _ _ _ _ _ _ _ hO h1 h2 h3) (ihy _ _ _ _ _ _ _ _ _ hO h1 h2 h3) hv.2⟩
  ·exact hv.elim
 | block id x ih =>
  intro an G σ kn kn' ke ke' kr kr' hO h1 h2 h3 hv
  simp only [Zv] at hv ⊢
  refine ih _ _ _ _ _ _ _ _ _ hO h1 (fun i σ' h => ?_) h3 hv
  cases hb : Nat.beq i id with
  | true => rw [hb] at h; exact h1 _ h
  | false => rw [hb] at h; exact h2 _ _ h
 | loop x ih =>
  intro an G σ kn kn' ke ke' kr kr' hO h1 h2 h3 hv
  simp only [Zv] at hv ⊢
  have roll : ∀ a m σ, rounds G.conc (fun σ kn => Zv P rec x a G σ kn ke kr) m σ → rounds G.conc (fun σ kn => Zv P rec x a G σ kn ke' kr') m σ := by
   intro a m
   induction m with
   | zero => intro σ h; exact h.elim
   | succ m ihm => intro σ h; exact ih a G σ _ _ _ _ _ _ hO (fun σ' h => oZ ihm h) h2 h3 h
  split at hv
  ·exact roll _ _ _ hv
  ·exact roll _ _ _ hv
  ·exact ⟨hv.1, fun z hz => ih _ _ _ _ _ _ _ _ _ hO (fun _ h => h) h2 h3 (hv.2 z hz)⟩
  ·exact ih _ _ _ _ _ _ _ _ _ hO (fun σ1 h => ⟨h.1, fun z hz => ih _ _ _ _ _ _ _ _ _ hO (fun _ h => h) h2 h3 (h.2 z hz)⟩) h2 h3 hv
  ·exact hv.elim
 | rangeFunc g ps as bd ihas ihbd =>
  intro an G σ kn kn' ke ke' kr kr' hO h1 h2 h3 hv
  simp only [Zv] at hv ⊢
  split at hv
  ·split at hv
   ·split at hv
    ·split at hv
     ·exact hrec _ _ _ _ _ _ _ _ _ _ (Sq (ihas _) (ihbd _) hO) (SS h1 h2 h3) (fun _ _ h => h) (SS h1 h2 h3) hv
     ·exact hv.elim
    ·exact hv.elim
   ·exact hv.elim
  ·exact hv.elim
 | exit id => intro an G σ kn kn' ke ke' kr kr' hO h1 h2 h3 hv; exact h2 _ _ hv
 | ret => intro an G σ kn kn' ke ke' kr kr' hO h1 h2 h3 hv; exact h3 _ hv
 | _ => intro an G σ kn kn' ke ke' kr kr' hO h1 h2 h3 hv; exact hv.elim
theorem VH : ∀ (n : Nat) (c : Code) (an : Z9), WL P (iA P n c an)
 | 0, _, _ => fun _ _ _ _ _ _ _ _ _ _ _ _ hv => hv.elim
 | n + 1, c, an => uO (VH n) c an
end
def oY (w : World) (S : Nat → Prop) (ρ : Nat → Own) (G : Cx) : Env := { w0 := w, X := fun g => ∃ k, (ρ k).has g, S0 := S, G := G, r0 := ρ }
section
variable {P : Program} {E : Env} {nb : Nat} {bl : Nat → OB} {S : Nat → Prop} {ρ : Nat → Own} {w : World} {G : Cx}
theorem Mem.inner (hM : Mem E nb bl S ρ w) (hG : G.objs = E.G.objs) (hnb : G.nb0 = nb) : Mem (oY w S ρ G) nb bl S ρ w :=
 ⟨Fr.refl _ _, hM.sb, fun _ h => h, fun _ h => .inl h, fun b o hbo => hM.glob b o (by rw [← hG]; exact hbo), hM.hi, hM.ok, fun j g e => ⟨(hM.own j g e).1, .inr ⟨j, e⟩⟩, hM.dis, hM.b0, Nat.le_of_eq hnb, fun _ _ => .inl (rfl)⟩
theorem Mem.inner_base (hM : Mem E nb bl S ρ w) (b : Nat) (hb : S b) : b < w.heap.size ∧ ¬ ∃ k, (ρ k).has b := ⟨hM.sb b hb, fun ⟨j, e⟩ => (hM.own j b e).1 hb⟩
theorem Mem.outer {nb' : Nat} {bl' : Nat → OB} {S' : Nat → Prop} {ρ' : Nat → Own} {w' : World} (hM : Mem E nb bl S ρ w) (hnb : G.nb0 = nb) (h : Mem (oY w S ρ G) nb' bl' S' ρ' w') :
  Mem E nb' bl' S' ρ' w' ∧ (∀ b, S b → S' b ∧ w'.heap[b]? = w.heap[b]?) ∧ zf ρ ρ' := by
 have hsame : ∀ b, S b → S' b ∧ w'.heap[b]? = w.heap[b]? := fun b hb => ⟨h.sup b hb, h.fr.block b (hM.sb b hb) (hM.inner_base b hb).2⟩
 have hole : ∀ j, j < nb → ρ j = ρ' j ∨ ρ' j = .dead := fun j hj => h.ole j (show j < G.nb0 from hnb ▸ hj)
 have hnb' : nb ≤ nb' := by have := h.nbz; change G.nb0 ≤ nb' at this; rw [hnb] at this; exact this
 refine ⟨⟨?_, h.sb, fun b hb => (hsame b (hM.sup b hb)).1, fun b hb => ?_, fun b o hbo => ?_, h.hi, h.ok, fun j g e => ?_, h.dis, h.b0, Nat.le_trans hM.nbz hnb', fun j hj => ?_⟩, hsame, fun j => ?_⟩
 ·refine hM.fr.trans (fun j hj hx => h.fr.block j (Nat.lt_of_lt_of_le hj hM.fr.size) fun hx' => ?_) h.fr.os h.fr.tape h.fr.output h.fr.size h.fr.drawn
  obtain ⟨k, hk⟩ := hx'
  rcases (hM.own k j hk).2 with h1 | h1
  all_goals grind
 ·rcases h.sub b hb with h1 | ⟨k, hk⟩ | h1
  ·exact hM.sub b h1
  ·exact (hM.own k b hk).2.elim (fun h => .inr (.inr h)) fun h => .inr (.inl h)
  ·exact .inr (.inr (Nat.le_trans hM.fr.size h1))
 ·obtain ⟨h1, h2⟩ := hM.glob b o hbo
  simp_all
 ·obtain ⟨h1, h2⟩ := h.own j g e
  refine ⟨h1, ?_⟩
  rcases h2 with h2 | ⟨k, hk⟩
  ·exact .inl (Nat.le_trans hM.fr.size h2)
  ·exact (hM.own k g hk).2
 ·rcases hole j (Nat.lt_of_lt_of_le hj hM.nbz) with e | e
  ·exact (hM.ole j hj).elim (fun q => .inl (q.trans e)) fun q => .inr (e ▸ q)
  simp_all
 ·by_cases hj : j < nb
  ·grind
  ·exact .inr (.inr (hM.hi j (Nat.not_lt.1 hj)))
theorem zf.trans {a b c : Nat → Own} (h1 : zf a b) (h2 : zf b c) : zf a c := fun k => by
 rcases h1 k with e | e | e
 ·rcases h2 k with f | f | f
  all_goals simp_all
 ·rcases h2 k with f | f | f
  all_goals simp_all
 simp_all
theorem Hb.trans {w1 w2 : World} {S1 S2 : Nat → Prop} {ρ1 ρ2 : Nat → Own} (h1 : Hb w S ρ w1 S1 ρ1) (h2 : Hb w1 S1 ρ1 w2 S2 ρ2) : Hb w S ρ w2 S2 ρ2 :=
 ⟨fun b hb => ⟨(h2.S b (h1.S b hb).1).1, (h2.S b (h1.S b hb).1).2.trans (h1.S b hb).2⟩, h1.le.trans h2.le⟩
theorem SY.later {objs : List (Nat × Obj)} {p : Nat} {T : Nat → (Nat → OB) → List AV → (Nat → (Nat → OB) → AV → Prop) → Prop} {w1 : World} {S1 : Nat → Prop} {ρ1 : Nat → Own} (h : SY P objs p T w S ρ) (he : Hb w S ρ w1 S1 ρ1) : SY P objs p T w1 S1 ρ1 :=
 fun E nb bl S' ρ' w' xs vs k v hG hE hM hxs hv hT => h E nb bl S' ρ' w' xs vs k v hG (he.trans hE) hM hxs hv hT
def oC (E : Env) (r : Option Nat) : Prop :=
 match E.G.enc with
 | none => r = none
 | some p => p < E.G.nb0 ∧ ∃ l rec, r = some l ∧ E.r0 p = .lrec l rec
def Vl (P : Program) (vc : VC) (c : Code) : Prop := ∀ (E : Env) (σ : zo) (a : Act) (w : World) (kn : zo → Prop) (ke : Nat → zo → Prop) (kr : zo → Prop) (Q : Exit → Act → World → Prop) (r : Option Nat) (n : Nat),
 zE P E.G → yD P E → oC E r → vc E.G σ kn ke kr → St E σ a w → (∀ σ a w, kn σ → St E σ a w → Q .normal a w) → (∀ i σ a w, ke i σ → St E σ a w → Q (.exit i) a w) →
 (∀ σ a w, kr σ → St E σ a w → Q .ret a w) → c.wpIn (FW r) n P Q a w
theorem oa {n : Nat} : ∀ (ps : List Tmp) (xs : List AV) (vs : List Value) (tm : Nat → AV) (tmps : Array Value), ZI w S ρ xs vs → tmps.size = n → (∀ t, t < n → zF w S ρ (tm t) (tmps.getD t undef)) →
  (((ps.zip vs).foldl (fun t (p, v) => t.setIfInBounds p v) tmps).size = n ∧ ∀ t, t < n → zF w S ρ (Jz tm ps xs t) (((ps.zip vs).foldl (fun t (p, v) => t.setIfInBounds p v) tmps).getD t undef))
 | [], xs, vs, tm, tmps, _, hn, h => ⟨hn, h⟩
 | p :: ps, [], [], tm, tmps, _, hn, h => ⟨hn, h⟩
 | p :: ps, x :: xs, v :: vs, tm, tmps, hr, hn, h =>
  oa ps xs vs (upd tm p x) (tmps.setIfInBounds p v) hr.2 (by simpa using hn) fun t ht => by
   rw [Array.getD_eq_getD_getElem?, Array.getElem?_setIfInBounds]
   by_cases e : p = t
   ·subst e
    rw [upd_same, if_pos rfl, if_pos (by rw [hn]; exact ht)]
    exact hr.1
   ·rw [zM _ _ (Ne.symm e), if_neg e, ← Array.getD_eq_getD_getElem?]
    exact h t ht
end
section
variable {P : Program} {G : Cx}
theorem RL {w : World} {g b : Nat} {o : Obj} (h : b ≠ g) : (w.putObj g o).heap[b]? = w.heap[b]? := by
 simp [World.putObj, Ne.symm h]
theorem qT {w : World} {g : Nat} {o : Obj} (h : g < w.heap.size) : (w.putObj g o).heap[g]? = some o := by
 simp [World.putObj, h]
theorem VA {E : Env} {nb p g : Nat} {bl : Nat → OB} {S : Nat → Prop} {ρ : Nat → Own} {w : World} {rc : Loop} (hM : Mem E nb bl S ρ w) (hp : p < nb) (hρ : ρ p = .lrec g rc) (hg : g < w.heap.size) (st : LoopState) (pend : Option Code) :
  Mem E nb (upd bl p (.lrec st pend)) S ρ (w.putObj g (.loop { rc with state := st, pending := pend })) ∧ ∀ b, S b → S b ∧ (w.putObj g (.loop { rc with state := st, pending := pend })).heap[b]? = w.heap[b]? :=
 hM.write hp (by rw [hρ]; rfl) (fun b hb => RL hb) (by simp [World.putObj]) rfl rfl rfl (Nat.le_refl _) (by rw [hρ]; exact qT hg)
theorem Ug {E : Env} {nb p g : Nat} {bl : Nat → OB} {S : Nat → Prop} {ρ : Nat → Own} {w : World} {rc : Loop} {st : LoopState} {pend : Option Code} (hM : Mem E nb bl S ρ w) (hp : p < nb) (hbl : bl p = .lrec st pend)
  (hρ : ρ p = .lrec g rc ∨ ρ p = .dead) : ρ p = .lrec g rc ∧ w.heap[g]? = some (.loop { rc with state := st, pending := pend }) := by
 have h := hM.ok p hp
 rw [hbl] at h
 rcases hρ with e | e
 ·rw [e] at h; exact ⟨e, h⟩
 ·rw [e] at h; exact h.elim
theorem vh {E : Env} {nb p g : Nat} {bl : Nat → OB} {S : Nat → Prop} {ρ : Nat → Own} {w : World} {rc : Loop} {k : Nat → (Nat → OB) → AV → Prop} {jump : Option Code} {σ : zo} {a : Act} {w' : World} (hM : Mem E nb bl S ρ w) (hnb : G.nb0 = nb)
  (hp : p < nb) (hρ : ρ p = .lrec g rc) (h : qj p k jump σ) (hst : St (oY w S ρ G) σ a w') :
  ∃ v w4, (Instr.endRound g jump).run P w' = .ok v w4 ∧ K4 E S ρ w k (.returned v) w4 := by
 unfold qj at h
 split at h
 ·rename_i hbl
  obtain ⟨S', ρ', hM', _, _⟩ := hst
  have hpn : p < σ.nb := Nat.lt_of_lt_of_le hp (by have := hM'.nbz; change G.nb0 ≤ _ at this; rw [hnb] at this; exact this)
  obtain ⟨hρ', hheap⟩ := Ug (g := g) (rc := rc) hM' hpn hbl (by
   have := hM'.ole p (show p < G.nb0 from hnb ▸ hp)
   change ρ p = ρ' p ∨ _ at this
   grind)
  have hg : g < w'.heap.size := (Array.getElem?_eq_some_iff.1 hheap).1
  refine ⟨_, _, run_endRound jump hheap, ?_⟩
  have key : ∀ st, (if jump.isNone then LoopState.ready else LoopState.done) = st → k σ.nb (upd σ.bl p (.lrec st jump)) (.v (.bool jump.isNone)) →
    K4 E S ρ w k (.returned (.bool jump.isNone)) (w'.putObj g (.loop { ({ rc with state := .busy, pending := none } : Loop) with state := if jump.isNone then LoopState.ready else LoopState.done, pending := jump })) := fun st e hk => by
   rw [e]
   obtain ⟨m1, _⟩ := VA hM' hpn hρ' hg st jump
   obtain ⟨m2, m3, m4⟩ := hM.outer hnb m1
   exact ⟨_, _, S', ρ', _, _, rfl, hk, m2, m3, m4, .v _⟩
  grind
 simp_all
theorem Ms {vas vbd : VC} {as bd : Code} (h1 : Vl P vas as) (h2 : Vl P vbd bd) (hO : zE P G) {n p g : Nat} {tm : Nat → AV} {rc : Loop} {w1 : World} {S1 : Nat → Prop} {ρ1 : Nat → Own} (hp : ρ1 p = .lrec g rc)
  (has : rc.assign = as) (hbd : rc.body = bd) (hsz : rc.tmps.size = n) (htm : ∀ t, t < n → zF w1 S1 ρ1 (tm t) (rc.tmps.getD t undef)) (hy : ∀ q T, G.yld q = some T → SY P G.objs q T w1 S1 ρ1) :
  SY P G.objs p (yT vas vbd G n tm rc.params.toList p) w1 S1 ρ1 := by
 intro E nb bl S ρ w xs vs k v hobj hext hM hxs hv hT
 unfold yT at hT
 split at hT
 ·rename_i hbl
  split at hT
  ·rename_i hc
   simp only [Bool.and_eq_true] at hc
   have hlen : xs.length = rc.params.toList.length := Nat.eq_of_beq_eq_true hc.1
   have hlt : p < nb := Nat.le_of_ble_eq_true hc.2
   obtain ⟨hρ, hheap⟩ := Ug (g := g) (rc := rc) hM hlt hbl (by
    rcases hext.le p with e | e | e
    all_goals simp_all)
   have hg : g < w.heap.size := (Array.getElem?_eq_some_iff.1 hheap).1
   have hvv : v = .func (.yield g) #[] #[] := by
    cases hv with
    | yl g' r' e => simp_all
    | dyl e => simp_all
   have hl := hxs.get.1
   refine ⟨g, rc.fn, _, as, bd, hvv, by rw [run_yield hheap (by simp only [List.size_toArray]; rw [← hl, hlen]; simp), has, hbd], fun r n' => ?_⟩
   refine roundIn_of_wpIn trivial ?_
   have hMb : Mem (oY w S ρ { G with nb0 := nb, enc := some p }) nb bl S ρ w := hM.inner hobj.symm rfl
   have hYb : yD P (oY w S ρ { G with nb0 := nb, enc := some p }) := ⟨hM.inner_base, hM.hi, fun q T hq => (hy q T hq).later hext⟩
   have hEb : oC (oY w S ρ { G with nb0 := nb, enc := some p }) (some g) := ⟨hlt, g, rc, rfl, hρ⟩
   have hfr := oa (w := w) (S := S) (ρ := ρ) rc.params.toList xs vs tm rc.tmps hxs hsz fun t ht => (htm t ht).mono hext.S hext.le
   have hfold : (rc.params.zip vs.toArray).foldl (fun tmps (t, a) => tmps.setIfInBounds t a) rc.tmps = (rc.params.toList.zip vs).foldl (fun t (p, v) => t.setIfInBounds p v) rc.tmps := by
    rw [← Array.foldl_toList]
    simp
   refine h1 (oY w S ρ { G with nb0 := nb, enc := some p }) _ _ _ _ _ _ _ (some g) _ (hO.turn _ _) hYb hEb hT ⟨S, ρ, hMb, ?_, ⟨List.Pairwise.nil, fun d hd => (by cases hd)⟩⟩ (fun σ1 a1 w1' hk hst => ?_) (fun i σ a w h _ => h.elim) fun σ a w h _ => h.elim
   ·show Yq w S ρ n (Jz tm rc.params.toList xs) { tmps := (rc.params.zip vs.toArray).foldl (fun tmps (t, a) => tmps.setIfInBounds t a) rc.tmps, defers := [] }
    rw [hfold]
    exact hfr
   ·split at hk
    ·rename_i hbl1
     obtain ⟨S', ρ', hM', hF', hD'⟩ := hst
     have hpn : p < σ1.nb := Nat.lt_of_lt_of_le hlt hM'.nbz
     obtain ⟨hρ', hheap'⟩ := Ug (g := g) (rc := rc) hM' hpn hbl1 (by
      have := hM'.ole p hlt
      change ρ p = ρ' p ∨ _ at this
      grind)
     have hg' : g < w1'.heap.size := (Array.getElem?_eq_some_iff.1 hheap').1
     obtain ⟨m1, m2⟩ := VA hM' hpn hρ' hg' .busy none
     refine ⟨_, run_beginRound hheap' rfl, ?_⟩
     exact h2 (oY w S ρ { G with nb0 := nb, enc := some p }) _ _ _ _ _ _ _ (some g) _ (hO.turn _ _) hYb hEb hk ⟨S', ρ', m1, hF'.mono m2 (zf.refl _), hD'.mono m2⟩
      (fun σ2 a2 w2 hk2 hst2 => vh hM rfl hlt hρ hk2 hst2) (fun i σ2 a2 w2 hk2 hst2 => vh hM rfl hlt hρ hk2 hst2) fun σ2 a2 w2 hk2 hst2 => vh hM rfl hlt hρ hk2 hst2
    simp_all
  simp_all
 simp_all
end
end Go.Sx
