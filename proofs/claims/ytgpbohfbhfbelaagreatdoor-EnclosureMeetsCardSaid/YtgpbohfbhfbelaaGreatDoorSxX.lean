/- That the verification condition of code is enough. -/
import Derived.Test.YtgpbohfbhfbelaaGreatDoorSxW
import Derived.Test.YtgpbohfbhfbelaaGreatDoorSxT
import Derived.RangeFuncNested
import Derived.Shelf.Abstract
set_option linter.unusedSimpArgs false
set_option linter.unusedVariables false
namespace Go.Sx
open Go Go.RowKit
section
variable {P : Program} {E : Env}
theorem XH {σ : zo} {a : Act} {w : World} {c : Operand} {t : Bool} (hst : St E σ a w) (hc : a.eval c = .bool t) : St E (σ.known c t) a w := by
 cases c with
 | tmp d =>
  obtain ⟨S, ρ, hM, hF, hD⟩ := hst
  refine ⟨S, ρ, hM, ⟨hF.1, fun t' ht => ?_⟩, hD⟩
  show zF w S ρ (upd σ.tm d _ t') _
  by_cases e : t' = d
  ·subst e
   rw [upd_same]
   have : a.tmps.getD t' undef = .bool t := hc
   rw [this]
   exact .v _
  ·rw [zM _ _ e]
   exact hF.2 t' ht
 | _ => exact hst
theorem qO {σ : zo} {a : Act} {w : World} {S : Nat → Prop} {ρ : Nat → Own} {r : Option Nat} (hE : oC E r) (henc : iS E.G σ = true) (hM : Mem E σ.nb σ.bl S ρ w)
  (hD : wi E.w0.heap.size w S a.defers) (fn : FuncId) (ps : Array Tmp) (asg bd : Code) :
  ∃ l mark w1 S1 rc, (Instr.enterLoop fn a.tmps ps asg bd r).run P w = .ok (l, mark) w1 ∧ rc.assign = asg ∧ rc.body = bd ∧ rc.tmps = a.tmps ∧ rc.params = ps ∧
   Mem E (σ.nb + 1) (upd σ.bl σ.nb (.lrec .ready none)) S1 (upd ρ σ.nb (.lrec l rc)) w1 ∧ (∀ b, S b → S1 b ∧ w1.heap[b]? = w.heap[b]?) ∧ zf ρ (upd ρ σ.nb (.lrec l rc)) ∧
   wi E.w0.heap.size w1 S1 (mark ++ a.defers) := by
 have lay : ∀ (S : Nat → Prop) (w : World) (rc : Loop), Mem E σ.nb σ.bl S ρ w → rc.state = .ready → rc.pending = none →
   Mem E (σ.nb + 1) (upd σ.bl σ.nb (.lrec .ready none)) S (upd ρ σ.nb (.lrec w.heap.size rc)) (w.alloc (.loop rc)) ∧ zf ρ (upd ρ σ.nb (.lrec w.heap.size rc)) ∧ ∀ b, S b → S b ∧ (w.alloc (.loop rc)).heap[b]? = w.heap[b]? := fun S w rc hM e1 e2 =>
  hM.adopt (g := w.heap.size) (fun g' (e : w.heap.size = g') => e.symm) (fun b hb _ => yy w _ hb) (by simp) rfl rfl rfl (Nat.le_refl _) (fun hs => Nat.lt_irrefl _ (hM.sb _ hs)) (fun k hk => Nat.lt_irrefl _ (hM.blk_lt hk)) (.inl hM.fr.size)
   (fun g base cap sz L e => by cases e) (by
    show (w.alloc (.loop rc)).heap[w.heap.size]? = _
    rw [World.alloc_heap_new, ← e1, ← e2])
 unfold oC at hE
 unfold iS at henc
 split at hE
 ·subst hE
  have hM1 := hM.grow (w' := w.alloc (.deferred (some []))) ⟨(Below.refl _ _).alloc (Nat.le_refl _) _, Nat.le_refl _⟩
  obtain ⟨m1, m2⟩ := hM1
  rw [World.size_alloc] at m1 m2
  obtain ⟨l1, l2, l3⟩ := lay _ _ { state := .ready, pending := none, fn, tmps := a.tmps, params := ps, assign := asg, body := bd, defers := w.heap.size } m1 rfl rfl
  rw [World.size_alloc] at l1 l2
  refine ⟨_, _, _, _, _, run_enterLoop_outer fn a.tmps ps asg bd, rfl, rfl, rfl, rfl, l1, fun b hb => ⟨(m2 b hb).1, (l3 b (m2 b hb).1).2.trans (m2 b hb).2⟩, l2, ?_⟩
  have hnew : ((w.alloc (.deferred (some []))).alloc (.loop { state := .ready, pending := none, fn, tmps := a.tmps, params := ps, assign := asg, body := bd, defers := w.heap.size })).heap[w.heap.size]? = some (.deferred (some [])) := by
   rw [yy _ _ (by simp)]
   exact World.alloc_heap_new w _
  have hD2 := hD.mono (w' := (w.alloc (.deferred (some []))).alloc (.loop { state := .ready, pending := none, fn, tmps := a.tmps, params := ps, assign := asg, body := bd, defers := w.heap.size })) fun b hb => ⟨(m2 b hb).1, (l3 b (m2 b hb).1).2.trans (m2 b hb).2⟩
  refine ⟨List.pairwise_cons.2 ⟨fun d hd e => ?_, hD2.1⟩, fun d hd => ?_⟩
  ·obtain ⟨D, e', h1, _⟩ := hD.2 d hd
   simp_all
  ·rcases List.mem_cons.1 hd with e | e
   ·exact ⟨w.heap.size, e, .inr ⟨Nat.le_refl _, by simp⟩, hM.fr.size, hnew⟩
   ·exact hD2.2 d e
 ·rename_i p hp
  obtain ⟨hlt, l, rec, rfl, hr0⟩ := hE
  rw [hp] at henc
  have hpn : p < σ.nb := Nat.lt_of_lt_of_le hlt hM.nbz
  have hρ : ρ p = .lrec l rec := by
   rcases hM.ole p hlt with e | e
   ·simp_all
   ·exact (hM.lrec henc e).elim
  obtain ⟨st, pe, hh⟩ : ∃ st pe, w.heap[l]? = some (.loop { rec with state := st, pending := pe }) := by
   have := hM.ok p hpn
   rw [hρ] at this
   cases hb : σ.bl p with
   | lrec st pe => rw [hb] at this; exact ⟨st, pe, this⟩
   | _ => rw [hb] at this; exact this.elim
  obtain ⟨l1, l2, l3⟩ := lay _ _ { state := .ready, pending := none, fn, tmps := a.tmps, params := ps, assign := asg, body := bd, defers := rec.defers } hM rfl rfl
  exact ⟨_, _, _, _, _, run_enterLoop_inner hh fn a.tmps ps asg bd, rfl, rfl, rfl, rfl, l1, l3, l2, hD.mono l3⟩
theorem UC {G : Cx} {nb : Nat} {bl : Nat → OB} {S : Nat → Prop} {ρ : Nat → Own} {w : World} {fn : Func} {σ : zo} {a : Act} {w1 : World} {n : Nat} {R : Ending → World → Prop} (hM : Mem E nb bl S ρ w) (hnb : G.nb0 = nb)
  (hst : St (oY w S ρ G) σ a w1)
  (h : ∀ w2 S2 ρ2, Mem E σ.nb σ.bl S2 ρ2 w2 → (∀ b, S b → S2 b ∧ w2.heap[b]? = w.heap[b]?) → zf ρ ρ2 → (∀ k, k < nb → ρ k = ρ2 k ∨ ρ2 k = .dead) → Yq w2 S2 ρ2 σ.n σ.tm { tmps := a.tmps, defers := [] } →
   ∃ v, (results fn a.tmps).run P w2 = .ok v w2 ∧ R (.returned v) w2) :
  LeavesInM (FW none) n P fn a.tmps R a.defers .returning w1 := by
 obtain ⟨S1, ρ1, hM1, hF1, hD1⟩ := hst
 refine xA a.defers w1 S1 hD1 fun w2 hs => ?_
 obtain ⟨S2, hM2, hold, hkeep⟩ := UA hM1 hD1 hs
 have hF2 : Yq w2 S2 ρ1 σ.n σ.tm { tmps := a.tmps, defers := [] } := ⟨hF1.1, fun t ht => (hF1.2 t ht).mono' hkeep⟩
 have hsame : ∀ b, S b → S2 b ∧ w2.heap[b]? = w.heap[b]? := fun b hb => by
  have hlt := hM.sb b hb
  have h1 : S1 b := hM1.sup b hb
  obtain ⟨h2, h3⟩ := hold b h1 hlt
  exact ⟨h2, hM2.fr.block b hlt fun hx => by
   obtain ⟨k, hk⟩ := hx
   exact (hM.own k b hk).1 hb⟩
 have hnb' : nb ≤ σ.nb := by have := hM1.nbz; change G.nb0 ≤ _ at this; rwa [hnb] at this
 have hole' : ∀ j, j < nb → ρ j = ρ1 j ∨ ρ1 j = .dead := fun j hj => hM1.ole j (show j < G.nb0 by rw [hnb]; exact hj)
 have hole : zf ρ ρ1 := fun j => by
  by_cases hj : j < nb
  ·grind
  ·exact .inr (.inr (hM.hi j (Nat.not_lt.1 hj)))
 refine h w2 S2 ρ1 ⟨?_, hM2.sb, fun b hb => (hsame b (hM.sup b hb)).1, fun b hb => ?_, fun b o hbo => ?_, hM2.hi, hM2.ok, fun j g e => ?_, hM2.dis, hM2.b0, Nat.le_trans hM.nbz hnb', fun j hj => ?_⟩ hsame hole hole' hF2
 ·refine hM.fr.trans (fun j hj hx => hM2.fr.block j (Nat.lt_of_lt_of_le hj hM.fr.size) fun hx' => ?_) hM2.fr.os hM2.fr.tape hM2.fr.output hM2.fr.size hM2.fr.drawn
  obtain ⟨k, hk⟩ := hx'
  rcases (hM.own k j hk).2 with h1 | h1
  all_goals grind
 ·rcases hM2.sub b hb with h1 | ⟨k, hk⟩ | h1
  ·exact hM.sub b h1.1
  ·exact (hM.own k b hk).2.elim (fun h => .inr (.inr h)) fun h => .inr (.inl h)
  ·exact .inr (.inr (Nat.le_trans hM.fr.size h1))
 ·obtain ⟨h1, h2⟩ := hM.glob b o hbo
  simp_all
 ·obtain ⟨h1, h2⟩ := hM2.own j g e
  refine ⟨h1, ?_⟩
  rcases h2 with h2 | ⟨k, hk⟩
  ·exact .inl (Nat.le_trans hM.fr.size h2)
  ·exact (hM.own k g hk).2
 ·rcases hole' j (Nat.lt_of_lt_of_le hj hM.nbz) with e | e
  ·exact (hM.ole j hj).elim (fun q => .inl (q.trans e)) fun q => .inr (e ▸ q)
  simp_all
theorem jT {α : Type} (f : Nat → α) (d : Nat) (x y : α) : upd (upd f d x) d y = upd f d y := by
 funext t
 unfold upd
 grind
theorem QE {σ σr : zo} {a : Act} {kn kr : zo → Prop} {ke : Nat → zo → Prop} {Q : Exit → Act → World → Prop} {r : Option Nat} {n : Nat} {S1 S2 : Nat → Prop} {ρ1 ρ2 : Nat → Own} {w1 w2 : World} {l : Nat} {rc : Loop} {v : Value}
  (h : PR σ kn ke kr σr) (hM : Mem E σr.nb σr.bl S2 ρ2 w2) (hlt : σ.nb < σr.nb) (hρ : ρ1 σ.nb = .lrec l rc) (hole : ρ1 σ.nb = ρ2 σ.nb ∨ ρ2 σ.nb = .dead) (hS : ∀ b, S1 b → S2 b ∧ w2.heap[b]? = w1.heap[b]?) (hle : zf ρ1 ρ2)
  (hF : Yq w1 S1 ρ1 σ.n σ.tm a) (hD : wi E.w0.heap.size w1 S1 a.defers)
  (h1 : ∀ σ a w, kn σ → St E σ a w → Q .normal a w) (h2 : ∀ i σ a w, ke i σ → St E σ a w → Q (.exit i) a w) (h3 : ∀ σ a w, kr σ → St E σ a w → Q .ret a w) :
  rangePost (FW r) n P l Q a (.returned v) w2 := by
 have key : ∀ st pe, σr.bl σ.nb = .lrec st pe → st ≠ .busy → ∃ w4, (Instr.endLoop l).run P w2 = .ok pe w4 ∧ St E { σ with nb := σr.nb, bl := upd σr.bl σ.nb .dead } a w4 := fun st pe hb hne => by
  rw [hρ] at hole
  obtain ⟨e1, hh⟩ := Ug hM hlt hb (hole.imp (fun e => e.symm) id)
  have hg : l < w2.heap.size := (Array.getElem?_eq_some_iff.1 hh).1
  refine ⟨_, run_endLoop hh hne, ?_⟩
  obtain ⟨m1, m2⟩ := VA hM hlt e1 hg .exhausted pe
  obtain ⟨k1, k2, k3⟩ := m1.kill σ.nb hlt false
  rw [jT] at k1
  refine ⟨_, _, k1, hF.mono (fun b hb => ⟨(k3 b (m2 b (hS b hb).1).1).1, (m2 b (hS b hb).1).2.trans (hS b hb).2⟩) (hle.trans k2), hD.mono fun b hb => ⟨(k3 b (m2 b (hS b hb).1).1).1, (m2 b (hS b hb).1).2.trans (hS b hb).2⟩⟩
 unfold PR at h
 split at h
 ·rename_i hb
  obtain ⟨w4, e1, e2⟩ := key _ _ hb (by simp)
  exact ⟨none, w4, e1, h1 _ _ _ h e2⟩
 ·rename_i id hb
  obtain ⟨w4, e1, e2⟩ := key _ _ hb (by simp)
  exact ⟨_, w4, e1, wpIn_exit (h2 _ _ _ _ h e2)⟩
 ·rename_i hb
  obtain ⟨w4, e1, e2⟩ := key _ _ hb (by simp)
  exact ⟨_, w4, e1, wpIn_ret (h3 _ _ _ h e2)⟩
 simp_all
theorem Nl {w : World} {S : Nat → Prop} {ρ : Nat → Own} {p l nc : Nat} {rc : Loop} {cap : Nat → AV} {us : Array Value} (hρ : ρ p = .lrec l rc) (hm : us.size = nc) (hs : ∀ i, i < nc → zF w S ρ (cap i) (us.getD i undef)) :
  ZI w S ρ (.yl p :: (List.range nc).map cap) (.func (.yield l) #[] #[] :: us.toList) := ⟨.yl l rc hρ, ZI.ofArr hm hs⟩
theorem Ox {w : World} {S : Nat → Prop} {ρ : Nat → Own} {n : Nat} {xs : List AV} {vs : List Value} (hx : ZI w S ρ xs vs) (hn : xs.length ≤ n) :
  Yq w S ρ n (zt xs) { tmps := vs.toArray ++ Array.replicate (n - vs.toArray.size) undef, defers := [] } := by
 obtain ⟨hl, hget⟩ := hx.get
 refine ⟨?_, fun t _ => ?_⟩
 ·simp_all
 ·show zF w S ρ (zt xs t) _
  by_cases ht : t < xs.length
  ·simp_all
  ·have : zt xs t = .junk := by simp [zt, List.getElem?_eq_none (Nat.not_lt.1 ht)]
   rw [this]
   exact .junk _
theorem Rc {P : Program} {E : Env} {r : Option Nat} {n : Nat} (hO : zE P E.G) (hY : yD P E) {id : Nat} {ops : Array Oper} {σ : zo} {a : Act} {w : World} {k : zo → Prop} {Q : Exit → Act → World → Prop} (hm : P.follows .mixedOrders = true) (hv : W6 P E.G ops.toList σ k) (hst : St E σ a w)
  (hK : ∀ σ' a' w', k σ' → St E σ' a' w' → Q .normal a' w') : (Code.region id ops true).wpIn (FW r) n P Q a w := by
 unfold W6 at hv
 split at hv
 ·rename_i hc
  simp only [Bool.and_eq_true] at hc
  unfold S5 at hv
  rw [VZ] at hv
  obtain ⟨s, h1, h2⟩ := SI (List.all_eq_true.1 hc.1.1.2) _ _ _ hv
  rw [VZ] at h2
  refine TO hO hY hm h2 hst fun s' a' w' hs hst' => ?_
  rw [OX, zv] at hs
  cases hb : js (Vf s s' (ops.toList.filterMap (·.dst))) E.G.nb0 s s' with
  | true => exact hK _ _ _ h1 (HJ hb hst')
  | false => exact (hs.2 hb).elim
 ·rw [VZ] at hv
  exact TO hO hY hm hv hst hK
theorem MS {E : Env} {c : Bool} {k : zo → Prop} {σ' : zo} {a : Act} {w : World} (hk : oe c k σ') (hst : St E σ' a w) : ∃ σ2, k σ2 ∧ St E σ2 a w := by
 cases c with
 | true => exact ⟨σ', (Pk k σ').mp hk, hst⟩
 | false =>
  obtain ⟨S, ρ, hM, hF, hD⟩ := hst
  refine ⟨_, hk, S, ρ, hM, ⟨hF.1, fun t ht => ?_⟩, hD⟩
  show zF _ S ρ (zt ((List.range σ'.n).map σ'.tm) t) _
  have : zt ((List.range σ'.n).map σ'.tm) t = σ'.tm t := by
   unfold zt
   rw [List.getElem?_map, List.getElem?_range ht]
   rfl
  rw [this]
  exact hF.2 t ht
theorem pK (hm : P.follows .mixedOrders = true) {rec : Code → Z9 → VC} (hmono : ∀ c an, WL P (rec c an)) (hrec : ∀ c an, Vl P (rec c an) c) : ∀ (c : Code) (an : Z9), Vl P (Zv P rec c an) c := by
 intro c
 induction c with
 | skip => intro an E σ a w kn ke kr Q r n hO hY hE hv hst h1 h2 h3; exact wpIn_skip (h1 _ _ _ hv hst)
 | region id ops draw =>
  intro an E σ a w kn ke kr Q r n hO hY hE hv hst h1 h2 h3
  cases draw with
  | true =>
   exact Rc hO hY hm hv hst h1
  | false =>
   simp only [Zv, VZ] at hv
   exact ru hO hY hv hst h1
 | seq x y ihx ihy =>
  intro an E σ a w kn ke kr Q r n hO hY hE hv hst h1 h2 h3
  simp only [Zv] at hv
  refine wpIn_seq ?_
  have plain : ∀ a1 a2, Zv P rec x a1 E.G σ (fun σ' => Zv P rec y a2 E.G σ' kn ke kr) ke kr → x.wpIn (FW r) n P (Exit.then (y.wpIn (FW r) n P Q) Q) a w := fun a1 a2 hv =>
   ihx a1 E σ a w _ _ _ _ r n hO hY hE hv hst (fun σ' a' w' hv' hst' => ihy a2 E _ _ _ _ _ _ _ r n hO hY hE hv' hst' h1 h2 h3) h2 h3
  split at hv
  ·rename_i α vars blks extra pre a1 a2
   refine ihx a1 E σ a w _ _ _ _ r n hO hY hE hv.1 hst (fun σ' a' w' hv' hst' => ?_) h2 h3
   obtain ⟨z, hz⟩ := hv'
   obtain ⟨hp, hst2⟩ := xM hz hst'
   exact ihy a2 E _ _ _ _ _ _ _ r n hO hY hE (hv.2 z hp) hst2 h1 h2 h3
  ·rename_i t a1 a2
   split at hv
   ·rename_i u hu
    have hc : a.eval (.tmp t) = .bool u := by
     obtain ⟨S, ρ, hM, hF, hD⟩ := hst
     have := hF.ev (.tmp t)
     rw [hu] at this
     exact ZW this
    cases u with
    | true => exact ihx a1 E _ a w _ _ _ _ r n hO hY hE hv (XH hst hc) (fun σ' a' w' hv' hst' => ihy a2 E _ _ _ _ _ _ _ r n hO hY hE hv' hst' h1 h2 h3) h2 h3
    | false => exact ihx a1 E _ a w _ _ _ _ r n hO hY hE hv (XH hst hc) (fun σ' a' w' hv' hst' => ihy a2 E _ _ _ _ _ _ _ r n hO hY hE hv' hst' h1 h2 h3) h2 h3
   ·exact hv.elim
  ·exact plain _ _ hv
 | cond c x y ihx ihy =>
  intro an E σ a w kn ke kr Q r n hO hY hE hv hst h1 h2 h3
  simp only [Zv] at hv
  have go : ∀ t, a.eval c = .bool t → zY t (Zv P rec x an.left E.G (σ.known c true) kn ke kr) (Zv P rec y an.right E.G (σ.known c false) kn ke kr) → (Code.cond c x y).wpIn (FW r) n P Q a w := fun t hc hv => by
   rw [zv] at hv
   refine wpIn_cond_split hc (fun ht => ?_) fun ht => ?_
   ·subst ht; exact ihx _ E _ _ _ _ _ _ _ r n hO hY hE (hv.1 rfl) (XH hst hc) h1 h2 h3
   ·subst ht; exact ihy _ E _ _ _ _ _ _ _ r n hO hY hE (hv.2 rfl) (XH hst hc) h1 h2 h3
  split at hv
  ·rename_i t he
   refine go t ?_ hv
   obtain ⟨S, ρ, _, hF, _⟩ := hst
   have := hF.ev c
   rw [he] at this
   exact ZW this
  ·rename_i p z he
   rw [qx] at hv
   obtain ⟨S, ρ, hM, hF, hD⟩ := hst
   have := hF.ev c
   rw [he] at this
   cases hc : a.eval c <;> rw [hc] at this <;> cases this
   rename_i t hz
   by_cases e : t = p
   ·subst e; exact go t hc (hv.1 (hz rfl))
   ·have : t = !p := by cases t <;> cases p <;> simp_all
    subst this; exact go _ hc hv.2
  ·rename_i g t he
   refine go t ?_ hv.2
   obtain ⟨S, ρ, _, hF, _⟩ := hst
   have := hF.ev c
   rw [he] at this
   cases this with
   | gd v hg _ => exact ZW (hg hv.1)
  ·exact hv.elim
 | block id x ih =>
  intro an E σ a w kn ke kr Q r n hO hY hE hv hst h1 h2 h3
  simp only [Zv] at hv
  refine wpIn_block (ih _ E _ _ _ _ _ _ _ r n hO hY hE hv hst h1 (fun i σ' a' w' hk hst' => ?_) h3)
  show if i = id then Q .normal a' w' else Q (.exit i) a' w'
  rcases Xz i id with ⟨e, e'⟩ | ⟨e, e'⟩
  ·rw [e] at hk; rw [if_pos e']; exact h1 _ _ _ hk hst'
  ·rw [e] at hk; rw [if_neg e']; exact h2 _ _ _ _ hk hst'
 | loop x ih =>
  intro an E σ a w kn ke kr Q r n hO hY hE hv hst h1 h2 h3
  simp only [Zv] at hv
  have roll : ∀ a' m σ a w, rounds E.G.conc (fun σ kn => Zv P rec x a' E.G σ kn ke kr) m σ → St E σ a w → Code.roundsIn (FW r) n P x Q m a w := by
   intro a' m
   induction m with
   | zero => intro σ a w h; exact h.elim
   | succ m ihm =>
    intro σ a w h hst
    rw [roundsIn_succ]
    refine ih a' E _ _ _ _ _ _ _ r n hO hY hE h hst (fun σ' a' w' hk hst' => ?_) h2 h3
    obtain ⟨σ2, h4, h5⟩ := MS hk hst'
    exact ihm _ _ _ h4 h5
  split at hv
  ·exact wpIn_loop_rounds _ (roll _ _ _ _ _ hv hst)
  ·exact wpIn_loop_rounds _ (roll _ _ _ _ _ hv hst)
  ·rename_i α vars blks extra pre μ an'
   obtain ⟨⟨z, hz⟩, hbody⟩ := hv
   obtain ⟨hp, hst0⟩ := xM hz hst
   have key : ∀ m z a w, μ σ z < m → pre σ z → St E (Wa σ.n (σ.nb + extra) (vars σ z) (LU (blks σ z) σ.bl)) a w → Code.roundsIn (FW r) n P x Q m a w := by
    intro m
    induction m with
    | zero => intro z a w h; omega
    | succ m ihm =>
     intro z a w hlt hp hst
     rw [roundsIn_succ]
     refine ih an' E _ _ _ _ _ _ _ r n hO hY hE (hbody z hp) hst (fun σ' a' w' hk hst' => ?_) h2 h3
     obtain ⟨z', hz'⟩ := hk
     obtain ⟨⟨hp', hlt'⟩, hst2⟩ := xM hz' hst'
     exact ihm z' a' w' (by omega) hp' hst2
   exact wpIn_loop_rounds (μ σ z + 1) (key _ z a w (Nat.lt_succ_self _) hp hst0)
  ·rename_i a1 N α vars blks extra pre μ an'
   refine wpIn_loop_rounds (N + 1) ?_
   rw [roundsIn_succ]
   refine ih a1 E _ _ _ _ _ _ _ r n hO hY hE hv hst (fun σ1 b1 w1 hk hst1 => ?_) h2 h3
   obtain ⟨⟨z, hz⟩, hbody⟩ := hk
   obtain ⟨⟨hp, hlt⟩, hst0⟩ := xM hz hst1
   have key : ∀ m z a w, μ σ1 z < m → pre σ1 z → St E (Wa σ1.n (σ1.nb + extra) (vars σ1 z) (LU (blks σ1 z) σ1.bl)) a w → Code.roundsIn (FW r) n P x Q m a w := by
    intro m
    induction m with
    | zero => intro z a w h; omega
    | succ m ihm =>
     intro z a w hlt hp hst
     rw [roundsIn_succ]
     refine ih an' E _ _ _ _ _ _ _ r n hO hY hE (hbody z hp) hst (fun σ' a' w' hk hst' => ?_) h2 h3
     obtain ⟨z', hz'⟩ := hk
     obtain ⟨⟨hp', hlt'⟩, hst2⟩ := xM hz' hst'
     exact ihm z' a' w' (by omega) hp' hst2
   exact key _ z b1 w1 hlt hp hst0
  ·exact hv.elim
 | rangeFunc g ps asg bd ihas ihbd =>
  intro an E σ a w kn ke kr Q r n hO hY hE hv hst h1 h2 h3
  simp only [Zv] at hv
  split at hv
  ·rename_i gf first nc cap he
   split at hv
   ·rename_i fn hfn
    split at hv
    ·rename_i c hc
     split at hv
     ·rename_i hcond
      simp only [Bool.and_eq_true, Bool.not_eq_true'] at hcond
      obtain ⟨⟨⟨hlen, hname⟩, henc⟩, hres⟩ := hcond
      obtain ⟨S, ρ, hM, hF, hD⟩ := hst
      have hg := hF.ev g
      rw [he] at hg
      obtain ⟨pv, hpv⟩ : ∃ pv, a.eval g = pv := ⟨_, rfl⟩
      rw [hpv] at hg
      cases hg with
      | fn vs us hn hmm hr hs =>
      obtain rfl : vs = #[] := Array.eq_empty_of_size_eq_zero hn
      refine wpIn_rangeFunc fun fn' _ => ?_
      obtain ⟨l, mark, w1, S1, rc, g1, g2, g3, g4, g5, g6, g7, g8, g9⟩ := qO hE henc hM hD fn' ps asg bd
      have eg := Go.Proofs.enters_of hfn hname hc
      refine ⟨l, mark, w1, { target := .fn (.func gf) us, args := #[.func (.yield l) #[] #[]] }, w1, gf, #[.func (.yield l) #[] #[]] ++ us, w1, g1, ?_, fun f' hf' => trivial, ?_, ?_, ?_⟩
      ·simp only [resolve, hpv]
       simp [go_sem]
      ·simp [invoke, go_sem]
       exact eg _ _
      ·intro hd; cases hd
      have hρ1 : upd ρ σ.nb (.lrec l rc) σ.nb = .lrec l rc := upd_same _ _ _
      have hF1 : Yq w1 S1 (upd ρ σ.nb (.lrec l rc)) σ.n σ.tm a := hF.mono g7 g8
      have hargs := Nl (w := w1) (S := S1) (p := σ.nb) (cap := cap) hρ1 hmm fun i hi => (hs i hi).mono g7 g8
      have hlen' : (AV.yl σ.nb :: (List.range nc).map cap).length ≤ fn.ntmps := by
       have := Nat.le_of_ble_eq_true hlen
       simpa using this
      have e2 : ((Value.func (.yield l) #[] #[] :: us.toList).toArray) = #[.func (.yield l) #[] #[]] ++ us := by
       apply Array.ext'; simp
      have hfr := Ox hargs hlen'
      rw [e2] at hfr
      refine X5.2 (X5.1 (callsIn_of_wp_marks (F := FW none) (n := 0) hfn hc trivial ?_))
      have hyt := Ms (ihas an.asgn) (ihbd an.body) hO (n := σ.n) (tm := σ.tm) hρ1 g2 g3 (by rw [g4]; exact hF1.1) (fun t ht => by rw [g4]; exact hF1.2 t ht) fun q T hq => (hY.at_ q T hq).later ((hY.ext hM).trans ⟨g7, g8⟩)
      refine hrec c an.iter (oY w1 S1 (upd ρ σ.nb (.lrec l rc)) _) _ _ _ _ _ _ _ none _ (Sq (uO hmono _ _) (uO hmono _ _) hO) ⟨g6.inner_base, g6.hi, fun q T hq => ?_⟩ rfl hv
       ⟨S1, _, g6.inner rfl rfl, hfr, ⟨List.Pairwise.nil, fun d hd => (by cases hd)⟩⟩ (fun σr a' w' hk hst' => ?_) (fun i σr a' w' hk _ => hk.elim) fun σr a' w' hk hst' => ?_
      ·change (bif Nat.beq q σ.nb then _ else none) = some T at hq
       cases hb : Nat.beq q σ.nb with
       | true =>
        rw [hb] at hq
        obtain rfl := Nat.eq_of_beq_eq_true hb
        cases hq
        rw [g5] at hyt
        exact hyt
       | false => rw [hb] at hq; cases hq
      all_goals
       have hlt : σ.nb < σr.nb := by
        obtain ⟨S', ρ', hM', _, _⟩ := hst'
        exact hM'.nbz
       refine UC g6 rfl hst' fun w2 S2 ρ2 m1 m2 m3 m4 m5 => ⟨_, xK (g := fun _ => undef) (fun x hx => ?_), QE hk m1 hlt hρ1 (m4 _ (Nat.lt_succ_self _)) m2 m3 ⟨hF1.1, hF1.2⟩ g9 h1 h2 h3⟩
       rw [Array.isEmpty_iff.1 hres] at hx
       cases hx
     ·exact hv.elim
    ·exact hv.elim
   ·exact hv.elim
  ·exact hv.elim
 | exit id => intro an E σ a w kn ke kr Q r n hO hY hE hv hst h1 h2 h3; exact wpIn_exit (h2 _ _ _ _ hv hst)
 | ret => intro an E σ a w kn ke kr Q r n hO hY hE hv hst h1 h2 h3; exact wpIn_ret (h3 _ _ _ hv hst)
 | _ => intro an E σ a w kn ke kr Q r n hO hY hE hv; exact hv.elim
theorem Wc (hm : P.follows .mixedOrders = true) : ∀ (n : Nat) (c : Code) (an : Z9), Vl P (iA P n c an) c
 | 0, _, _ => fun _ _ _ _ _ _ _ _ _ _ _ _ _ hv => hv.elim
 | n + 1, c, an => pK hm (VH n) (Wc hm n) c an
end
end Go.Sx
