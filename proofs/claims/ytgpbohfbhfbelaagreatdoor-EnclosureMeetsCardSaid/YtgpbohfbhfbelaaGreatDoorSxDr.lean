/- The tape is never asked backwards: the count of draws never goes down. -/
import Derived.Calls
set_option linter.unusedSimpArgs false
set_option linter.unusedVariables false
namespace Go.Sx
open Go
set_option maxRecDepth 10000
theorem Pp {α : Type} : ∀ (k : Ask α) (w : World), w.drawn ≤ (w.ask k).2.drawn
 | .done a, w => Nat.le_refl _
 | .ask what range k, w => by
  unfold World.ask
  simp only
  split
  ·exact Pp (k 0) w
  ·exact Nat.le_trans (Nat.le_succ _) (Pp (k _) { w with drawn := w.drawn + 1 })
theorem my (w : World) (c : Sys) : w.drawn ≤ (w.sys c).2.drawn := by
 unfold World.sys
 have := Pp (Kernel.perform c w.os) w
 split
 ·exact Nat.le_refl _
 ·rename_i e
  rw [e] at this
  exact this
theorem SO (w : World) (a : Addr) (n : Nat) : (w.freeze a n).drawn = w.drawn := by
 unfold World.freeze
 split <;> rfl
theorem Rh {p : Program} {w : World} {t : Addr} {u : TypeId} {k : Addr} {v : Value} {at_ : Bool} {r : World × List Addr} (h : w.viewStore p t u k v at_ = .ok r) : r.1.drawn = w.drawn := by
 unfold World.viewStore at h
 simp only [bind, Except.bind, pure, Except.pure, throw, throwThe, MonadExceptOf.throw] at h
 repeat' (split at h <;> try cases h)
 all_goals first | rfl | cases h
theorem UX {p : Program} {w : World} {a : Addr} {v : Value} {at_ : Bool} {r : World × List Addr} (h : w.farStore p a v at_ = .ok r) : r.1.drawn = w.drawn := by
 unfold World.farStore at h
 split at h
 ·split at h
  ·rename_i e
   cases h
   exact Rh e
  ·cases h
 ·cases h
def rD {α : Type} (d : Nat) : Result α → Prop
 | .ok _ w => d ≤ w.drawn
 | .halt _ w => d ≤ w.drawn
theorem Pm {α : Type} (p : Program) (s : Sem α) : ∀ (w : World) {d : Nat}, d ≤ w.drawn → rD d (s.run p w) := by
 induction s with
 | pure a => intro w d h; exact h
 | load m a k ih =>
  intro w d h
  simp only [Sem.run]
  split
  ·exact ih _ _ h
  ·split
   ·exact ih _ _ h
   ·exact h
 | store m a v k ih =>
  intro w d h
  have key : rD d (match w.cell? a with
    | some _ => if w.frozen? a then .halt (.unsupported (.unsafePointer "a write to bytes that a string shares")) w else k.run p (w.setCell a v)
    | none => match w.farStore p a v (m == .atomic) with
     | .ok (w, _) => k.run p w
     | .error h => .halt h w) := by
   split
   ·split
    ·exact h
    ·exact ih _ h
   ·split
    ·rename_i e
     exact ih _ (Nat.le_trans h (Nat.le_of_eq (UX e).symm))
    ·exact h
  cases v <;> first | exact key | exact h
 | new o k ih => intro w d h; exact ih _ _ h
 | shape r k ih => intro w d h; exact ih _ _ h
 | freeze a n k ih => intro w d h; exact ih _ (by rw [SO]; exact h)
 | frozen a k ih => intro w d h; exact ih _ _ h
 | getObj r k ih =>
  intro w d h
  simp only [Sem.run]
  split
  ·exact h
  ·exact ih _ _ h
  ·exact h
 | setObj r o k ih =>
  intro w d h
  simp only [Sem.run]
  split
  ·exact h
  ·exact ih _ h
  ·exact h
 | choose q k ih =>
  intro w d h
  simp only [Sem.run]
  split
  ·exact ih _ _ h
  ·exact ih _ _ (Nat.le_succ_of_le h)
 | sys c k ih => intro w d h; exact ih _ _ (Nat.le_trans h (my w c))
 | program k ih => intro w d h; exact ih _ _ h
 | mark m k ih => intro w d h; exact ih _ h
 | halt x => intro w d h; exact h
theorem xO {α : Type} (p : Program) (s : Sem α) : ∀ (w : World) (es : Array Event) {d : Nat}, d ≤ w.drawn → rD d (s.runT p w es).1 := by
 induction s with
 | pure a => intro w es d h; exact h
 | load m a k ih =>
  intro w es d h
  simp only [Sem.runT]
  split
  ·exact ih _ _ _ h
  ·split
   ·exact ih _ _ _ h
   ·exact h
 | store m a v k ih =>
  intro w es d h
  have key : rD d (show Result α × Array Event from match w.cell? a with
    | some _ =>
     if w.frozen? a then (.halt (.unsupported (.unsafePointer "a write to bytes that a string shares")) w, es)
     else k.runT p (w.setCell a v) (es.push ⟨.cell a, true, m == .atomic⟩)
    | none => match w.farStore p a v (m == .atomic) with
     | .ok (w, touched) => k.runT p w (es ++ touched.toArray.map (⟨.cell ·, true, m == .atomic⟩))
     | .error h => (.halt h w, es)).1 := by
   split
   ·split
    ·exact h
    ·exact ih _ _ h
   ·split
    ·rename_i e
     exact ih _ _ (Nat.le_trans h (Nat.le_of_eq (UX e).symm))
    ·exact h
  cases v <;> first | exact key | exact h
 | new o k ih => intro w es d h; exact ih _ _ _ h
 | shape r k ih => intro w es d h; exact ih _ _ _ h
 | freeze a n k ih => intro w es d h; exact ih _ _ (by rw [SO]; exact h)
 | frozen a k ih => intro w es d h; exact ih _ _ _ h
 | getObj r k ih =>
  intro w es d h
  simp only [Sem.runT]
  split
  ·exact h
  ·exact ih _ _ _ h
  ·exact h
 | setObj r o k ih =>
  intro w es d h
  simp only [Sem.runT]
  split
  ·exact h
  ·exact ih _ _ h
  ·exact h
 | choose q k ih =>
  intro w es d h
  simp only [Sem.runT]
  split
  ·exact ih _ _ _ h
  ·exact ih _ _ _ (Nat.le_succ_of_le h)
 | sys c k ih => intro w es d h; exact ih _ _ _ (Nat.le_trans h (my w c))
 | program k ih => intro w es d h; exact ih _ _ _ h
 | mark m k ih => intro w es d h; exact ih _ _ h
 | halt x => intro w es d h; exact h
theorem Yy {α : Type} {p : Program} {s : Sem α} {w w' : World} {a : α} (h : s.run p w = .ok a w') : w.drawn ≤ w'.drawn := by
 have := Pm p s w (Nat.le_refl _)
 rw [h] at this
 exact this
theorem run_halt {α : Type} {p : Program} {s : Sem α} {w w' : World} {a : Halt} (h : s.run p w = .halt a w') : w.drawn ≤ w'.drawn := by
 have := Pm p s w (Nat.le_refl _)
 rw [h] at this
 exact this
theorem kU {α : Type} {p : Program} {s : Sem α} {w w' : World} {a : α} {es es' : Array Event} (h : s.runT p w es = (.ok a w', es')) : w.drawn ≤ w'.drawn := by
 have := xO p s w es (Nat.le_refl _)
 rw [h] at this
 exact this
theorem nN {α : Type} {p : Program} {s : Sem α} {w w' : World} {a : Halt} {es es' : Array Event} (h : s.runT p w es = (.halt a w', es')) : w.drawn ≤ w'.drawn := by
 have := xO p s w es (Nat.le_refl _)
 rw [h] at this
 exact this
def Uf (d : Nat) : GStep → Prop
 | .go _ w _ => d ≤ w.drawn
 | .comm _ _ _ _ w _ => d ≤ w.drawn
 | .spawn _ _ w _ => d ≤ w.drawn
 | .count _ w _ => d ≤ w.drawn
 | .timer _ _ w _ => d ≤ w.drawn
 | .alone _ _ w _ => d ≤ w.drawn
 | .newcoro _ _ _ w _ => d ≤ w.drawn
 | .coroswitch _ _ _ w _ => d ≤ w.drawn
 | .collect _ w _ => d ≤ w.drawn
 | .watch _ w _ => d ≤ w.drawn
 | .ended _ _ _ => True
theorem YJ {d : Nat} {es : Array Event} {s : GStep} : Uf d (GStep.after es s) ↔ Uf d s := by
 cases s <;> exact Iff.rfl
theorem WG {d : Nat} {p : Program} {main : Bool} {fr : Frame} {cs : List Frame} {dy : Option Dying} {v : Value} {w : World} (h : d ≤ w.drawn) : Uf d (doReturn p main fr cs dy v w) := by
 unfold doReturn
 repeat' split
 all_goals first | exact h | trivial
theorem Wm {d : Nat} {fr : Frame} {m : String} {w : World} (h : d ≤ w.drawn) : Uf d (endThrow fr m w) := h
theorem WT {d : Nat} {p : Program} {fr : Frame} {v : Value} {w : World} (h : d ≤ w.drawn) : Uf d (endPrinting p fr v w) := by
 unfold endPrinting
 simp only
 split
 ·exact h
 ·trivial
theorem US {d : Nat} {p : Program} {fr : Frame} {cs : List Frame} {dy : Option Dying} {m : String} {w : World} (h : d ≤ w.drawn) : Uf d (endFatal p fr cs dy m w) := by
 unfold endFatal
 simp only
 split
 ·rename_i e
  exact Nat.le_trans h (Yy e)
 ·trivial
 ·trivial
theorem Yn {d : Nat} {c : Prop} [Decidable c] {a b : GStep} (h1 : Uf d a) (h2 : Uf d b) : Uf d (if c then a else b) := by split <;> assumption
theorem Uo {d : Nat} {p : Program} {fr : Frame} {cs : List Frame} {dy : Option Dying} {de : Deferred} {w : World} (h : d ≤ w.drawn) : Uf d (callDeferred p fr cs dy de w) := by
 unfold callDeferred
 refine Yn trivial ?_
 have hr := xO p (invoke de.target de.args) w #[] h
 generalize (invoke de.target de.args).runT p w #[] = r at hr ⊢
 obtain ⟨r, es⟩ := r
 simp only [YJ]
 cases r with
 | ok a w' =>
  have hr : d ≤ w'.drawn := hr
  cases a with
  | alone on v => cases on <;> first | exact hr | trivial
  | coroswitch c b => cases b <;> first | exact hr | trivial
  | recover => dsimp only; split <;> exact hr
  | _ => first | exact hr | trivial
 | halt a w' =>
  have hr : d ≤ w'.drawn := hr
  cases a <;> first | exact hr | trivial | exact US hr | exact Wm hr
theorem Pr {d : Nat} {p : Program} {fr : Frame} {dy : Dying} {f : Fatal} {w : World} (h : d ≤ w.drawn) : Uf d (writeOn p fr dy f w) := by
 unfold writeOn
 simp only
 split
 ·trivial
 ·split
  ·rename_i e; exact Nat.le_trans h (kU e)
  ·rename_i e; exact Nat.le_trans h (nN e)
  ·trivial
  ·trivial
theorem Pu {d : Nat} {fd : Nat} {t : ByteArray} {o : Outcome} {w : World} : Uf d (endWith w fd t o) := by
 unfold endWith
 simp only
 repeat' split
 all_goals trivial
theorem Hq {d : Nat} {p : Program} {fr : Frame} {dy : Dying} {w : World} (h : d ≤ w.drawn) : Uf d (die p fr dy w) := by
 unfold die
 split
 ·exact Pr h
 ·split
  ·exact Yn h Pu
  ·simp only
   split
   ·exact h
   ·split
    ·rename_i e; exact Nat.le_trans h (Yy e)
    ·trivial
   ·rename_i t recv name _
    have hr := xO p (invoke (.fn (.method name) #[]) #[.iface t recv]) w #[] h
    generalize (invoke (.fn (.method name) #[]) #[.iface t recv]).runT p w #[] = r at hr ⊢
    obtain ⟨r, es⟩ := r
    simp only [YJ]
    repeat' split
    all_goals first | exact hr | trivial | exact WT hr
   ·trivial
theorem Ns {d : Nat} {p : Program} {main : Bool} {fr : Frame} {cs : List Frame} {dy : Option Dying} {w : World} (h : d ≤ w.drawn) : Uf d (unwind p main fr cs dy w) := by
 unfold unwind
 split
 ·rename_i block _ _ _
  have hr := xO p (Instr.takeDeferred block) w #[] h
  generalize (Instr.takeDeferred block).runT p w #[] = r at hr ⊢
  obtain ⟨r, es⟩ := r
  simp only [YJ]
  split
  ·exact hr
  ·trivial
 ·exact Uo h
 ·split
  ·trivial
  ·refine Yn trivial ?_
   split
   ·exact h
   ·split
    ·refine Yn h ?_
     split
     ·rename_i e; exact Nat.le_trans h (Yy e)
     ·trivial
     ·trivial
    ·split
     ·exact WT h
     ·trivial
  ·split
   ·exact WG h
   ·rename_i fn _
    have hr := xO p (results fn fr.tmps) w #[] h
    generalize (results fn fr.tmps).runT p w #[] = r at hr ⊢
    obtain ⟨r, es⟩ := r
    simp only [YJ]
    split
    ·exact WG hr
    ·trivial
    ·trivial
theorem lf {d : Nat} {p : Program} {fr : Frame} {cs : List Frame} {dy : Option Dying} {g : Nat} {w : World} (h : d ≤ w.drawn) : Uf d (early p fr cs dy g w) := by
 have ny : ∀ {w : World}, d ≤ w.drawn → Uf d (match w.heap[g]? with
   | some (.pending c elem) => .go { frame := fr, callers := cs, status := .running, dying := dy } { w with heap := w.heap.setIfInBounds g (.cells c elem) }
   | _ => .ended (.stuck "early: the variable does not wait" (fr.pos p)) w) := fun h => by
  split
  ·exact h
  ·trivial
 unfold early
 dsimp only
 refine Yn (ny h) ?_
 split
 ·trivial
 ·refine Yn (ny h) (Yn (ny h) ?_)
  split
  ·trivial
  ·exact h
  ·trivial
  ·exact ny h
  ·refine Yn h (Yn (ny h) ?_)
   split
   ·rename_i e; exact ny (Nat.le_trans h (Yy e))
   ·rename_i e; exact Nat.le_trans h (Yy e)
   ·trivial
theorem Wj {d : Nat} {p : Program} {listen : Bool} {fr : Frame} {cs : List Frame} {dy : Option Dying} {s : Sem Next} {w : World} (h : d ≤ w.drawn) : Uf d (stepG.apply p listen fr cs dy s w) := by
 unfold stepG.apply
 have hr : rD d (if listen then s.runT p w #[] else (s.run p w, #[])).1 := by
  split
  ·exact xO p s w #[] h
  ·exact Pm p s w h
 generalize (if listen then s.runT p w #[] else (s.run p w, #[])) = r at hr ⊢
 obtain ⟨r, es⟩ := r
 dsimp only
 rw [YJ]
 cases r with
 | ok a w' =>
  have hr : d ≤ w'.drawn := hr
  cases a <;> first | exact hr | trivial | ((try dsimp only); (repeat' split) <;> first | exact hr | trivial | exact Wm hr)
 | halt a w' =>
  have hr : d ≤ w'.drawn := hr
  cases a with
  | unsupported u => cases u <;> first | exact lf hr | trivial
  | _ => first | exact hr | trivial | exact US hr | exact Wm hr
theorem KM {d : Nat} {p : Program} {listen : Bool} {fr : Frame} {cs : List Frame} {dy : Option Dying} {w : World} (h : d ≤ w.drawn) : Uf d (stepG.oper p listen fr cs dy w) := by
 unfold stepG.oper
 split
 ·trivial
 ·split
  ·exact Wj h
  ·exact Wj h
theorem tI {α : Type} {d : Nat} {o : Option α} {a : GStep} {f : α → GStep} (h1 : Uf d a) (h2 : ∀ x, Uf d (f x)) : Uf d (o.elim a f) := by cases o with
 | none => exact h1
 | some x => exact h2 x
theorem jN {d : Nat} {p : Program} {main listen : Bool} {fr : Frame} {cs : List Frame} {dy : Option Dying} {w : World} (h : d ≤ w.drawn) : Uf d (stepG.exec p main listen fr cs dy w) := by
 have lv : ∀ (b : Bool) (jump : Option Code), Uf d (match fr.roundOf with
   | none => if b = true then .go { frame := { fr with mode := .returning }, callers := cs, status := .running, dying := dy } w else .ended (.stuck "exit, goto: no such block or label" (fr.pos p)) w
   | some l =>
    GStep.after (seen p fr.fn ((Instr.endRound l jump).runT p w #[]).snd) <| match ((Instr.endRound l jump).runT p w #[]).fst with
    | .ok v w => doReturn p main fr cs dy v w
    | .halt _ w => .ended (.stuck "range over a function: no such loop" (fr.pos p)) w) := fun b jump => by
  split
  ·exact Yn h trivial
  ·rename_i l _
   have hr := xO p (Instr.endRound l jump) w #[] h
   generalize (Instr.endRound l jump).runT p w #[] = r at hr ⊢
   obtain ⟨r, es⟩ := r
   rw [YJ]
   cases r with
   | ok a w' => exact WG hr
   | halt a w' => trivial
 unfold stepG.exec
 dsimp only
 split
 all_goals first | exact h | trivial | exact Wj h | exact lv true _ | skip
 ·split
  ·exact h
  ·trivial
 ·exact tI (lv false _) fun _ => h
 ·exact tI (lv false _) fun _ => h
 ·rename_i f params assign body k _
  have hr := xO p (Instr.enterLoop fr.fn fr.tmps params assign body fr.roundOf) w #[] h
  generalize (Instr.enterLoop fr.fn fr.tmps params assign body fr.roundOf).runT p w #[] = r at hr ⊢
  obtain ⟨r, es⟩ := r
  rw [YJ]
  cases r with
  | ok a w' =>
   obtain ⟨l, mark⟩ := a
   exact Wj hr
  | halt a w' => trivial
 ·rename_i l k _
  have hr := xO p (Instr.endLoop l) w #[] h
  generalize (Instr.endLoop l).runT p w #[] = r at hr ⊢
  obtain ⟨r, es⟩ := r
  rw [YJ]
  cases r with
  | ok a w' => exact hr
  | halt a w' => cases a <;> first | exact hr | trivial
 ·exact tI trivial fun _ => Wj h
 ·refine Yn h ?_
  split
  ·rename_i e; exact Nat.le_trans h (Yy e)
  ·trivial
 ·exact Yn (KM h) h
theorem mR {d : Nat} {p : Program} {main listen : Bool} {g : Goroutine} {w : World} (h : d ≤ w.drawn) : Uf d (stepG p main g w listen) := by
 unfold stepG
 dsimp only
 split
 ·exact Hq h
 ·exact jN h
 ·exact Ns h
def sD (d : Nat) : Stepped → Prop
 | .next m => d ≤ m.world.drawn
 | .ended _ _ => True
theorem HG {d : Nat} {c : Prop} [Decidable c] {a b : Stepped} (h1 : sD d a) (h2 : sD d b) : sD d (if c then a else b) := by split <;> assumption
def cD (d : Nat) (x : Stepped × Array MemOp) : Prop := sD d x.1
theorem pS {d : Nat} {c : Prop} [Decidable c] {a b : Stepped × Array MemOp} (h1 : cD d a) (h2 : cD d b) : cD d (if c then a else b) := by split <;> assumption
theorem oh {d : Nat} {p : Program} {gs : Array Goroutine} {rest : Rest} {w : World} (h : d ≤ w.drawn) : sD d (look p gs rest w) := by
 unfold look
 dsimp only
 split
 ·refine HG trivial ?_
  split
  ·trivial
  ·split
   ·rename_i e; have h2 := Nat.le_trans h (Yy e); exact h2
   ·trivial
   ·trivial
 ·trivial
theorem jD {rest : Rest} {cs : Array CommCase} {w w' : World} (h : waitingAt rest cs w = some w') : w'.drawn = w.drawn := by
 unfold waitingAt at h
 split at h
 ·split at h
  ·cases h; rfl
  ·cases h
 ·cases h; rfl
theorem tL {d : Nat} {p : Program} {rest : Rest} {gs : Array Goroutine} {i : Nat} {g : Goroutine} {cases_ : Array CommCase} {b : Bool} {sh : CommShape} {w : World} (h : d ≤ w.drawn) : cD d (communicate p rest gs i g cases_ b sh w) := by
 unfold communicate
 dsimp only
 refine pS trivial (pS (pS ?_ h) ?_)
 ·split
  ·rename_i e; exact Nat.le_trans h (Nat.le_of_eq (jD e).symm)
  ·trivial
 ·split
  ·trivial
  ·rename_i e
   have h := Nat.le_trans h (Yy e)
   split
   ·split
    ·rename_i e; exact Nat.le_trans h (run_halt e)
    ·trivial
   ·exact h
   ·exact h
   ·split
    ·exact h
    ·split
     ·rename_i e; have h2 := Nat.le_trans h (Yy e); exact h2
     ·trivial
   ·exact h
   ·exact h
   ·trivial
theorem lC (w : World) (c : Nat) : (drain w c).2.drawn = w.drawn := by
 unfold drain
 split <;> rfl
theorem sE (m : Machine) (k : Nat) (t : Timer) (x y : Nat) : (retime m k t x y).2.world.drawn = m.world.drawn := by
 unfold retime
 dsimp only
 split
 ·exact lC _ _
 ·rfl
theorem PZ {m m' : Machine} {op : TimerOp} {v : Value} (h : timerOp m op = .ok (v, m')) : m'.world.drawn = m.world.drawn := by
 have nm : ∀ {var : Addr} {f : Nat → Timer → Value × Machine} {w : World}, (∀ k t, (f k t).2.world.drawn = w.drawn) → timerOp.named m var f = .ok (v, m') → m'.world.drawn = w.drawn := fun hf h => by
  unfold timerOp.named at h
  split at h
  ·rename_i k _
   have := hf k (m.rest.timers.getD k default)
   rw [Except.ok.inj h] at this
   exact this
  ·cases h
 cases op with
 | new t =>
  simp only [timerOp] at h
  split at h
  ·cases h; rfl
  ·split at h
   ·split at h
    ·cases h
    ·cases h; rfl
   ·cases h
 | stop var =>
  exact nm (fun k t => sE _ _ _ _ _) h
 | reset var x y =>
  simp only [timerOp] at h
  split at h
  ·rename_i m2 e
   have e2 : m2.world.drawn = m.world.drawn := by
    unfold timerOp.opened at e
    split at e
    ·split at e
     ·cases e; rfl
     ·cases e
    ·cases e; rfl
   rw [← e2]
   exact nm (fun k t => sE _ _ _ _ _) h
  ·cases h
 | deadline c r w x =>
  simp only [timerOp] at h
  cases h; rfl
theorem mV {d : Nat} {p : Program} {m : Machine} {k : Nat} (h : d ≤ m.world.drawn) : sD d (serve p m k) := by
 unfold serve
 dsimp only
 split
 ·trivial
 ·exact h
 ·split
  ·trivial
  ·exact h
theorem Kt {d : Nat} {p : Program} {m : Machine} {i : Nat} {listen : Bool} (h : d ≤ m.world.drawn) : cD d (Go.runT p m i listen) := by
 unfold Go.runT
 dsimp only
 have hg := mR (p := p) (main := i == 0) (listen := listen) (g := (m.gs.swapAt! i { (default : Goroutine) with status := .finished }).1) h
 generalize stepG p (i == 0) (m.gs.swapAt! i { (default : Goroutine) with status := .finished }).1 m.world listen = s at hg ⊢
 cases s with
 | ended o w es => trivial
 | comm g cs b sh w es => exact tL (d := d) hg
 | go g w es => exact hg
 | spawn g c w es => exact hg
 | count g w es =>
  dsimp only
  split
  ·trivial
  ·exact hg
 | alone g on w es => exact hg
 | collect g w es => exact oh hg
 | watch g w es => exact hg
 | newcoro g c de w es => exact hg
 | coroswitch g c ex w es =>
  dsimp only
  split
  ·exact hg
  ·exact hg
  ·trivial
 | timer g op w es =>
  dsimp only
  split
  ·rename_i e; exact Nat.le_trans hg (Nat.le_of_eq (PZ e).symm)
  ·exact hg
  ·trivial
  ·trivial
def mD (d : Nat) : Move → Prop
 | .goroutine m _ => d ≤ m.world.drawn
 | .machine s _ => sD d s
theorem tk {d : Nat} {p : Program} {m : Machine} (h : d ≤ m.world.drawn) : mD d (askOn p m) := by
 have pk : ∀ {m : Machine} {n : Nat} {k : Nat → Nat}, d ≤ m.world.drawn → mD d (match (choose (.sched n)).run p m.world with
   | .halt _ w => .machine (.ended (.stuck "sched" "") w)
   | .ok j world =>
    if n ≤ 1 then .goroutine { m with world } (k j) else
    match (choose (.extern "sched.slice" 65536)).run p world with
    | .halt _ w => .machine (.ended (.stuck "sched.slice" "") w)
    | .ok x world => .goroutine { m with world, rest := { m.rest with slice := if x = 0 then none else some (k j, x) } } (k j)) := fun h => by
  split
  ·trivial
  ·rename_i e
   have h := Nat.le_trans h (Yy e)
   split
   ·exact h
   ·split
    ·trivial
    ·rename_i e
     have h := Nat.le_trans h (Yy e)
     exact h
 unfold askOn
 dsimp only
 split
 ·trivial
 ·rename_i e
  have h := Nat.le_trans h (Yy e)
  split
  ·exact mV (m := { m with world := _ }) h
  ·split
   ·split
    ·exact h
    ·split
     ·exact h
     ·split
      ·trivial
      ·trivial
   ·split
    ·exact pk (m := { m with world := _ }) h
    ·split
     ·trivial
     ·rename_i e
      have h := Nat.le_trans h (Yy e)
      exact pk (m := { m with world := _ }) h
     ·rename_i e
      have h := Nat.le_trans h (Yy e)
      exact h
     ·rename_i e
      have h := Nat.le_trans h (Yy e)
      exact pk (m := Machine.advanceTo { m with world := _ } _) h
theorem lM {d : Nat} {p : Program} {m : Machine} (h : d ≤ m.world.drawn) : mD d (ask p m) := by
 unfold ask
 split
 ·split
  ·trivial
  ·rename_i e
   have h := Nat.le_trans h (Yy e)
   have hl := oh (p := p) (gs := m.gs) (rest := m.rest) h
   split
   ·rename_i e2
    rw [e2] at hl
    exact tk hl
   ·exact hl
  ·rename_i e
   exact tk (Nat.le_trans h (Yy e))
 ·exact tk h
theorem jy {d : Nat} {p : Program} {m : Machine} (h : d ≤ m.world.drawn) : mD d (move p m) := by
 unfold move
 split
 ·split
  ·exact h
  ·trivial
 ·split
  ·split
   ·exact h
   ·exact lM h
  ·exact lM h
theorem jR {d : Nat} {p : Program} {m m' : Machine} (h : d ≤ m.world.drawn) (e : step p m = .next m') : d ≤ m'.world.drawn := by
 have hm := jy (p := p) h
 unfold step stepT at e
 generalize move p m = mv at hm e
 cases mv with
 | goroutine m i =>
  have := Kt (p := p) (i := i) (listen := true) hm
  unfold cD at this
  rw [show (Go.runT p m i true).1 = .next m' from e] at this
  exact this
 | machine s ops =>
  rw [show s = .next m' from e] at hm
  exact hm
theorem oI {d : Nat} {p : Program} : ∀ {n : Nat} {m m' : Machine}, d ≤ m.world.drawn → runN p n m = .next m' → d ≤ m'.world.drawn
 | 0, m, m', h, e => by cases e; exact h
 | n + 1, m, m', h, e => by
  unfold runN at e
  split at e
  ·rename_i m2 e2
   exact oI (jR h e2) e
  ·rename_i hne
   exact absurd e (hne _)
theorem Calls.drawn {P : Program} {f : FuncId} {args : Array Value} {w : World} {R : Ending → World → Prop} (hR : ∀ e w', R e w' → ∃ v, e = .returned v) (h : Calls P f args w R) : Calls P f args w fun e w' => R e w' ∧ w.drawn ≤ w'.drawn := fun cs => by
 obtain ⟨e, w', fr, hr, hc, h1, h2⟩ := h cs
 refine ⟨e, w', fr, ⟨hr, ?_⟩, hc, h1, h2⟩
 obtain ⟨v, rfl⟩ := hR _ _ hr
 obtain ⟨n, hn⟩ := hc
 exact oI (m := lone (Frame.enter P f args .normal) cs w) (Nat.le_refl _) hn
end Go.Sx
