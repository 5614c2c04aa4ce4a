/- That the model does what the symbolic operations say: slices, lengths, builtins; the master lemma. -/
import Derived.Test.YtgpbohfbhfbelaaGreatDoorSxD
import Derived.Laws.DeepStrings4
import Derived.Laws.BytesString
set_option linter.unusedSimpArgs false
set_option linter.unusedVariables false
namespace Go.Sx
open Go Go.RowKit
section
variable {P : Program} {E : Env} {nb : Nat} {bl : Nat → OB} {S : Nat → Prop} {ρ : Nat → Own} {w : World}
def nJ (w : World) (S : Nat → Prop) (ρ : Nat → Own) (x : Option AV) (v : Option Value) : Prop :=
 match x, v with
 | none, none => True
 | some x, some y => zF w S ρ x y
 | _, _ => False
theorem Zn {x : Option AV} {v : Option Value} (h : Xp x = some none) (hr : nJ w S ρ x v) : v = none := by
 cases x with
 | none => cases v with
  | none => rfl
  | some y => exact hr.elim
 | some x => cases x with
  | v z => cases z <;> simp [Xp] at h
  | _ => simp [Xp] at h
theorem Zh {x : Option AV} {v : Option Value} {n : Int} (h : Xp x = some (some n)) (hr : nJ w S ρ x v) : ∃ k, v = some (.int k n) := by
 cases x with
 | none => simp [Xp] at h
 | some x => cases v with
  | none => exact hr.elim
  | some y =>
   cases x with
   | v z =>
    cases z with
    | int k m =>
     simp only [Xp, Option.some.injEq] at h
     subst h
     exact ⟨k, by rw [ZW hr]⟩
    | _ => simp [Xp] at h
   | _ => simp [Xp] at h
theorem rB {full full' : Bool} {sz len : Nat} {els : Nat → Nat → AV} {o : Option Addr} {c cap : Nat} {l h m : Nat} (hx : zF w S ρ (.xl full sz len els) (.slice o c cap))
  (hl : l ≤ h) (hh : h ≤ len) (hm : h ≤ m) (hmc : m ≤ cap) (hf : full' = true → m = h) :
  zF w S ρ (.xl full' sz (h - l) fun i j => els (l + i) j) (sliced o l h m sz) := by
 cases hx with
 | xl _ _ cvs hle hmx hfu hc hr =>
  refine .xl _ _ (fun i j => cvs (l + i) j) (by omega) (by omega) (fun e => by rw [hf e]) (fun i j hi hj => ?_) (fun i j hi hj => hr _ _ (by omega) hj)
  obtain ⟨A, e, hs, hcell, ho⟩ := hc (l + i) j (by omega) hj
  refine ⟨A.add (l * sz), ?_, by rw [yS]; exact hs, ?_, ho⟩
  ·grind
  ·rw [wN, ← hcell, Nat.add_mul, Nat.add_assoc]
theorem pM {k off len : Nat} {t : TypeId} {sz L c cap : Nat} {els : Nat → Nat → AV} {o : Option Addr} {l h : Nat} (hM : Mem E nb bl S ρ w) (hB : bl k = .arr t sz L els)
  (hx : zF w S ρ (.ns k off len) (.slice o c cap)) (hl : l ≤ h) (hh : h ≤ len) : len = c ∧ len ≤ cap ∧ zF w S ρ (.ns k (off + l) (h - l)) (sliced o l h cap sz) := by
 have hbk := hM.at k
 cases hx with
 | ns g base cap' sz' L' hk hl' hcap =>
  have hbk := hbk.resolve_left (by rw [hk]; simp)
  rw [hB, hk] at hbk
  obtain ⟨e1, e2, _⟩ := hbk
  subst e1; subst e2
  refine ⟨rfl, by omega, ?_⟩
  unfold sliced
  by_cases he : cap' - off = l
  ·rw [if_pos he]
   have e0 : h - l = 0 := by omega
   have e1 : cap' - off - l = 0 := by omega
   rw [e0, e1]
   exact .ns0 g base cap' sz' L' _ hk (by omega) hcap (by omega)
  ·rw [if_neg he]
   have e1 : cap' - off - l = cap' - (off + l) := by omega
   rw [e1]
   have := zF.ns (w := w) (S := S) (ρ := ρ) (k := k) (off := off + l) (len := h - l) g base cap' sz' L' hk (by omega) hcap
   simp only [Option.map_some, add_lit]
   grind
 | ns0 g base cap' sz' L' A hk hl' hcap h0 =>
  have el : l = 0 := by omega
  have eh : h = 0 := by omega
  subst el; subst eh
  refine ⟨rfl, by omega, ?_⟩
  simp only [sliced, if_true, Nat.sub_self, Nat.add_zero]
  exact .ns0 g base cap' sz' L' _ hk hl' hcap h0
 | nsn sz' o' hk =>
  have el : l = 0 := by omega
  have eh : h = 0 := by omega
  subst el; subst eh
  refine ⟨rfl, by omega, ?_⟩
  simp only [sliced, if_true, Nat.sub_self, Nat.add_zero]
  exact .nsn sz' _ hk
 | dns hd hsh => exact (hM.arr (by rw [hB]; rfl) hd).elim
theorem Vk {k off len : Nat} {a : Value} (hM : Mem E nb bl S ρ w) (hB : qy (bl k) = true) (hx : zF w S ρ (.ns k off len) a) : ∃ o c, a = .slice o len c := by
 cases hx with
 | ns => simp
 | ns0 => simp
 | nsn => simp
 | dns hd hsh => exact (hM.arr hB hd).elim
theorem Wv {full : Bool} {sz len : Nat} {els : Nat → Nat → AV} {a : Value} (hx : zF w S ρ (.xl full sz len els) a) :
  ∃ o c, a = .slice o len c ∧ len ≤ c ∧ c ≤ maxLen := by
 cases hx with
 | xl o cap _ h1 h2 => exact ⟨o, cap, rfl, h1, h2⟩
theorem wD {t e : TypeId} (h : P.underlying t = some (.slice e)) : P.underlying t = some (.slice (P.elem t)) ∧ P.elem t = e := by
 have : P.elem t = e := by unfold Program.elem; rw [h]
 simp_all
theorem XU {e : TypeId} {sz : Nat} (h : P.cellsOf e = sz ∧ (P.info? e).isSome) : (sizeOf e).run P w = .ok sz w := by
 obtain ⟨i, hi⟩ := Option.isSome_iff_exists.1 h.2
 rw [run_sizeOf w hi, h.1]
theorem Q8 {l : List UInt8} {a b : Nat} : (⟨l.toArray⟩ : ByteArray).extract a b = ⟨((l.drop a).take (b - a)).toArray⟩ := by
 rw [Lib.extract_eq]
theorem TE {t : TypeId} {x r : AV} {lo hi mx : Option AV} {a : Value} {lo' hi' mx' : Option Value} {ps : List zn} (hM : Mem E nb bl S ρ w)
  (h : WB P bl t x lo hi mx = some (ps, r)) (hp : ∀ p ∈ ps, p.holds) (hx : zF w S ρ x a) (h1 : nJ w S ρ lo lo') (h2 : nJ w S ρ hi hi') (h3 : nJ w S ρ mx mx') :
  ∃ v, (Instr.sliceAt t a lo' hi' mx').run P w = .ok v w ∧ zF w S ρ r v := by
 unfold WB at h
 split at h
 ·-- string, [:h]
  rename_i l h' hu e1 e2 e3
  cases h
  have hb := cd (hp _ (List.mem_cons_self ..))
  obtain rfl := Z4 hx
  obtain rfl := Zn e1 h1
  obtain ⟨k, rfl⟩ := Zh e2 h2
  obtain rfl := Zn e3 h3
  refine ⟨_, ?_, .str _⟩
  rw [run_sliceAt_string w t _ _ _ _ hu, run_slice_string_h (P := P) w t _ hu k h' hb.1 (by rw [Lib.size_eq]; simpa using hb.2), Q8]
  simp
 ·rename_i l a' hu e1 e2 e3
  cases h
  have hb := cd (hp _ (List.mem_cons_self ..))
  obtain rfl := Z4 hx
  obtain ⟨k, rfl⟩ := Zh e1 h1
  obtain rfl := Zn e2 h2
  obtain rfl := Zn e3 h3
  refine ⟨_, ?_, .str _⟩
  rw [run_sliceAt_string w t _ _ _ _ hu, run_slice_string_l (P := P) w t _ hu k a' hb.1 (by rw [Lib.size_eq]; simpa using hb.2), Q8]
  congr 4
  rw [Lib.size_eq]
  simp [List.take_of_length_le]
 ·rename_i l a' h' hu e1 e2 e3
  cases h
  have hb := cd (hp _ (List.mem_cons_self ..))
  obtain rfl := Z4 hx
  obtain ⟨k, rfl⟩ := Zh e1 h1
  obtain ⟨k', rfl⟩ := Zh e2 h2
  obtain rfl := Zn e3 h3
  refine ⟨_, ?_, .str _⟩
  rw [run_sliceAt_string w t _ _ _ _ hu, run_slice_string_if (P := P) w t _ k k' a' h' hu, if_pos (by rw [Lib.size_eq]; simp; omega), if_pos (by omega), Q8]
 ·rename_i e full sz len els h' hu e1 e2 e3
  split at h
  ·rename_i hc
   cases h
   have hb := cd (hp _ (List.mem_cons_self ..))
   obtain ⟨o, c, rfl, hle, hmx⟩ := Wv hx
   obtain rfl := Zn e1 h1
   obtain ⟨k, rfl⟩ := Zh e2 h2
   obtain rfl := Zn e3 h3
   obtain ⟨hu', he⟩ := wD hu
   rw [run_sliceAt_slice w t _ _ _ _ hu', run_slice_h w t o len c hu' k h' hb.1 (by omega), he, XU hc]
   refine ⟨_, rfl, ?_⟩
   have := rB (l := 0) (h := h'.toNat) (m := c) (full' := false) hx (by omega) (by omega) (by omega) (Nat.le_refl _) (by simp)
   simp_all
  ·cases h
 ·rename_i e full sz len els a' hu e1 e2 e3
  split at h
  ·rename_i hc
   cases h
   have hb := cd (hp _ (List.mem_cons_self ..))
   obtain ⟨o, c, rfl, hle, hmx⟩ := Wv hx
   obtain ⟨k, rfl⟩ := Zh e1 h1
   obtain rfl := Zn e2 h2
   obtain rfl := Zn e3 h3
   obtain ⟨hu', he⟩ := wD hu
   rw [run_sliceAt_slice w t _ _ _ _ hu', run_slice_l w t o len c hu' k a' hb.1 (by omega), he, XU hc]
   refine ⟨_, rfl, rB hx (by omega) (Nat.le_refl _) hle (Nat.le_refl _) ?_⟩
   intro hf
   cases hx with
   | xl _ _ _ _ _ hfu => exact hfu hf
  ·cases h
 ·rename_i e full sz len els a' h' hu e1 e2 e3
  split at h
  ·rename_i hc
   cases h
   have hb := cd (hp _ (List.mem_cons_self ..))
   obtain ⟨o, c, rfl, hle, hmx⟩ := Wv hx
   obtain ⟨k, rfl⟩ := Zh e1 h1
   obtain ⟨k', rfl⟩ := Zh e2 h2
   obtain rfl := Zn e3 h3
   obtain ⟨hu', he⟩ := wD hu
   rw [run_sliceAt_slice w t _ _ _ _ hu', run_slice_lh w t o len c hu' k k' a' h' hb.1 hb.2.1 (by omega), he, XU hc]
   exact ⟨_, rfl, rB hx (by omega) (by omega) (by omega) (Nat.le_refl _) (by simp)⟩
  ·cases h
 ·rename_i e full sz len els h' m' hu e1 e2 e3
  split at h
  ·rename_i hc
   cases h
   have hb := cd (hp _ (List.mem_cons_self ..))
   have hb2 : m' = h' := cd (hp _ (List.mem_cons_of_mem _ (List.mem_cons_self ..)))
   subst hb2
   obtain ⟨o, c, rfl, hle, hmx⟩ := Wv hx
   obtain rfl := Zn e1 h1
   obtain ⟨k, rfl⟩ := Zh e2 h2
   obtain ⟨k', rfl⟩ := Zh e3 h3
   obtain ⟨hu', he⟩ := wD hu
   rw [run_sliceAt_slice w t _ _ _ _ hu', run_slice_hm w t o len c hu' k k' m' m' hb.1 (by omega) (by omega), he, XU hc]
   refine ⟨_, rfl, ?_⟩
   have := rB (l := 0) (h := m'.toNat) (m := m'.toNat) (full' := true) hx (by omega) (by omega) (by omega) (by omega) (by simp)
   simp_all
  ·cases h
 ·rename_i e k off len h' hu e1 e2 e3
  split at h
  ·rename_i t' sz L els hB
   split at h
   ·rename_i hc
    cases h
    have hb := cd (hp _ (List.mem_cons_self ..))
    obtain ⟨o, c, rfl⟩ := Vk hM (by rw [hB]; rfl) hx
    obtain rfl := Zn e1 h1
    obtain ⟨k', rfl⟩ := Zh e2 h2
    obtain rfl := Zn e3 h3
    obtain ⟨hu', he⟩ := wD hu
    have hn := pM (l := 0) (h := h'.toNat) hM hB hx (by omega) (by omega)
    rw [run_sliceAt_slice w t _ _ _ _ hu', run_slice_h w t o len c hu' k' h' hb.1 (by omega), he, XU hc]
    simp_all
   ·cases h
  ·cases h
 ·rename_i e k off len a' hu e1 e2 e3
  split at h
  ·rename_i t' sz L els hB
   split at h
   ·rename_i hc
    cases h
    have hb := cd (hp _ (List.mem_cons_self ..))
    obtain ⟨o, c, rfl⟩ := Vk hM (by rw [hB]; rfl) hx
    obtain ⟨k', rfl⟩ := Zh e1 h1
    obtain rfl := Zn e2 h2
    obtain rfl := Zn e3 h3
    obtain ⟨hu', he⟩ := wD hu
    have hn := pM (l := a'.toNat) (h := len) hM hB hx (by omega) (by omega)
    rw [run_sliceAt_slice w t _ _ _ _ hu', run_slice_l w t o len c hu' k' a' hb.1 (by omega), he, XU hc]
    simp_all
   ·cases h
  ·cases h
 ·rename_i e k off len a' h' hu e1 e2 e3
  split at h
  ·rename_i t' sz L els hB
   split at h
   ·rename_i hc
    cases h
    have hb := cd (hp _ (List.mem_cons_self ..))
    obtain ⟨o, c, rfl⟩ := Vk hM (by rw [hB]; rfl) hx
    obtain ⟨k', rfl⟩ := Zh e1 h1
    obtain ⟨k2, rfl⟩ := Zh e2 h2
    obtain rfl := Zn e3 h3
    obtain ⟨hu', he⟩ := wD hu
    have hn := pM (l := a'.toNat) (h := h'.toNat) hM hB hx (by omega) (by omega)
    rw [run_sliceAt_slice w t _ _ _ _ hu', run_slice_lh w t o len c hu' k' k2 a' h' hb.1 hb.2.1 (by omega), he, XU hc]
    simp_all
   ·cases h
  ·cases h
 ·cases h
theorem qP {t ty : TypeId} {x r : AV} {a : Value} (hM : Mem E nb bl S ρ w) (h : sV P bl t x = some r) (hx : zF w S ρ x a) :
  ∃ v, (Builtin.len_ #[t] ty #[a]).run P w = .ok v w ∧ zF w S ρ r v := by
 unfold sV at h
 split at h
 ·rename_i l hu
  cases h
  obtain rfl := Z4 hx
  refine ⟨_, ?_, .v _⟩
  simp [Builtin.len_, run_underlying hu, goInt]
  rfl
 ·rename_i e full sz len els hu
  cases h
  obtain ⟨o, c, rfl, _⟩ := Wv hx
  refine ⟨_, ?_, .v _⟩
  simp [Builtin.len_, run_underlying hu, goInt]
 ·rename_i e k off len hu
  split at h
  ·rename_i hB
   cases h
   obtain ⟨o, c, rfl⟩ := Vk hM hB hx
   refine ⟨_, ?_, .v _⟩
   simp [Builtin.len_, run_underlying hu, goInt]
  ·cases h
 ·rename_i e k len hu
  cases h
  obtain ⟨o, c, rfl⟩ : ∃ o c, a = .slice o len c := by
   cases hx with
   | ps g cap hk hc => simp
   | dps hd hsh => exact hsh
  refine ⟨_, ?_, .v _⟩
  simp [Builtin.len_, run_underlying hu, goInt]
 ·rename_i e o n c hu
  cases h
  obtain rfl := ZW hx
  refine ⟨_, ?_, .v _⟩
  simp [Builtin.len_, run_underlying hu, goInt]
 ·cases h
theorem Pv {x y r : AV} {a b : Value} (h : pO x y = some r) (hx : zF w S ρ x a) (hy : zF w S ρ y b) :
  ∃ v, (Builtin.max2 a b).run P w = .ok v w ∧ zF w S ρ r v := by
 unfold pO at h
 split at h
 ·cases h
  obtain rfl := ZW hx
  obtain rfl := ZW hy
  exact ⟨_, rfl, .v _⟩
 ·cases h
theorem pF {x y r : AV} {a b : Value} (h : PW x y = some r) (hx : zF w S ρ x a) (hy : zF w S ρ y b) :
  ∃ v, (Builtin.min2 a b).run P w = .ok v w ∧ zF w S ρ r v := by
 unfold PW at h
 split at h
 ·cases h
  obtain rfl := ZW hx
  obtain rfl := ZW hy
  exact ⟨_, rfl, .v _⟩
 ·cases h
def ZI (w : World) (S : Nat → Prop) (ρ : Nat → Own) : List AV → List Value → Prop
 | [], [] => True
 | x :: xs, v :: vs => zF w S ρ x v ∧ ZI w S ρ xs vs
 | _, _ => False
theorem ZI.map {α : Type} {f : α → AV} {g : α → Value} {l : List α} (h : ∀ x ∈ l, zF w S ρ (f x) (g x)) : ZI w S ρ (l.map f) (l.map g) := by
 induction l with
 | nil => trivial
 | cons a l ih => exact ⟨h a (List.mem_cons_self ..), ih fun x hx => h x (List.mem_cons_of_mem _ hx)⟩
theorem ZI.get {xs : List AV} {vs : List Value} (h : ZI w S ρ xs vs) : xs.length = vs.length ∧ ∀ i, i < xs.length → zF w S ρ (zt xs i) (vs.toArray.getD i undef) := by
 induction xs generalizing vs with
 | nil => cases vs with
  | nil => exact ⟨rfl, fun i hi => absurd hi (Nat.not_lt_zero _)⟩
  | cons v vs => exact h.elim
 | cons x xs ih =>
  cases vs with
  | nil => exact h.elim
  | cons v vs =>
   obtain ⟨h1, h2⟩ := h
   obtain ⟨e, hh⟩ := ih h2
   refine ⟨by simp [e], fun i hi => ?_⟩
   cases i with
   | zero => assumption
   | succ i =>
    have := hh i (by simpa using hi)
    simpa [zt] using this
theorem wm {f : AV → AV → Option AV} {g : Value → Value → Sem Value} (hf : ∀ {x y r : AV} {a b : Value}, f x y = some r → zF w S ρ x a → zF w S ρ y b → ∃ v, (g a b).run P w = .ok v w ∧ zF w S ρ r v) :
  ∀ {l : List AV} {vs : List Value} {x r : AV} {a : Value}, Rj f x l = some r → zF w S ρ x a → ZI w S ρ l vs → ∃ v, (vs.foldlM g a).run P w = .ok v w ∧ zF w S ρ r v
 | [], [], x, r, a, h, hx, _ => by
  cases h
  exact ⟨a, rfl, hx⟩
 | [], _ :: _, _, _, _, _, _, h => h.elim
 | _ :: _, [], _, _, _, _, _, h => h.elim
 | y :: l, v :: vs, x, r, a, h, hx, hl => by
  obtain ⟨m, h1, h2⟩ := Option.bind_eq_some_iff.1 h
  obtain ⟨u, h3, h4⟩ := hf h1 hx hl.1
  obtain ⟨u', h5, h6⟩ := wm hf h2 h4 hl.2
  refine ⟨u', ?_, h6⟩
  simp only [List.foldlM_cons, Sem.run_bind, h3, Result.andThen_ok]
  exact h5
theorem R5 {t ty : TypeId} {x r : AV} {a : Value} (h : mK P t x = some r) (hx : zF w S ρ x a) :
  ∃ v, (Builtin.cap_ #[t] ty #[a]).run P w = .ok v w ∧ zF w S ρ r v := by
 unfold mK at h
 split at h
 ·rename_i e hu
  cases h
  obtain rfl := ZW hx
  refine ⟨_, ?_, .v _⟩
  simp [Builtin.cap_, run_underlying hu, goInt]
 ·cases h
theorem pw {b : Builtin} {ts : Array TypeId} {ty : TypeId} {xs : List AV} {r : AV} {vs : List Value} {cs : Array Bool} (hM : Mem E nb bl S ρ w) (h : R6 P bl b ts.toList xs = some r)
  (hx : ZI w S ρ xs vs) : ∃ v, (builtin b ts ty cs vs.toArray).run P w = .ok (.value v) w ∧ zF w S ρ r v := by
 obtain ⟨ts⟩ := ts
 unfold R6 at h
 split at h
 ·rename_i t x e1
  simp only at e1
  subst e1
  cases vs with
  | nil => exact hx.elim
  | cons v vs =>
   cases vs with
   | nil =>
    obtain ⟨u, h1, h2⟩ := qP (ty := ty) hM h hx.1
    refine ⟨u, ?_, h2⟩
    simp only [builtin, Sem.run_bind, h1, Result.andThen_ok, Sem.run_pure]
   | cons v2 vs => exact hx.2.elim
 ·rename_i t x e1
  simp only at e1
  subst e1
  cases vs with
  | nil => exact hx.elim
  | cons v vs =>
   cases vs with
   | nil =>
    obtain ⟨u, h1, h2⟩ := R5 (ty := ty) h hx.1
    refine ⟨u, ?_, h2⟩
    simp only [builtin, Sem.run_bind, h1, Result.andThen_ok, Sem.run_pure]
   | cons v2 vs => exact hx.2.elim
 ·rename_i x y l
  match vs, hx with
  | v1 :: v2 :: vs, hx =>
   obtain ⟨u, h1, h2⟩ := wm (P := P) (fun h1 h2 h3 => Pv h1 h2 h3) h hx.1 hx.2
   refine ⟨u, ?_, h2⟩
   simp only [builtin, Builtin.max_, Sem.run_bind, h1, Result.andThen_ok, Sem.run_pure]
 ·rename_i x y l
  match vs, hx with
  | v1 :: v2 :: vs, hx =>
   obtain ⟨u, h1, h2⟩ := wm (P := P) (fun h1 h2 h3 => pF h1 h2 h3) h hx.1 hx.2
   refine ⟨u, ?_, h2⟩
   simp only [builtin, Builtin.min_, Sem.run_bind, h1, Result.andThen_ok, Sem.run_pure]
 ·cases h
theorem pm {c a b r : AV} {vc va vb : Value} {ps : List zn} (h : Q9 c a b = some (ps, r)) (hp : ∀ p ∈ ps, p.holds)
  (hc : zF w S ρ c vc) (ha : zF w S ρ a va) (hb : zF w S ρ b vb) :
  ∃ v, (do let t ← asBool vc; pure (Next.value (if t then va else vb)) : Sem Next).run P w = .ok (.value v) w ∧ zF w S ρ r v := by
 unfold Q9 at h
 split at h
 ·rename_i t x y ec ea eb
  simp only [Option.some.injEq, Prod.mk.injEq] at h
  obtain ⟨rfl, rfl⟩ := h
  have h1 := hc.strip (fun p hp' => hp p (by simp only [List.mem_append]; exact .inl (.inl hp')))
  rw [ec] at h1
  obtain rfl := ZW h1
  simp only [asBool, Sem.run_bind, Sem.run_pure, Result.andThen_ok]
  cases t with
  | true =>
   have h2 := ha.strip (fun p hp' => WO (hp (p.under true) (by simp only [List.mem_append, List.mem_map]; exact .inl (.inr ⟨p, hp', rfl⟩))) rfl)
   simp_all
  | false =>
   have h2 := hb.strip (fun p hp' => WO (hp (p.under (!false)) (by simp only [List.mem_append, List.mem_map]; exact .inr ⟨p, hp', rfl⟩)) rfl)
   simp_all
 ·cases h
theorem uc {sz m : Nat} {src : Nat → Nat → AV} {x : AV} {v : Value} (hM : Mem E nb bl S ρ w) (hx : zF w S ρ x v) (hsz : 0 < sz) (h : t6 bl sz x = some (m, src)) :
  ∃ o c, v = .slice o m c ∧ (0 < m → ∃ A, o = some A ∧ ∃ cv : Nat → Nat → Value, ∀ i j, i < m → j < sz →
   w.cell? (A.add (i * sz + j)) = some (cv i j) ∧ (cv i j).oneCell' = true ∧ zF w S yi (src i j) (cv i j)) := by
 unfold t6 at h
 split at h
 ·split at h
  ·rename_i hs
   cases h
   subst hs
   cases hx with
   | xl o cap cvs hle hm hf hc hr =>
    refine ⟨o, cap, rfl, fun h0 => ?_⟩
    obtain ⟨A, e, _⟩ := hc 0 0 h0 hsz
    refine ⟨A, e, cvs, fun i j hi hj => ?_⟩
    simp_all
  ·cases h
 ·rename_i k off m'
  split at h
  ·rename_i t s L els hB
   split at h
   ·rename_i hs
    cases h
    subst hs
    have hbk := hM.at k
    cases hx with
    | ns g base cap sz' L' hk hl hcap =>
     have hbk := hbk.resolve_left (by rw [hk]; simp)
     rw [hB, hk] at hbk
     obtain ⟨e1, e2, h1, h2, c, h3, h4, h5⟩ := hbk
     subst e1; subst e2
     refine ⟨_, _, rfl, fun h0 => ⟨_, rfl, fun i j => c.getD ((base + (off + i)) * sz' + j) undef, fun i j hi hj => ⟨?_, (h5 (off + i) j (by omega) hj).2, (h5 (off + i) j (by omega) hj).1⟩⟩⟩
     have hb : (base + (off + i)) * sz' + sz' ≤ (base + cap) * sz' := by
      rw [← Nat.succ_mul]; exact Nat.mul_le_mul_right _ (by omega)
     rw [add_lit, show (base + off) * sz' + (i * sz' + j) = (base + (off + i)) * sz' + j by rw [← Nat.add_assoc, ← Nat.add_mul, Nat.add_assoc]]
     exact yk h3 (by omega)
    | ns0 g base cap sz' L' A hk hl hcap h0 => simp
    | nsn sz' o' hk => simp
    | dns hd hsh => exact (hM.arr (by rw [hB]; rfl) hd).elim
   ·cases h
  ·cases h
 ·cases h
theorem QC (ns : List Int) : ∀ acc : ByteArray, (ns.foldl (fun r n => r.push (UInt8.ofNat n.toNat)) acc) = ⟨(acc.data.toList ++ ns.map fun n => UInt8.ofNat n.toNat).toArray⟩ := by
 induction ns with
 | nil => simp
 | cons n ns ih => simp_all
theorem qp {s d : TypeId} {x r : AV} {ps : List zn} {a : Value} (hM : Mem E nb bl S ρ w) (h : SN P bl s d x = some (ps, r)) (hp : ∀ p ∈ ps, p.holds) (hx : zF w S ρ x a) :
  ∃ v, (convert s d a).run P w = .ok v w ∧ zF w S ρ r v := by
 unfold SN at h
 split at h
 ·rename_i el hs hd
  split at h
  ·rename_i he
   split at h
   ·rename_i m src hsrc
    cases h
    have hc : ∀ i, i < m → ∃ k, src i 0 = .v (.int .u8 k) := hp _ List.mem_cons_self
    obtain ⟨o, c, rfl, hA⟩ := uc hM hx (Nat.lt_succ_self 0) hsrc
    by_cases h0 : 0 < m
    ·obtain ⟨A, rfl, cv, hcv⟩ := hA h0
     obtain ⟨ks, hks⟩ : ∃ ks : Nat → Int, ∀ i, i < m → src i 0 = .v (.int .u8 (ks i)) :=
      ⟨fun i => match src i 0 with | .v (.int .u8 k) => k | _ => 0, fun i hi => by obtain ⟨k, hk⟩ := hc i hi; simp only [hk]⟩
     have hcell : ∀ j, j < m → w.cell? (A.add j) = some (Value.int .u8 (ks j)) := fun j hj => by
      obtain ⟨q1, _, q3⟩ := hcv j 0 hj (Nat.lt_succ_self 0)
      rw [hks j hj] at q3
      rw [ZW q3] at q1
      simp_all
     have hl : (loadCells A m).run P w = .ok (((List.range m).map ks).map (Value.int .u8)).toArray w := by
      rw [run_loadCells w A m (fun j => Value.int .u8 (ks j)) hcell, List.map_map]; rfl
     refine ⟨_, (run_convert_bytes_string w s d el (some A) m c hs he hd).trans (run_bytesToString w A m c _ hl), ?_⟩
     rw [QC]
     have : ((List.range m).map fun i => N1 (src i 0)) = ((ByteArray.empty.data.toList ++ ((List.range m).map ks).map fun n => UInt8.ofNat n.toNat)) := by
      rw [List.map_map]
      show _ = (List.range m).map _
      refine List.map_congr_left fun i hi => ?_
      rw [hks i (List.mem_range.1 hi)]; rfl
     rw [this]
     exact .str _
    ·obtain rfl : m = 0 := by omega
     cases o with
     | none => exact ⟨_, (run_convert_bytes_string w s d el none 0 c hs he hd).trans (by simp only [Conv.bytesToString, Sem.run_pure]; rfl), .str []⟩
     | some A =>
      have hl : (loadCells A 0).run P w = .ok (([] : List Int).map (Value.int .u8)).toArray w := by
       rfl
      exact ⟨_, (run_convert_bytes_string w s d el (some A) 0 c hs he hd).trans (run_bytesToString w A 0 c [] hl), .str []⟩
   ·cases h
  ·cases h
 ·cases h
theorem Su {o : Oper} {ev : Operand → AV} {e : Operand → Value} {ps : List zn} {r : AV} (hM : Mem E nb bl S ρ w) (h : Z1 P E.G.objs bl ev o.op = some (ps, r)) (hp : ∀ p ∈ ps, p.holds)
  (hops : ∀ x ∈ o.op.operands, zF w S ρ (ev x) (e x)) : ∃ v, (execOp e o).run P w = .ok (.value v) w ∧ zF w S ρ r v := by
 obtain ⟨dst, op, ty, pos, after, guard⟩ := o
 unfold Z1 at h
 split at h
 case h_2 => cases h
 rename_i ps' r' hraw
 simp only [Option.some.injEq, Prod.mk.injEq] at h
 obtain ⟨rfl, rfl⟩ := h
 have hps : ∀ p ∈ ps', p.holds := fun p hp' => hp p (List.mem_append_right _ hp')
 have hg : ∀ x ∈ YY op, zF w S ρ (ev x).strip (e x) := fun x hx => by
  refine (hops x ?_).strip fun p hp' => hp p (List.mem_append_left _ (List.mem_flatMap.2 ⟨x, hx, hp'⟩))
  cases op <;> simp only [YY] at hx <;> first | (exact Array.mem_toList_iff.1 hx) | (cases hx)
 simp only at hops
 clear hp
 cases op <;> simp only [ZQ] at hraw
 case move x =>
  cases hraw
  exact ⟨_, rfl, hg x (by simp [YY, Op.operands])⟩
 case assign x =>
  cases hraw
  exact ⟨_, rfl, hg x (by simp [YY, Op.operands])⟩
 case pick c a b =>
  exact pm hraw hps (hops c (by simp [Op.operands])) (hops a (by simp [Op.operands])) (hops b (by simp [Op.operands]))
 case load t a =>
  split at hraw
  ·rename_i sh hs
   split at hraw
   ·rename_i r2 h1
    cases hraw
    obtain ⟨u, hu, hr⟩ := Py hM hs (hg a (by simp [YY, Op.operands])) h1
    exact ⟨u, by simp only [execOp, Sem.run_bind, hu, Result.andThen_ok, Sem.run_pure], hr⟩
   ·obtain ⟨r2, h1, h2⟩ := Option.map_eq_some_iff.1 hraw
    cases h2
    obtain ⟨u, hu, hr⟩ := qe hM hs (hg a (by simp [YY, Op.operands])) h1
    exact ⟨u, by simp only [execOp, Sem.run_bind, hu, Result.andThen_ok, Sem.run_pure], hr⟩
  ·cases hraw
 case nilCheck x =>
  obtain ⟨r2, h1, h2⟩ := Option.map_eq_some_iff.1 hraw
  cases h2
  obtain ⟨hr, hh⟩ := K8 hM h1 (hg x (by simp [YY, Op.operands]))
  refine ⟨e x, ?_, hr⟩
  rcases hh with ⟨p, hv⟩ | ⟨f, vs, us, hv⟩ <;> simp only [execOp, hv] <;> rfl
 case binOp op t x y t' =>
  split at hraw
  ·rename_i r2 h1
   cases hraw
   have gx := hg x (by simp [YY, Op.operands])
   have gy := hg y (by simp [YY, Op.operands])
   unfold Jd at h1
   split at h1
   ·rename_i hx hy
    have ex := ZW (hx ▸ gx)
    have ey := ZW (hy ▸ gy)
    have he : ∀ z : Operand, isConst z = true → ∃ v, z = .const v := fun z hz => by cases z <;> first | exact ⟨_, rfl⟩ | cases hz
    split at h1
    ·rename_i ms hc hu
     cases h1
     obtain ⟨v, rfl⟩ := he _ hc
     refine ⟨.bool true, ?_, .v _⟩
     have hm : P.underlying t = some (.interface (P.methodsAt t)) := by unfold Program.methodsAt; rw [hu]
     simp only [execOp, ex, ey]
     rw [eqGuard_nil_constR]
     simp only [Sem.run_bind, Sem.run_pure, Result.andThen_ok, run_eql_nil_nil w t hm]
    ·rename_i ms hc hu
     cases h1
     obtain ⟨v, rfl⟩ := he _ hc
     refine ⟨.bool false, ?_, .v _⟩
     have hm : P.underlying t = some (.interface (P.methodsAt t)) := by unfold Program.methodsAt; rw [hu]
     simp only [execOp, ex, ey]
     rw [eqGuard_nil_constR]
     simp only [Sem.run_bind, Sem.run_pure, Result.andThen_ok, run_neq_nil_nil w t hm]
    ·cases h1
   ·rename_i z hx hy
    have ey := ZW (hy ▸ gy)
    have he : ∀ z : Operand, isConst z = true → ∃ v, z = .const v := fun z hz => by cases z <;> first | exact ⟨_, rfl⟩ | cases hz
    obtain ⟨u, hu⟩ : ∃ u, u = e x := ⟨_, rfl⟩
    have gx' : zF w S ρ (.er z) u := by rw [hu]; exact hx ▸ gx
    cases gx' with
    | er u h2 h3 =>
     split at h1
     ·rename_i ms hc hut
      cases h1
      obtain ⟨v, rfl⟩ := he _ hc
      have hm : P.underlying t = some (.interface (P.methodsAt t)) := by unfold Program.methodsAt; rw [hut]
      refine ⟨.bool z, ?_, .v _⟩
      cases z with
      | true =>
       have ex : e x = .nilIface := hu.symm.trans (h2 rfl)
       simp only [execOp, ex, ey]
       rw [eqGuard_nil_constR]
       simp only [Sem.run_bind, Sem.run_pure, Result.andThen_ok, run_eql_nil_nil w t hm]
      | false =>
       obtain ⟨t1, v1, e1⟩ := h3 rfl
       have ex : e x = .iface t1 v1 := hu.symm.trans e1
       simp only [execOp, ex, ey]
       rw [show eqGuard .eql t x (.const v) (.iface t1 v1) .nilIface = pure () from rfl]
       simp only [Sem.run_bind, Sem.run_pure, Result.andThen_ok, run_eql_held_nil w t t1 v1 hm]
     ·rename_i ms hc hut
      cases h1
      obtain ⟨v, rfl⟩ := he _ hc
      have hm : P.underlying t = some (.interface (P.methodsAt t)) := by unfold Program.methodsAt; rw [hut]
      refine ⟨.bool (!z), ?_, .v _⟩
      cases z with
      | true =>
       have ex : e x = .nilIface := hu.symm.trans (h2 rfl)
       simp only [execOp, ex, ey]
       rw [eqGuard_nil_constR]
       simp only [Sem.run_bind, Sem.run_pure, Result.andThen_ok, run_neq_nil_nil w t hm]
       rfl
      | false =>
       obtain ⟨t1, v1, e1⟩ := h3 rfl
       have ex : e x = .iface t1 v1 := hu.symm.trans e1
       simp only [execOp, ex, ey]
       rw [show eqGuard .neq t x (.const v) (.iface t1 v1) .nilIface = pure () from rfl]
       simp only [Sem.run_bind, Sem.run_pure, Result.andThen_ok, run_neq_held_nil w t t1 v1 hm]
       rfl
     ·cases h1
   ·cases h1
  obtain ⟨u, hu, hr⟩ := pN (P := P) x y hM hraw hps (hg x (by simp [YY, Op.operands])) (hg y (by simp [YY, Op.operands]))
  refine ⟨u, ?_, hr⟩
  simp only [execOp]
  rw [Sem.run_bind, hu]; rfl
 case unOp op t x =>
  obtain ⟨u, hu, hr⟩ := pJ (P := P) hraw hps (hg x (by simp [YY, Op.operands]))
  exact ⟨u, by simp only [execOp, Sem.run_bind, hu, Result.andThen_ok, Sem.run_pure], hr⟩
 case convert s d x =>
  split at hraw
  ·rename_i r2 h1
   cases hraw
   obtain ⟨u, hu, hr⟩ := RX h1 hps (hg x (by simp [YY, Op.operands]))
   exact ⟨u, by simp only [execOp, Sem.run_bind, hu, Result.andThen_ok, Sem.run_pure], hr⟩
  ·obtain ⟨u, hu, hr⟩ := qp hM hraw hps (hg x (by simp [YY, Op.operands]))
   exact ⟨u, by simp only [execOp, Sem.run_bind, hu, Result.andThen_ok, Sem.run_pure], hr⟩
 case build t parts =>
  obtain ⟨r2, h1, h2⟩ := Option.map_eq_some_iff.1 hraw
  cases h2
  obtain ⟨u, hu, hr⟩ := qS (vals := parts.map fun (i, x) => (i, e x)) h1 (by simp) fun i p v hp hv => by
   simp only [Array.toList_map, List.getElem?_map, Option.map_eq_some_iff] at hp hv
   obtain ⟨q, q1, rfl⟩ := hp
   obtain ⟨q', q2, rfl⟩ := hv
   rw [q1] at q2
   cases q2
   exact ⟨rfl, hg _ (by simp only [YY, Op.operands, Array.toList_map, List.mem_map]; exact ⟨q, List.mem_of_getElem? q1, rfl⟩)⟩
  exact ⟨u, by simp only [execOp, Sem.run_bind, hu, Result.andThen_ok, Sem.run_pure], hr⟩
 case makeFunc f first cap =>
  cases hraw
  refine ⟨.func f (first.map e) (cap.map e), by simp only [execOp, Instr.makeFunc, Sem.run_bind, Sem.run_pure, Result.andThen_ok], ?_⟩
  have g1 := (ZI.map (l := first.toList) (f := fun x => (ev x).strip) (g := e) fun x hx => hg x (by simp [YY, Op.operands]; exact .inl (by simpa using hx))).get
  have g2 := (ZI.map (l := cap.toList) (f := fun x => (ev x).strip) (g := e) fun x hx => hg x (by simp [YY, Op.operands]; exact .inr (by simpa using hx))).get
  refine .fn _ _ (by simp) (by simp) (fun i hi => ?_) (fun i hi => ?_)
  ·have := g1.2 i (by simpa using hi)
   simpa using this
  ·have := g2.2 i (by simpa using hi)
   simpa using this
 case slice t x lo hi mx =>
  have ho : ∀ (y : Option Operand), (∀ z, y = some z → z ∈ YY (.slice t x lo hi mx)) → nJ w S ρ (y.map fun x => (ev x).strip) (y.map e) := fun y hy => by
   cases y with
   | none => trivial
   | some z => exact hg z (hy z rfl)
  obtain ⟨u, hu, hr⟩ := TE hM hraw hps (hg x (by simp [YY, Op.operands])) (ho lo (by rintro z rfl; simp [YY, Op.operands])) (ho hi (by rintro z rfl; simp [YY, Op.operands])) (ho mx (by rintro z rfl; simp [YY, Op.operands]))
  exact ⟨u, by simp only [execOp, Sem.run_bind, hu, Result.andThen_ok, Sem.run_pure], hr⟩
 case fieldAddr t x f =>
  split at hraw
  ·rename_i d hd
   obtain ⟨r2, h1, h2⟩ := Option.map_eq_some_iff.1 hraw
   cases h2
   obtain ⟨p, hv, hr⟩ := nr hM h1 (hg x (by simp [YY, Op.operands]))
   exact ⟨_, by simp only [execOp, Sem.run_bind, hv, U0 hd, Result.andThen_ok, Sem.run_pure], hr⟩
  ·cases hraw
 case field t x f =>
  obtain ⟨r2, h1, h2⟩ := Option.map_eq_some_iff.1 hraw
  cases h2
  obtain ⟨u, hu, hr⟩ := sx h1 (hg x (by simp [YY, Op.operands]))
  exact ⟨u, by simp only [execOp, Sem.run_bind, hu, Result.andThen_ok, Sem.run_pure], hr⟩
 case indexAddr t x i =>
  obtain ⟨u, hu, hr⟩ := Ur hM hraw hps (hg x (by simp [YY, Op.operands])) (hg i (by simp [YY, Op.operands]))
  exact ⟨u, by simp only [execOp, Sem.run_bind, hu, Result.andThen_ok, Sem.run_pure], hr⟩
 case index t x i =>
  obtain ⟨u, hu, hr⟩ := Td hraw hps (hg x (by simp [YY, Op.operands])) (hg i (by simp [YY, Op.operands]))
  exact ⟨u, by simp only [execOp, Sem.run_bind, hu, Result.andThen_ok, Sem.run_pure], hr⟩
 case lookup t x i c =>
  cases c with
  | true => cases hraw
  | false =>
   obtain ⟨u, hu, hr⟩ := Qb hM hraw hps (hg x (by simp [YY, Op.operands])) (hg i (by simp [YY, Op.operands]))
   exact ⟨u, by simp only [execOp, Sem.run_bind, hu, Result.andThen_ok, Sem.run_pure], hr⟩
 case extract x i =>
  have hx := hg x (by simp [YY, Op.operands])
  split at hraw
  ·rename_i n vs hxv
   rw [hxv] at hx
   split at hraw
   ·rename_i hi
    cases hraw
    cases hx2 : e x <;> rw [hx2] at hx <;> cases hx
    rename_i us hn hr
    refine ⟨_, ?_, hr i hi⟩
    have hi' : i < us.size := by rw [hn]; exact hi
    simp only [execOp, Instr.extract, hx2]
    simp [hi']
   ·cases hraw
  ·cases hraw
 case call c =>
  obtain ⟨callee, args, argTypes⟩ := c
  cases callee with
  | builtin b =>
   simp only at hraw
   obtain ⟨r2, h1, h2⟩ := Option.map_eq_some_iff.1 hraw
   cases h2
   have hl := ZI.map (l := args.toList) (f := fun x => (ev x).strip) (g := e) fun x hx => hg x (by simp [YY, Op.operands, Call.operands]; simpa using hx)
   obtain ⟨u, hu, hr⟩ := pw (ty := ty) (cs := args.map fun | .const _ => true | _ => false) hM h1 hl
   refine ⟨u, ?_, hr⟩
   simp only [execOp, resolve, Sem.run_bind, Sem.run_pure, Result.andThen_ok, invoke]
   rw [show args.map e = (args.toList.map e).toArray from Array.ext' (by rw [Array.toList_map])]
   exact hu
  | _ => cases hraw
 all_goals cases hraw
end
end Go.Sx
