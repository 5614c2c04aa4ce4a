/- Regions in any order: what only computes or reads comes first, the rest in each order that there is. -/
import Derived.Test.YtojonobehnbeiaaGreatDoorSxM
namespace Go.Sx
open Go Go.RowKit
section
variable {P : Program} {G : Cx} {m : Option Nat} {ops : List Oper}
theorem exList_mem {ex : TypeId → (AV → Prop) → Prop} (hex : ∀ t k, ex t k → ∃ r, (∀ k' : AV → Prop, k' r → ex t k') ∧ k r) :
    ∀ (ts : List TypeId) (k : List AV → Prop), exList ex ts k → ∃ r, (∀ k' : List AV → Prop, k' r → exList ex ts k') ∧ k r
  | [], _, h => ⟨[], fun _ h' => h', h⟩
  | t :: ts, k, h => by
    obtain ⟨v, h1, h2⟩ := hex t _ h
    obtain ⟨vs, h3, h4⟩ := exList_mem hex ts _ h2
    exact ⟨v :: vs, fun k' hk => h1 _ (h3 _ hk), h4⟩
theorem exAV_mem : ∀ (n : Nat) (t : TypeId) (k : AV → Prop), exAV P n t k → ∃ r, (∀ k' : AV → Prop, k' r → exAV P n t k') ∧ k r
  | 0, _, _, ⟨r, hr⟩ => ⟨r, fun _ h => ⟨r, h⟩, hr⟩
  | n + 1, t, k, h => by
    unfold exAV at h ⊢
    split at h
    · obtain ⟨x, hx⟩ := h; exact ⟨_, fun _ h => ⟨x, h⟩, hx⟩
    · obtain ⟨x, hx⟩ := h; exact ⟨_, fun _ h => ⟨x, h⟩, hx⟩
    · obtain ⟨x, hx⟩ := h; exact ⟨_, fun _ h => ⟨x, h⟩, hx⟩
    · obtain ⟨f, sz, len, els, hx⟩ := h; exact ⟨_, fun _ h => ⟨f, sz, len, els, h⟩, hx⟩
    · obtain ⟨vs, h1, h2⟩ := exList_mem (exAV_mem n) _ _ h
      exact ⟨_, fun _ h => h1 _ h, h2⟩
    · obtain ⟨x, hx⟩ := h; exact ⟨_, fun _ h => ⟨x, h⟩, hx⟩
theorem effFre_of {σ : Sig} {f : FuncId} {xs : List AV} (h : G.fre f xs = none) : effFre G σ f xs = none := by unfold effFre; rw [h]
theorem callK_mem {g : Option Bool} {f : FuncId} {xs : List AV} {t : TypeId} {K : AV → Prop} (h : callK P G g f xs t K) : ∃ r, (∀ k' : AV → Prop, k' r → callK P G g f xs t k') ∧ K r := by
  unfold callK at h ⊢
  split at h
  · rename_i ps r _
    refine ⟨r, fun k' hk' => callP_mono (fun _ => hk') h, ?_⟩
    cases g with
    | none => exact ((allP_iff _ _).1 h).2
    | some g => exact ((gimp_iff _ _ _).1 h).2
  · obtain ⟨r, h3, h4, h5⟩ := exAV_mem 3 _ _ h
    exact ⟨r, fun k' hk' => h3 _ ⟨h4, hk'⟩, h5⟩
theorem gcall_mem {g : Option Bool} {f : FuncId} {xs : List AV} {t : TypeId} {K : AV → Prop} (h : gcall P G g f xs t K) : ∃ r, (∀ k' : AV → Prop, k' r → gcall P G g f xs t k') ∧ K r := by
  unfold gcall at h ⊢
  split at h
  · split at h
    · exact ⟨offAV P t, fun k' hk' => hk', h⟩
    · exact h.elim
  · exact callK_mem h
def ResG (P : Program) (G : Cx) (g : Bool) (q : Option Bool) (σ : Sig) (o : Oper) (x : AV) : Prop :=
  (∃ ps, detOp P σ.bl σ.ev o.op = some (ps, x) ∧ (g = true → ∀ p ∈ ps, p.holds)) ∨
  (∃ t len parts, o.op = .buildSlice t len parts ∧ ¬ ((parts.toList.map fun p => σ.sv p.2).any AV.hasOwn = true) ∧
    effBuildSlice P σ t len (parts.toList.map (·.1)) (parts.toList.map fun p => σ.sv p.2) = some (σ, x) ∧ (g = true → ∀ p ∈ gprops σ (parts.toList.map (·.2)), p.holds)) ∨
  (∃ f args ts fid nf first nc cap, o.op = .call { callee := .value f, args, argTypes := ts } ∧ σ.sv f = .fn (.func fid) nf first nc cap ∧
    (g = true → ∀ p ∈ (σ.ev f).gprop ++ gprops σ args.toList, p.holds) ∧ ¬ ((fnArgs nf first (args.toList.map σ.sv) nc cap).any AV.hasOwn = true) ∧
    G.fre fid (fnArgs nf first (args.toList.map σ.sv) nc cap) = none ∧ ∀ k' : AV → Prop, k' x → gcall P G q fid (fnArgs nf first (args.toList.map σ.sv) nc cap) o.type k')
def Res (P : Program) (G : Cx) (ops : List Oper) (σ : Sig) (o : Oper) (x : AV) : Prop :=
  match o.guard with
  | none => ResG P G true none σ o x
  | some (j, want) => ∃ g x0, guardAV ops σ j want = some g ∧ x = .gd g x0 ∧ (((G.conc && !g) = true ∧ x0 = offAV P o.type) ∨ ((G.conc && !g) = false ∧ ResG P G g (some g) σ o x0))
def eagerD0 (G : Cx) (m : Option Nat) (σ : Sig) (o : Oper) : Bool :=
  match o.op with
  | .alloc _ | .box _ _ | .store _ _ _ | .makeSlice _ _ _ | .call { callee := .builtin .append, .. } => false
  | .buildSlice _ _ parts => !(parts.toList.map fun p => σ.sv p.2).any AV.hasOwn
  | .call { callee := .value f, args, .. } =>
    match σ.sv f with
    | .fn (.func fid) nf first nc cap => !(fnArgs nf first (args.toList.map σ.sv) nc cap).any AV.hasOwn && (G.fre fid (fnArgs nf first (args.toList.map σ.sv) nc cap)).isNone
    | _ => false
  | op => op.operands.toList.all fun x =>
    match (σ.sv x).top with
    | some k => Nat.blt k (lim m σ.nb)
    | none => true
def offB (G : Cx) (ops : List Oper) (σ : Sig) (o : Oper) : Bool :=
  match o.guard with
  | some (j, want) =>
    match guardAV ops σ j want with
    | some g => G.conc && !g
    | none => false
  | none => false
def eagerD (G : Cx) (m : Option Nat) (ops : List Oper) (σ : Sig) (o : Oper) : Bool := offB G ops σ o || eagerD0 G m σ o
theorem eager_take {σ : Sig} {o : Oper} {K : Sig → Prop} (he : eagerD G m ops σ o = true) (h : vcOpT P G m ops o σ K) : ∃ x, Res P G ops σ o x ∧ K (σ.put o.dst x) := by
  unfold vcOpT at h
  unfold Res
  cases hg : o.guard with
  | none =>
    have he : eagerD0 G m σ o = true := by
      unfold eagerD offB at he
      rw [hg] at he
      exact he
    rw [hg] at h
    simp only at h ⊢
    unfold vcUT at h
    unfold eagerD0 at he
    split at h
    · rename_i ho; simp [ho] at he
    · rename_i ho; simp [ho] at he
    · exact h.elim
    · rename_i ho
      split at h
      · exact h.elim
      · rename_i hno
        split at h
        · rename_i hb
          obtain ⟨rfl, _⟩ := effBuild_any hb
          rw [allP_iff] at h
          exact ⟨_, .inr (.inl ⟨_, _, _, ho, hno, hb, fun _ => h.1⟩), h.2⟩
        · exact h.elim
    · rename_i ho; simp [ho] at he
    · rename_i f args ts ho
      split at h
      · rename_i hf
        rw [allP_iff] at h
        obtain ⟨h1, h2⟩ := h
        split at h2
        · rename_i hown
          simp [ho, hf, hown] at he
        · rename_i hno
          simp only [ho, hf, Bool.and_eq_true, Option.isNone_iff_eq_none] at he
          rw [effFre_of he.2] at h2
          obtain ⟨r, h3, h5⟩ := gcall_mem h2
          exact ⟨r, .inr (.inr ⟨f, args, ts, _, _, _, _, _, ho, hf, fun _ => h1, hno, he.2, h3⟩), h5⟩
      · exact h.elim
    · rename_i ho; simp [ho] at he
    · split at h
      · rename_i hd
        rw [allP_iff] at h
        exact ⟨_, .inl ⟨_, hd, fun _ => h.1⟩, h.2⟩
      · exact h.elim
  | some jw =>
    obtain ⟨j, want⟩ := jw
    rw [hg] at h
    simp only at h ⊢
    split at h
    · rename_i g hga
      cases hc : G.conc && !g with
      | true =>
        rw [hc] at h
        have hg0 : g = false := by cases g <;> simp_all
        subst hg0
        exact ⟨_, ⟨false, _, hga, rfl, .inl ⟨hc, rfl⟩⟩, h⟩
      | false =>
      rw [hc] at h
      have he : eagerD0 G m σ o = true := by
        unfold eagerD offB at he
        rw [hg] at he
        simp only [hga, hc, Bool.false_or] at he
        exact he
      simp only at h
      unfold vcG at h
      unfold eagerD0 at he
      split at h
      · rename_i f args ts ho
        split at h
        · rename_i hf
          rw [gimp_iff] at h
          obtain ⟨h1, h2⟩ := h
          simp only [ho, hf, Bool.and_eq_true, Bool.not_eq_true', Option.isNone_iff_eq_none] at he
          rw [if_neg (by rw [he.1]; simp)] at h2
          obtain ⟨r, h3, h5⟩ := gcall_mem h2
          exact ⟨_, ⟨g, r, hga, rfl, .inr ⟨hc, .inr (.inr ⟨f, args, ts, _, _, _, _, _, ho, hf, h1, by rw [he.1]; simp, he.2, h3⟩)⟩⟩, h5⟩
        · exact h.elim
      · rename_i ho
        split at h
        · exact h.elim
        · rename_i hno
          split at h
          · rename_i hb
            obtain ⟨rfl, _⟩ := effBuild_any hb
            rw [gimp_iff] at h
            exact ⟨_, ⟨g, _, hga, rfl, .inr ⟨hc, .inr (.inl ⟨_, _, _, ho, hno, hb, h.1⟩)⟩⟩, h.2⟩
          · exact h.elim
      · split at h
        · rename_i hd
          rw [gimp_iff] at h
          exact ⟨_, ⟨g, _, hga, rfl, .inr ⟨hc, .inl ⟨_, hd, h.1⟩⟩⟩, h.2⟩
        · exact h.elim
    · exact h.elim
theorem res_take {σ : Sig} {o : Oper} {x : AV} {K : Sig → Prop} (hr : Res P G ops σ o x) (h : K (σ.put o.dst x)) : vcOpT P G m ops o σ K := by
  unfold Res at hr
  unfold vcOpT
  cases hg : o.guard with
  | none =>
    rw [hg] at hr
    simp only at hr ⊢
    rcases hr with ⟨ps, h1, h2⟩ | ⟨tb, lb, parts, hob, hnob, heb, hgb⟩ | ⟨f, args, ts, fid, nf, first, nc, cap, ho, hf, h1, h2, hfr, h3⟩
    · unfold vcUT
      split
      · rename_i ho; rw [ho] at h1; simp [detOp, detRaw] at h1
      · rename_i ho; rw [ho] at h1; simp [detOp, detRaw] at h1
      · rename_i ho; rw [ho] at h1; simp [detOp, detRaw] at h1
      · rename_i ho; rw [ho] at h1; simp [detOp, detRaw] at h1
      · rename_i ho; rw [ho] at h1; simp [detOp, detRaw] at h1
      · rename_i ho; rw [ho] at h1; simp [detOp, detRaw] at h1
      · rename_i ho; rw [ho] at h1; simp [detOp, detRaw, biAV] at h1
      · rw [h1]
        simp only
        rw [allP_iff]
        exact ⟨h2 rfl, h⟩
    · simp only [vcUT, hob, if_neg hnob, heb, allP_iff]
      exact ⟨hgb rfl, h⟩
    · simp only [vcUT, ho, hf, allP_iff, if_neg h2, effFre_of hfr]
      exact ⟨h1 rfl, h3 _ h⟩
  | some jw =>
    obtain ⟨j, want⟩ := jw
    rw [hg] at hr
    simp only at hr ⊢
    obtain ⟨g, x0, hga, rfl, hr⟩ := hr
    rw [hga]
    simp only
    rcases hr with ⟨hc, rfl⟩ | ⟨hc, hr⟩
    · rw [hc]
      have hg0 : g = false := by cases g <;> simp_all
      subst hg0
      exact h
    rw [hc]
    simp only
    rcases hr with ⟨ps, h1, h2⟩ | ⟨tb, lb, parts, hob, hnob, heb, hgb⟩ | ⟨f, args, ts, fid, nf, first, nc, cap, ho, hf, h1, h2, hfr, h3⟩
    · unfold vcG
      split
      · rename_i ho; rw [ho] at h1; simp [detOp, detRaw] at h1
      · rename_i ho; rw [ho] at h1; simp [detOp, detRaw] at h1
      · rw [h1]
        simp only
        rw [gimp_iff]
        exact ⟨h2, h⟩
    · simp only [vcG, hob, if_neg hnob, heb, gimp_iff]
      exact ⟨hgb, h⟩
    · simp only [vcG, ho, hf, gimp_iff, if_neg h2]
      exact ⟨h1, h3 _ h⟩
theorem Grow.guard {σ σ' : Sig} {d : Option Tmp} (h : Grow m d σ σ') {j : Nat} {want : Bool} (hd : ∀ t, d = some t → (ops[j]?).bind (·.dst) ≠ some t) :
    guardAV ops σ' j want = guardAV ops σ j want := by
  unfold guardAV
  cases ho : ops[j]? with
  | none => rfl
  | some o =>
    simp only
    cases hod : o.dst with
    | none => rfl
    | some t =>
      simp only
      have hne : d ≠ some t := fun e => hd t e (by rw [ho, Option.bind_some, hod])
      rw [h.n, h.tm t hne]
theorem res_grow {σ σ' : Sig} {o : Oper} {x : AV} {d : Option Tmp} (hG : Grow m d σ σ') (h1 : ∀ t, d = some t → t ∉ o.looksAt ops.toArray) (he : eagerD G m ops σ o = true) (hr : Res P G ops σ o x) :
    Res P G ops σ' o x ∧ eagerD G m ops σ' o = true := by
  have hl := looks_op h1
  have hev : ∀ y ∈ o.op.operands, σ'.ev y = σ.ev y := fun y hy => hG.ev (hl y hy)
  have hsv : ∀ y ∈ o.op.operands, σ'.sv y = σ.sv y := fun y hy => sv_congr (hev y hy)
  have key : ∀ g q x, eagerD0 G m σ o = true → ResG P G g q σ o x → ResG P G g q σ' o x := by
    rintro g q x he (⟨ps, h1, h2⟩ | ⟨tb, lb, parts, hob, hnob, heb, hgb⟩ | ⟨f, args, ts, fid, nf, first, nc, cap, ho, hf, h1, h2, hfr, h3⟩)
    · refine .inl ⟨ps, ?_, h2⟩
      rw [← h1]
      refine det_congr hev fun y hy k hk => hG.bl k ?_
      have hall : (o.op.operands.toList.all fun x => match (σ.sv x).top with | some k => Nat.blt k (lim m σ.nb) | none => true) = true := by
        unfold eagerD0 at he
        split at he
        · cases he
        · cases he
        · cases he
        · cases he
        · cases he
        · rename_i ho; rw [ho] at h1; simp [detOp, detRaw] at h1
        · rename_i ho; rw [ho] at h1; simp [detOp, detRaw] at h1
        · exact he
      have := List.all_eq_true.1 hall y (Array.mem_toList_iff.2 hy)
      rw [show (σ.sv y).top = some k from hk] at this
      exact Nat.le_of_ble_eq_true this
    · have hin : ∀ p ∈ parts.toList, p.2 ∈ o.op.operands := fun p hp => by rw [hob]; simp only [Op.operands, List.mem_toArray, List.mem_map]; exact ⟨p, hp, rfl⟩
      have e1 : (parts.toList.map fun p => σ'.sv p.2) = parts.toList.map fun p => σ.sv p.2 := List.map_congr_left fun p hp => hsv _ (hin p hp)
      have e2 : gprops σ' (parts.toList.map (·.2)) = gprops σ (parts.toList.map (·.2)) := gprops_congr fun y hy => by
        obtain ⟨p, hp, rfl⟩ := List.mem_map.1 hy
        exact hev _ (hin p hp)
      exact .inr (.inl ⟨tb, lb, parts, hob, by rw [e1]; exact hnob, by rw [e1]; exact (effBuild_any heb).2 _, by rw [e2]; exact hgb⟩)
    · have hin : ∀ y ∈ args.toList, y ∈ o.op.operands := fun y hy => by rw [ho]; simp only [Op.operands, Call.operands, Array.mem_append]; exact .inr (Array.mem_toList_iff.1 hy)
      have e1 := hev f (by rw [ho]; simp [Op.operands, Call.operands])
      have e2 : args.toList.map σ'.sv = args.toList.map σ.sv := List.map_congr_left fun y hy => hsv _ (hin y hy)
      have e3 : gprops σ' args.toList = gprops σ args.toList := gprops_congr fun y hy => hev _ (hin y hy)
      exact .inr (.inr ⟨f, args, ts, fid, nf, first, nc, cap, ho, by rw [sv_congr e1]; exact hf, by rw [e1, e3]; exact h1, by rw [e2]; exact h2, by rw [e2]; exact hfr, by rw [e2]; exact h3⟩)
  have hgd : ∀ j want, o.guard = some (j, want) → guardAV ops σ' j want = guardAV ops σ j want := fun j want hg => hG.guard (looks_guard h1 hg)
  have hoff : offB G ops σ' o = offB G ops σ o := by
    unfold offB
    cases hg : o.guard with
    | none => rfl
    | some jw => obtain ⟨j, want⟩ := jw; simp only [hgd j want hg]
  constructor
  · unfold Res at hr ⊢
    cases hg : o.guard with
    | none =>
      rw [hg] at hr
      refine key _ _ _ ?_ hr
      unfold eagerD offB at he
      rw [hg] at he
      exact he
    | some jw =>
      obtain ⟨j, want⟩ := jw
      rw [hg] at hr
      obtain ⟨g, x0, h2, h3, h4⟩ := hr
      refine ⟨g, x0, by rw [hgd j want hg]; exact h2, h3, ?_⟩
      rcases h4 with h4 | ⟨hc, h4⟩
      · exact .inl h4
      · refine .inr ⟨hc, key _ _ _ ?_ h4⟩
        unfold eagerD offB at he
        rw [hg] at he
        simp only [h2, hc, Bool.false_or] at he
        exact he
  · have hall : (o.op.operands.toList.all fun x => match (σ.sv x).top with | some k => Nat.blt k (lim m σ.nb) | none => true) = true →
        (o.op.operands.toList.all fun x => match (σ'.sv x).top with | some k => Nat.blt k (lim m σ'.nb) | none => true) = true := fun h => by
      rw [List.all_eq_true] at h ⊢
      intro y hy
      have := h y hy
      rw [hsv y (Array.mem_toList_iff.1 hy)]
      revert this
      split
      · intro hk
        exact Nat.ble_eq_true_of_le (Nat.le_trans (Nat.le_of_ble_eq_true hk) (lim_mono hG.nb))
      · exact fun _ => rfl
    unfold eagerD at he ⊢
    rw [hoff]
    cases ho1 : offB G ops σ o with
    | true => rfl
    | false =>
    rw [ho1, Bool.false_or] at he
    rw [Bool.false_or]
    unfold eagerD0 at he ⊢
    split at he
    · cases he
    · cases he
    · cases he
    · cases he
    · cases he
    · rename_i parts ho
      have e1 : (parts.toList.map fun p => σ'.sv p.2) = parts.toList.map fun p => σ.sv p.2 := List.map_congr_left fun p hp => hsv _ (by rw [ho]; simp only [Op.operands, List.mem_toArray, List.mem_map]; exact ⟨p, hp, rfl⟩)
      rw [e1]
      exact he
    · rename_i f args ts ho
      have hin : ∀ y ∈ args.toList, y ∈ o.op.operands := fun y hy => by rw [ho]; simp only [Op.operands, Call.operands, Array.mem_append]; exact .inr (Array.mem_toList_iff.1 hy)
      have e1 := hev f (by rw [ho]; simp [Op.operands, Call.operands])
      have e2 : args.toList.map σ'.sv = args.toList.map σ.sv := List.map_congr_left fun y hy => hsv _ (hin y hy)
      rw [sv_congr e1, e2]
      exact he
    · exact hall he
end
end Go.Sx
