/- strings.Builder: copyCheck and String, walked. -/
import Derived.Test.YtojonobehnbeiaaDoorTdS
import Derived.Test.YtojonobehnbeiaaDoorTdD
namespace Go.Td
open Go Go.Sx Go.Proofs Go.RowKit Go.Shelf

theorem sizeB : (Tryd.prog.info? 50).map (·.size) = some 2 := by kernel_rfl
theorem liesB : liesAt Tryd.prog Tryd.prog.depth 50 (2 / Tryd.prog.cellsOf 50) 0 50 1 = true := by kernel_rfl

set_option maxHeartbeats 1000000 in
set_option maxRecDepth 100000 in
theorem cc_used (b : Nat) (w : World) (h0 : w.cell? ⟨b, 0, none⟩ = some (.pointer (some ⟨b, 0, none⟩))) :
    Calls Tryd.prog 41 #[.pointer (some ⟨b, 0, none⟩)] w fun e w' => e = .returned (.tuple #[]) ∧ w' = w := by
  obtain ⟨j, hj, _⟩ := Option.map_eq_some_iff.1 sizeB
  go_enter Tryd.func41, Tryd.ntmps41
  go_wp2
  rw [Lib.run_neq_ptr_same w _ Tryd.underlying47 hj]
  go_wp2
  go_end0
  exact ⟨rfl, rfl⟩

set_option maxHeartbeats 1000000 in
set_option maxRecDepth 100000 in
theorem cc_fresh (b : Nat) (w : World) (h0 : w.cell? ⟨b, 0, none⟩ = some (.pointer none)) (hsh : w.shape? b = some (50, 2)) (hfz : w.frozen? ⟨b, 0, none⟩ = false) :
    Calls Tryd.prog 41 #[.pointer (some ⟨b, 0, none⟩)] w fun e w' => e = .returned (.tuple #[]) ∧ w' = w.setCell ⟨b, 0, none⟩ (.pointer (some ⟨b, 0, none⟩)) := by
  obtain ⟨j, hj, hjs⟩ := Option.map_eq_some_iff.1 sizeB
  go_enter Tryd.func41, Tryd.ntmps41
  go_wp2
  rw [Lib.run_to_unsafe w ⟨b, 0, none⟩ Tryd.underlying47 Tryd.underlying97 hj (by rw [hjs]; decide) hsh (Nat.zero_lt_succ 1)]
  simp only [Result.andThen]
  rw [Oper.upon_value]
  go_wp2
  rw [run_callFunc_extern Tryd.func57 (by kernel_rfl) (by kernel_rfl) (by kernel_rfl) (e := Extern.AbiNoEscape.same) (by kernel_rfl)]
  rw [Lib.run_noEscape]
  simp only [Result.andThen]
  rw [Oper.upon_value]
  go_wp2
  rw [Lib.run_from_unsafe w ⟨b, 0, none⟩ Tryd.underlying97 Tryd.underlying47 hj hsh liesB]
  simp only [Result.andThen]
  rw [Oper.upon_value]
  go_wp2
  go_end0
  exact ⟨rfl, rfl⟩

section
variable {P : Program} {ρ : Ren}
set_option maxHeartbeats 1000000 in
set_option maxRecDepth 100000 in
theorem str_row (L : Lays.n169 P ρ) (X : Builder.Extra P ρ) (b g cap : Nat) (p : Value) (cur : Array Value) (l : List UInt8) (w : World) (h0 : l ≠ []) (hbk : w.heap[b]? = some (.cells #[p, .slice (some ⟨g, 0, none⟩) l.length cap] (ρ.t 72) (0, 0)))
    (hg : w.heap[g]? = some (.cells cur (ρ.t 5) (0, 0))) (hnc : l.length ≤ cap) (hcm : cap ≤ maxLen) (hcs : cur.size = cap) (hcell : ∀ (j : Nat) (x : UInt8), l[j]? = some x → cur[j]? = some (Value.int .u8 x.toNat)) :
    Calls P (ρ.f 169) #[.pointer (some ⟨b, 0, none⟩)] w fun e w' => e = .returned (.string ⟨l.toArray⟩) ∧ w' = w.drew.freeze ⟨g, 0, none⟩ l.length := by
  have hl0 : l.length ≠ 0 := by simpa using h0
  have c1 : w.drew.cell? ⟨b, 1, none⟩ = some (.slice (some ⟨g, 0, none⟩) l.length cap) := by
    have : w.drew.heap[b]? = some (.cells #[p, .slice (some ⟨g, 0, none⟩) l.length cap] (ρ.t 72) (0, 0)) := hbk
    rw [Lib.cell_of_heap this]; rfl
  have hSD : (Builtin.unsafeSliceData_ #[(ρ.t 37)] (ρ.t 127) #[.slice (some ⟨g, 0, none⟩) l.length cap]).run P w.drew = .ok (.pointer (some ⟨g, 0, none⟩)) w.drew :=
    Lib.run_unsafeSliceData_row _ _ _ _ _ _ (by omega)
  have hUS : (Builtin.unsafeString_ #[(ρ.t 127), (ρ.t 3)] (ρ.t 9) #[.pointer (some ⟨g, 0, none⟩), .int .i64 l.length]).run P w.drew = .ok (.string ⟨l.toArray⟩) (w.drew.freeze ⟨g, 0, none⟩ l.length) := by
    refine Lib.run_unsafeString_row w.drew (ρ.t 127) (ρ.t 3) (ρ.t 9) (ρ.t 5) L.t127 X.cellsByte g cur.size (by have hg' : w.drew.heap[g]? = some (.cells cur (ρ.t 5) (0, 0)) := hg; simp [World.shape?, hg']) l h0 (by omega) (by unfold maxLen at hcm; omega) ?_
    intro j x hx
    have hg' : w.drew.heap[g]? = some (.cells cur (ρ.t 5) (0, 0)) := hg
    rw [add_lit, Nat.zero_add, Lib.cell_of_heap hg']
    exact hcell j x hx
  have mixed := L.mixed
  have t72 := L.t72; have a72 := L.a72; have z72 := L.z72; have v72 := L.v72; have u72 := run_underlying L.t72
  have t70 := L.t70; have a70 := L.a70; have z70 := L.z70; have v70 := L.v70; have u70 := run_underlying L.t70
  have t37 := L.t37; have a37 := L.a37; have z37 := L.z37; have v37 := L.v37; have u37 := run_underlying L.t37
  have t127 := L.t127; have a127 := L.a127; have z127 := L.z127; have v127 := L.v127; have u127 := run_underlying L.t127
  have t3 := L.t3; have a3 := L.a3; have z3 := L.z3; have v3 := L.v3; have u3 := run_underlying L.t3
  have t9 := L.t9; have a9 := L.a9; have z9 := L.z9; have v9 := L.v9; have u9 := run_underlying L.t9
  have t5 := X.t5; have a5 := X.a5; have z5 := X.z5; have v5 := X.v5; have u5 := run_underlying X.t5
  go_enter L.f169, Body.n169_ntmps ρ
  go_wp2
  go_region_o
  all_goals (go_wp2; go_ret; exact ⟨rfl, rfl⟩)

set_option maxHeartbeats 2000000 in
set_option maxRecDepth 100000 in
theorem str_nil (L : Lays.n169 P ρ) (X : Builder.Extra P ρ) (b : Nat) (p : Value) (w : World) (hbk : w.heap[b]? = some (.cells #[p, .slice none 0 0] (ρ.t 72) (0, 0))) :
    Calls P (ρ.f 169) #[.pointer (some ⟨b, 0, none⟩)] w fun e w' => e = .returned (.string ⟨#[]⟩) ∧ w' = w.drew := by
  have hUS := Any.unsafeString_none L X
  have c1 : w.drew.cell? ⟨b, 1, none⟩ = some (.slice none 0 0) := by
    have : w.drew.heap[b]? = some (.cells #[p, .slice none 0 0] (ρ.t 72) (0, 0)) := hbk
    rw [Lib.cell_of_heap this]; rfl
  have hSD : (Builtin.unsafeSliceData_ #[(ρ.t 37)] (ρ.t 127) #[.slice none 0 0]).run P w.drew = .ok (.pointer none) w.drew := rfl
  have mixed := L.mixed
  have t72 := L.t72; have a72 := L.a72; have z72 := L.z72; have v72 := L.v72; have u72 := run_underlying L.t72
  have t70 := L.t70; have a70 := L.a70; have z70 := L.z70; have v70 := L.v70; have u70 := run_underlying L.t70
  have t37 := L.t37; have a37 := L.a37; have z37 := L.z37; have v37 := L.v37; have u37 := run_underlying L.t37
  have t127 := L.t127; have a127 := L.a127; have z127 := L.z127; have v127 := L.v127; have u127 := run_underlying L.t127
  have t3 := L.t3; have a3 := L.a3; have z3 := L.z3; have v3 := L.v3; have u3 := run_underlying L.t3
  have t9 := L.t9; have a9 := L.a9; have z9 := L.z9; have v9 := L.v9; have u9 := run_underlying L.t9
  have t5 := X.t5; have a5 := X.a5; have z5 := X.z5; have v5 := X.v5; have u5 := run_underlying X.t5
  go_enter L.f169, Body.n169_ntmps ρ
  go_wp2
  go_region_o
  all_goals (go_wp2; go_ret; exact ⟨rfl, rfl⟩)

set_option maxHeartbeats 2000000 in
set_option maxRecDepth 100000 in
theorem str_room (L : Lays.n169 P ρ) (X : Builder.Extra P ρ) (b g cap : Nat) (p : Value) (w : World) (hc0 : cap ≠ 0) (hbk : w.heap[b]? = some (.cells #[p, .slice (some ⟨g, 0, none⟩) 0 cap] (ρ.t 72) (0, 0))) :
    Calls P (ρ.f 169) #[.pointer (some ⟨b, 0, none⟩)] w fun e w' => e = .returned (.string ⟨#[]⟩) ∧ w' = w.drew := by
  have hUS := Any.unsafeString_none L X
  have c1 : w.drew.cell? ⟨b, 1, none⟩ = some (.slice (some ⟨g, 0, none⟩) 0 cap) := by
    have : w.drew.heap[b]? = some (.cells #[p, .slice (some ⟨g, 0, none⟩) 0 cap] (ρ.t 72) (0, 0)) := hbk
    rw [Lib.cell_of_heap this]; rfl
  have hSD : (Builtin.unsafeSliceData_ #[(ρ.t 37)] (ρ.t 127) #[.slice (some ⟨g, 0, none⟩) 0 cap]).run P w.drew = .ok (.pointer (some ⟨g, 0, none⟩)) w.drew :=
    Lib.run_unsafeSliceData_row _ _ _ _ _ _ hc0
  clear hc0
  have mixed := L.mixed
  have t72 := L.t72; have a72 := L.a72; have z72 := L.z72; have v72 := L.v72; have u72 := run_underlying L.t72
  have t70 := L.t70; have a70 := L.a70; have z70 := L.z70; have v70 := L.v70; have u70 := run_underlying L.t70
  have t37 := L.t37; have a37 := L.a37; have z37 := L.z37; have v37 := L.v37; have u37 := run_underlying L.t37
  have t127 := L.t127; have a127 := L.a127; have z127 := L.z127; have v127 := L.v127; have u127 := run_underlying L.t127
  have t3 := L.t3; have a3 := L.a3; have z3 := L.z3; have v3 := L.v3; have u3 := run_underlying L.t3
  have t9 := L.t9; have a9 := L.a9; have z9 := L.z9; have v9 := L.v9; have u9 := run_underlying L.t9
  have t5 := X.t5; have a5 := X.a5; have z5 := X.z5; have v5 := X.v5; have u5 := run_underlying X.t5
  go_enter L.f169, Body.n169_ntmps ρ
  go_wp2
  go_region_o
  all_goals (go_wp2; go_ret; exact ⟨rfl, rfl⟩)

end
end Go.Td
