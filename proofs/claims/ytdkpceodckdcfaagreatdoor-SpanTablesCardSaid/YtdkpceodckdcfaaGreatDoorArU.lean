/- The text of a table: what is printed, and what is read. -/
import Derived.Test.YtdkpceodckdcfaaGreatDoorArA
set_option linter.unusedSimpArgs false
set_option linter.unusedVariables false
namespace Go.Ar
open Go Go.Sx Go.Lib
def xT (x : Row) : zp := itoa x.w ++ 32 :: (itoa x.d ++ 32 :: (itoa x.s ++ 32 :: (itoa x.q ++ 32 :: (itoa x.n ++ [10]))))
def wB (l : List Row) : zp := (l.map xT).flatten
theorem So (l : List Row) (x : Row) : wB (l ++ [x]) = wB l ++ xT x := by unfold wB; simp
theorem Yt (x : Row) (l : List Row) : wB (x :: l) = xT x ++ wB l := by unfold wB; simp
def ZD (s : zp) : Nat := (s.takeWhile zC).length
def YO (s : zp) : Bool := ZH (s.takeWhile zC) && Nat.ble (ZD s) 9
def U3 (e : UInt8) (s : zp) : Option (Int × zp) :=
 bif YO s && ((s.drop (ZD s)).head? == some e) then some ((zP (s.takeWhile zC) : Int), s.drop (ZD s + 1)) else none
def Z0 (s : zp) : Option (Row × zp) := do
 let (w, s) ← U3 32 s
 let (d, s) ← U3 32 s
 let (p, s) ← U3 32 s
 let (q, s) ← U3 32 s
 let (n, s) ← U3 10 s
 pure (⟨w, d, p, q, n⟩, s)
def Sw (n : Int) : Bool := leB 0 n && zl n 1000000000
def y2 (x : Row) : Bool := Sw x.w && Sw x.d && Sw x.s && Sw x.q && Sw x.n
theorem yH {n : Int} : Sw n = true ↔ 0 ≤ n ∧ n < 1000000000 := by unfold Sw; rw [Bool.and_eq_true, Zk, zK]
theorem Ww {a b : zp} {e : UInt8} (ha : ∀ c ∈ a, zC c = true) (he : zC e = false) : (a ++ e :: b).takeWhile zC = a := by
 induction a with
 | nil => simp [he]
 | cons x r ih =>
  rw [List.cons_append, List.takeWhile_cons, ha x List.mem_cons_self, if_pos rfl, ih fun c hc => ha c (List.mem_cons_of_mem _ hc)]
theorem UZ {e : UInt8} (he : zC e = false) {n : Int} {s r : zp} : U3 e s = some (n, r) ↔ Sw n = true ∧ s = itoa n ++ e :: r := by
 constructor
 ·intro h
  unfold U3 at h
  cases hc : (YO s && ((s.drop (ZD s)).head? == some e)) with
  | false => rw [hc] at h; cases h
  | true =>
   rw [hc] at h
   obtain ⟨h1, h2⟩ := Prod.mk.inj (Option.some.inj h)
   rw [Bool.and_eq_true] at hc
   obtain ⟨c1, c2⟩ := hc
   unfold YO at c1
   rw [Bool.and_eq_true] at c1
   obtain ⟨c1, c3⟩ := c1
   have c3 : ZD s ≤ 9 := Nat.le_of_ble_eq_true c3
   have hd := Zb c1
   have hall := (Zv.1 c1).2.1
   have hlt : zP (s.takeWhile zC) < 10 ^ 9 := Nat.lt_of_lt_of_le (Xg (List.all_eq_true.2 hall)) (Nat.pow_le_pow_right (by omega) c3)
   subst h1 h2
   refine ⟨yH.2 ⟨by omega, by omega⟩, ?_⟩
   rw [yP, hd]
   have hsp : s = s.takeWhile zC ++ s.drop (ZD s) := by
    have e1 := List.takeWhile_append_dropWhile (p := zC) (l := s)
    have e2 : s.drop (ZD s) = s.dropWhile zC := by
     conv => lhs; arg 2; rw [← e1]
     unfold ZD
     rw [List.drop_left]
    rw [e2, e1]
   have hhd : s.drop (ZD s) = e :: s.drop (ZD s + 1) := by
    rw [← List.drop_drop]
    have c2 : (s.drop (ZD s)).head? = some e := by simpa using c2
    match hm : s.drop (ZD s), c2 with
    | x :: t, c2 =>
     have : x = e := by simpa using c2
     subst this
     rfl
   rw [← hhd]
   exact hsp
 ·rintro ⟨h1, rfl⟩
  rw [yH] at h1
  obtain ⟨m, rfl⟩ : ∃ m : Nat, n = m := ⟨n.toNat, by omega⟩
  have hi : itoa (m : Int) = decDigits m := yP m
  have ht : (itoa (m : Int) ++ e :: r).takeWhile zC = decDigits m := by rw [hi]; exact Ww (List.all_eq_true.1 (Yf m)) he
  have hk : ZD (itoa (m : Int) ++ e :: r) = (decDigits m).length := by unfold ZD; rw [ht]
  have hl : (decDigits m).length ≤ 9 := by rw [decDigits_length]; exact (Yr (by omega)).2 (by omega)
  unfold U3
  rw [show YO (itoa (m : Int) ++ e :: r) = true by unfold YO; rw [ht, hk, Yq, Bool.true_and]; exact Nat.ble_eq_true_of_le hl]
  rw [ht, hk, hi, xj, List.drop_left, ← List.drop_drop, List.drop_left]
  simp
theorem ZL {s r : zp} {x : Row} : Z0 s = some (x, r) ↔ y2 x = true ∧ s = xT x ++ r := by
 have h32 : zC 32 = false := by decide
 have h10 : zC 10 = false := by decide
 unfold Z0
 simp only [Option.bind_eq_bind, Option.bind_eq_some_iff, Option.pure_def, Option.some.injEq, Prod.mk.injEq, Prod.exists, UZ h32, UZ h10]
 unfold y2 xT
 simp only [Bool.and_eq_true]
 constructor
 ·rintro ⟨w, s1, ⟨w1, rfl⟩, d, s2, ⟨d1, rfl⟩, p, s3, ⟨p1, rfl⟩, q, s4, ⟨q1, rfl⟩, n, s5, ⟨n1, rfl⟩, rfl, rfl⟩
  exact ⟨⟨⟨⟨⟨w1, d1⟩, p1⟩, q1⟩, n1⟩, by simp [List.append_assoc]⟩
 ·rintro ⟨⟨⟨⟨⟨w1, d1⟩, p1⟩, q1⟩, n1⟩, rfl⟩
  exact ⟨x.w, _, ⟨w1, by simp only [List.append_assoc, List.cons_append]; rfl⟩, x.d, _, ⟨d1, rfl⟩, x.s, _, ⟨p1, rfl⟩, x.q, _, ⟨q1, rfl⟩, x.n, _, ⟨n1, rfl⟩, rfl, rfl⟩
def pO : Nat → zp → Option (List Row)
 | _, [] => some []
 | 0, _ => none
 | f + 1, s => match Z0 s with
  | none => none
  | some (x, r) => (pO f r).map (x :: ·)
def xk (s : zp) : Option (List Row) := pO s.length s
theorem xL (x : Row) : 0 < (xT x).length := by unfold xT; simp; omega
theorem vv : ∀ {f : Nat} {s : zp} {l : List Row}, s.length ≤ f → (pO f s = some l ↔ (∀ x ∈ l, y2 x = true) ∧ s = wB l)
 | f, [], l, _ => by
  have e : pO f [] = some [] := by cases f <;> rfl
  rw [e]
  constructor
  ·intro h
   cases h
   exact ⟨fun x hx => (by cases hx), rfl⟩
  ·rintro ⟨_, h⟩
   match l, h with
   | [], _ => rfl
   | x :: r, h =>
    rw [Yt] at h
    have := congrArg List.length h
    have h2 := xL x
    simp at this
    omega
 | f + 1, c :: t, l, hf => by
  show (match Z0 (c :: t) with | none => none | some (x, r) => (pO f r).map (x :: ·)) = some l ↔ _
  constructor
  ·intro h
   cases hr : Z0 (c :: t) with
   | none => rw [hr] at h; cases h
   | some p =>
    obtain ⟨x, r⟩ := p
    rw [hr] at h
    obtain ⟨h1, h2⟩ := ZL.1 hr
    obtain ⟨l', h3, rfl⟩ := Option.map_eq_some_iff.1 h
    have hlen := congrArg List.length h2
    have hp := xL x
    rw [List.length_append] at hlen
    obtain ⟨h4, h5⟩ := (vv (f := f) (by omega)).1 h3
    refine ⟨fun y hy => ?_, by rw [Yt, ← h5, h2]⟩
    rcases List.mem_cons.1 hy with rfl | hy
    ·exact h1
    ·exact h4 y hy
  ·rintro ⟨h1, h2⟩
   match l, h1, h2 with
   | [], _, h2 => cases h2
   | x :: l', h1, h2 =>
    rw [Yt] at h2
    have hr : Z0 (c :: t) = some (x, wB l') := ZL.2 ⟨h1 x List.mem_cons_self, h2⟩
    have hlen := congrArg List.length h2
    have hp := xL x
    rw [List.length_append] at hlen
    rw [hr]
    show (pO f (wB l')).map (x :: ·) = _
    rw [(vv (f := f) (by omega)).2 ⟨fun y hy => h1 y (List.mem_cons_of_mem _ hy), rfl⟩]
    rfl
theorem yJ {s : zp} {l : List Row} : xk s = some l ↔ (∀ x ∈ l, y2 x = true) ∧ s = wB l := vv (Nat.le_refl _)
theorem u4 {s r : zp} {x : Row} (h : Z0 s = some (x, r)) : xk s = (xk r).map (x :: ·) := by
 obtain ⟨h1, h2⟩ := ZL.1 h
 cases hp : xk r with
 | some l =>
  obtain ⟨h3, h4⟩ := yJ.1 hp
  refine yJ.2 ⟨fun y hy => ?_, by rw [Yt, ← h4, h2]⟩
  rcases List.mem_cons.1 hy with rfl | hy
  ·exact h1
  ·exact h3 y hy
 | none =>
  cases hs : xk s with
  | none => rfl
  | some l =>
   exfalso
   obtain ⟨h3, h4⟩ := yJ.1 hs
   match l, h3, h4 with
   | [], _, h4 =>
    rw [h4] at h2
    have := congrArg List.length h2
    have hp := xL x
    simp [wB] at this
    omega
   | y :: l', h3, h4 =>
    rw [Yt] at h4
    have e := ZL.2 ⟨h3 y List.mem_cons_self, h4⟩
    rw [h] at e
    obtain ⟨rfl, rfl⟩ := Prod.mk.inj (Option.some.inj e)
    rw [yJ.2 ⟨fun z hz => h3 z (List.mem_cons_of_mem _ hz), rfl⟩] at hp
    cases hp
theorem RX {s : zp} (h : Z0 s = none) (h0 : s ≠ []) : xk s = none := by
 cases hs : xk s with
 | none => rfl
 | some l =>
  exfalso
  obtain ⟨h3, h4⟩ := yJ.1 hs
  match l, h3, h4 with
  | [], _, h4 => exact h0 h4
  | y :: l', h3, h4 =>
   rw [Yt] at h4
   rw [ZL.2 ⟨h3 y List.mem_cons_self, h4⟩] at h
   cases h
theorem SN : xk [] = some [] := rfl
def Zn (s : zp) : Int := bif zl 65536 s.length then 4 else match xk s with | none => 3 | some l => zj l
def yS (s : zp) : List Row := bif Zn s == 0 then (xk s).getD [] else []
theorem TK {l : List Row} (h : zj l = 0) : ∀ x ∈ l, y2 x = true := by
 intro x hx
 obtain ⟨i, hi, rfl⟩ := List.getElem_of_mem hx
 obtain ⟨h1, h2⟩ := Tr ((uN h).2 i hi)
 have e : l.getD i r0 = l[i] := by rw [List.getD_eq_getElem?_getD, List.getElem?_eq_getElem hi]; rfl
 rw [e] at h1 h2
 unfold Zf X1 at h1
 simp only [Bool.and_eq_true, yW] at h1 h2
 unfold y2
 simp only [Bool.and_eq_true, yH]
 omega
end Go.Ar

namespace Go.Ar
open Go Go.Sx Go.Lib
def zN (c : UInt8) : zp → List zp
 | [] => [[]]
 | x :: r => bif x == c then [] :: zN c r else (x :: (zN c r).headD []) :: (zN c r).tail
theorem vn {c x : UInt8} (r : zp) (h : (x == c) = false) : zN c (x :: r) = (x :: (zN c r).headD []) :: (zN c r).tail := by
 show (bif x == c then [] :: zN c r else (x :: (zN c r).headD []) :: (zN c r).tail) = _
 rw [h, cond_false]
theorem Xo {c : UInt8} : ∀ {s : zp}, c ∉ s → zN c s = [s]
 | [], _ => rfl
 | x :: r, h => by
  have h1 : (x == c) = false := by rw [beq_eq_false_iff_ne]; intro e; exact h (e ▸ List.mem_cons_self)
  rw [vn _ h1, Xo fun h2 => h (List.mem_cons_of_mem _ h2)]
  rfl
theorem Yy {c : UInt8} {b : zp} : ∀ {a : zp}, c ∉ a → zN c (a ++ c :: b) = a :: zN c b
 | [], _ => by simp [zN]
 | x :: r, h => by
  have h1 : (x == c) = false := by rw [beq_eq_false_iff_ne]; intro e; exact h (e ▸ List.mem_cons_self)
  rw [List.cons_append, vn _ h1, Yy fun h2 => h (List.mem_cons_of_mem _ h2)]
  rfl
theorem yN (c : UInt8) : ∀ s : zp, (zN c s).length = s.count c + 1
 | [] => rfl
 | x :: r => by
  have ih := yN c r
  unfold zN
  rw [List.count_cons]
  cases hx : x == c with
  | true => simp [ih]
  | false => simp [ih]
def Xw (c : UInt8) : List zp → zp
 | [] => []
 | [a] => a
 | a :: b :: r => a ++ c :: Xw c (b :: r)
theorem tN (c x : UInt8) (a : zp) (l : List zp) : Xw c ((x :: a) :: l) = x :: Xw c (a :: l) := by
 cases l <;> simp [Xw]
theorem wU (c : UInt8) : ∀ s : zp, Xw c (zN c s) = s
 | [] => rfl
 | x :: r => by
  have ih := wU c r
  have hl := yN c r
  unfold zN
  cases hx : x == c with
  | true =>
   rw [beq_iff_eq] at hx
   subst hx
   match hc : zN x r, hl with
   | a :: l, _ => rw [cond_true, Xw, ← hc, ih]; rfl
  | false =>
   match hc : zN c r, hl with
   | a :: l, _ =>
    rw [cond_false, List.headD_cons, List.tail_cons, tN, ← hc, ih]
theorem W1 {c : UInt8} : ∀ {a a' b b' : zp}, c ∉ a → c ∉ a' → a ++ c :: b = a' ++ c :: b' → a = a' ∧ b = b'
 | [], [], b, b', _, _, h => ⟨rfl, by simpa using h⟩
 | [], x :: r, b, b', _, h2, h => by
  simp at h
  exact absurd (h.1 ▸ List.mem_cons_self) h2
 | x :: r, [], b, b', h1, _, h => by
  simp at h
  exact absurd (h.1 ▸ List.mem_cons_self) h1
 | x :: r, y :: q, b, b', h1, h2, h => by
  simp only [List.cons_append, List.cons.injEq] at h
  obtain ⟨rfl, h⟩ := h
  obtain ⟨rfl, h4⟩ := W1 (fun e => h1 (List.mem_cons_of_mem _ e)) (fun e => h2 (List.mem_cons_of_mem _ e)) h
  exact ⟨rfl, h4⟩
def YJ (w : zp) : Bool := ZH w && Nat.ble w.length 9
theorem xH {w : zp} : YJ w = true ↔ Sw (zP w) = true ∧ w = itoa (zP w : Nat) := by
 unfold YJ
 rw [Bool.and_eq_true, Nat.ble_eq, yH]
 constructor
 ·rintro ⟨h1, h2⟩
  have hd := Zb h1
  have hlt : zP w < 10 ^ 9 := Nat.lt_of_lt_of_le (Xg (List.all_eq_true.2 (Zv.1 h1).2.1)) (Nat.pow_le_pow_right (by omega) h2)
  refine ⟨⟨by omega, by omega⟩, ?_⟩
  rw [yP, hd]
 ·rintro ⟨h1, h2⟩
  rw [yP] at h2
  rw [h2]
  refine ⟨Yq _, ?_⟩
  rw [decDigits_length]
  exact (Yr (by omega)).2 (by omega)
theorem Zi {n : Int} (h : Sw n = true) : YJ (itoa n) = true ∧ (zP (itoa n) : Int) = n := by
 rw [yH] at h
 obtain ⟨m, rfl⟩ : ∃ m : Nat, n = m := ⟨n.toNat, by omega⟩
 have e : zP (itoa (m : Int)) = m := by rw [yP, xj]
 refine ⟨xH.2 ⟨?_, by rw [e]⟩, by rw [e]⟩
 rw [e, yH]
 omega
theorem yg {n : Int} (h : Sw n = true) {c : UInt8} (hc : zC c = false) : c ∉ itoa n := by
 rw [yH] at h
 obtain ⟨m, rfl⟩ : ∃ m : Nat, n = m := ⟨n.toNat, by omega⟩
 rw [yP]
 intro hm
 rw [List.all_eq_true.1 (Yf m) c hm] at hc
 cases hc
def ZA (l : List zp) : Bool := Nat.beq l.length 5 && l.all YJ
def We (t : zp) : Row := ⟨(zP ((zN 32 t).getD 0 []) : Nat), (zP ((zN 32 t).getD 1 []) : Nat), (zP ((zN 32 t).getD 2 []) : Nat), (zP ((zN 32 t).getD 3 []) : Nat), (zP ((zN 32 t).getD 4 []) : Nat)⟩
def Xq (t : zp) : Bool := ZA (zN 32 t)
def Wi (x : Row) : zp := itoa x.w ++ 32 :: (itoa x.d ++ 32 :: (itoa x.s ++ 32 :: (itoa x.q ++ 32 :: itoa x.n)))
theorem uU (x : Row) (r : zp) : xT x ++ r = Wi x ++ 10 :: r := by unfold xT Wi; simp [List.append_assoc]
theorem rG {t : zp} (h : Xq t = true) : y2 (We t) = true ∧ t = Wi (We t) := by
 unfold Xq ZA at h
 rw [Bool.and_eq_true, Nat.beq_eq] at h
 obtain ⟨h1, h2⟩ := h
 have hj := wU 32 t
 unfold We
 match hc : zN 32 t, h1, h2 with
 | [a, b, c, d, e], _, h2 =>
  simp only [List.all_cons, List.all_nil, Bool.and_true, Bool.and_eq_true, xH] at h2
  obtain ⟨⟨a1, a2⟩, ⟨b1, b2⟩, ⟨c1, c2⟩, ⟨d1, d2⟩, ⟨e1, e2⟩⟩ := h2
  simp only [List.getD_cons_zero, List.getD_cons_succ]
  refine ⟨by unfold y2; simp only [a1, b1, c1, d1, e1, Bool.and_self], ?_⟩
  unfold Wi
  simp only
  rw [← a2, ← b2, ← c2, ← d2, ← e2, ← hj, hc]
  rfl
theorem rH {x : Row} (h : y2 x = true) : zN 32 (Wi x) = [itoa x.w, itoa x.d, itoa x.s, itoa x.q, itoa x.n] := by
 unfold y2 at h
 simp only [Bool.and_eq_true] at h
 obtain ⟨⟨⟨⟨h1, h2⟩, h3⟩, h4⟩, h5⟩ := h
 have e : zC 32 = false := by decide
 unfold Wi
 rw [Yy (yg h1 e), Yy (yg h2 e), Yy (yg h3 e), Yy (yg h4 e), Xo (yg h5 e)]
theorem T8 {x : Row} (h : y2 x = true) : Xq (Wi x) = true ∧ We (Wi x) = x := by
 have hc := rH h
 unfold y2 at h
 simp only [Bool.and_eq_true] at h
 obtain ⟨⟨⟨⟨h1, h2⟩, h3⟩, h4⟩, h5⟩ := h
 unfold Xq We
 rw [hc]
 refine ⟨?_, ?_⟩
 ·unfold ZA
  simp only [List.all_cons, List.all_nil, (Zi h1).1, (Zi h2).1, (Zi h3).1, (Zi h4).1, (Zi h5).1]
  rfl
 ·simp only [List.getD_cons_zero, List.getD_cons_succ, (Zi h1).2, (Zi h2).2, (Zi h3).2, (Zi h4).2, (Zi h5).2]
theorem TJ {x : Row} (h : y2 x = true) : (10 : UInt8) ∉ Wi x := by
 unfold y2 at h
 simp only [Bool.and_eq_true] at h
 obtain ⟨⟨⟨⟨h1, h2⟩, h3⟩, h4⟩, h5⟩ := h
 have e : zC 10 = false := by decide
 unfold Wi
 simp only [List.mem_append, List.mem_cons, yg h1 e, yg h2 e, yg h3 e, yg h4 e, yg h5 e, false_or, or_false]
 decide
theorem TO {t r : zp} (h : (10 : UInt8) ∉ t) : Z0 (t ++ 10 :: r) = bif Xq t then some (We t, r) else none := by
 cases hb : Xq t with
 | true =>
  obtain ⟨h1, h2⟩ := rG hb
  rw [cond_true, ZL]
  exact ⟨h1, by rw [uU, ← h2]⟩
 | false =>
  rw [cond_false]
  cases hr : Z0 (t ++ 10 :: r) with
  | none => rfl
  | some p =>
   exfalso
   obtain ⟨x, r'⟩ := p
   obtain ⟨h1, h2⟩ := ZL.1 hr
   rw [uU] at h2
   obtain ⟨rfl, rfl⟩ := W1 h (TJ h1) h2
   rw [(T8 h1).1] at hb
   cases hb
theorem qk {t : zp} (h : (10 : UInt8) ∉ t) : Z0 t = none := by
 cases hr : Z0 t with
 | none => rfl
 | some p =>
  exfalso
  obtain ⟨x, r'⟩ := p
  obtain ⟨h1, h2⟩ := ZL.1 hr
  rw [uU] at h2
  exact h (h2 ▸ List.mem_append_right _ List.mem_cons_self)
end Go.Ar
