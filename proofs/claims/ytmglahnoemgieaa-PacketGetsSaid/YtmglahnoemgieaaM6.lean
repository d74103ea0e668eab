/- What single functions of the program come to: bare messages, good edges. (And what follows from it, text by text.) -/
import Derived.Test.YtmglahnoemgieaaM5
namespace Go.Proofs.Ytmglahnoemgieaa.Ax
open Go Go.RowKit
set_option linter.unusedSimpArgs false
set_option linter.unusedVariables false
set_option maxHeartbeats 4000000
variable {w0 : World} {t : Option Gf}
theorem f33 (k tk : Int) (s : ByteArray) (a b ver : Int) (v : Int × Int × ByteArray × Bool × Int) (ev : AV) (n : Nat) (he : LenV ev n 4) (h : H) :
    acallI (cfg w0 t) 33 [.agg (vM k tk s a b ver v ev)] h = some (.ret (vB (decide (ver = 0) && zeroV v && decide (n = 0))), h, none) := by
  rw [E33]
  dsimp only [Try.f33, Option.getD]
  have e1 : ((n : Int) = 0) = (n = 0) := by rw [eq_iff_iff]; omega
  rcases he with ⟨b0, g0, rfl⟩ | ⟨rfl, rfl⟩
  · by_cases h1 : ver = 0
    · subst h1
      cases h2 : zeroV v <;> unfold zeroV at h2 <;>
      simp only [reduceIte, reduceCtorEq, Nat.reduceAdd, Nat.reduceMul, Nat.reduceSub, Nat.reduceEqDiff, Nat.reduceLT, Nat.reduceLeDiff, Nat.reduceBEq, Int.reduceLT, Int.reduceLE, Int.reduceEq,
    Int.reduceNe, Int.reduceAdd, Int.reduceSub, Int.reduceMul, Int.reduceToNat, push_cast, pairsOk, locGet, locSet, nextGen, p2_int, intBin, h2, e1, len_sl Try.underlying37]
    · simp only [reduceIte, reduceCtorEq, Nat.reduceAdd, Nat.reduceMul, Nat.reduceSub, Nat.reduceEqDiff, Nat.reduceLT, Nat.reduceLeDiff, Nat.reduceBEq, Int.reduceLT, Int.reduceLE, Int.reduceEq,
    Int.reduceNe, Int.reduceAdd, Int.reduceSub, Int.reduceMul, Int.reduceToNat, push_cast, pairsOk, locGet, locSet, nextGen, p2_int, intBin, h1]
  · by_cases h1 : ver = 0
    · subst h1
      cases h2 : zeroV v <;> unfold zeroV at h2 <;>
      simp only [reduceIte, reduceCtorEq, Nat.reduceAdd, Nat.reduceMul, Nat.reduceSub, Nat.reduceEqDiff, Nat.reduceLT, Nat.reduceLeDiff, Nat.reduceBEq, Int.reduceLT, Int.reduceLE, Int.reduceEq,
    Int.reduceNe, Int.reduceAdd, Int.reduceSub, Int.reduceMul, Int.reduceToNat, push_cast, pairsOk, locGet, locSet, nextGen, p2_int, intBin, h2, e1, len_slice Try.underlying37]
    · simp only [reduceIte, reduceCtorEq, Nat.reduceAdd, Nat.reduceMul, Nat.reduceSub, Nat.reduceEqDiff, Nat.reduceLT, Nat.reduceLeDiff, Nat.reduceBEq, Int.reduceLT, Int.reduceLE, Int.reduceEq,
    Int.reduceNe, Int.reduceAdd, Int.reduceSub, Int.reduceMul, Int.reduceToNat, push_cast, pairsOk, locGet, locSet, nextGen, p2_int, intBin, h1]
/-! ### places in a row -/
structure Pl where
  book : ByteArray
  sheet : ByteArray
  col : Int
  row : Int
structure Ed where
  sheet : ByteArray
  col : Int
  row : Int
  reads : List Pl
def plC (p : Pl) : List AV := [vS p.book, vS p.sheet, vI p.col, vI p.row]
def plsC (l : List Pl) : List AV := l.flatMap plC
theorem plsC_length (l : List Pl) : (plsC l).length = l.length * 4 := by
  induction l with
  | nil => rfl
  | cons p l ih => simp only [plsC, List.flatMap_cons, List.length_append, List.length_cons] at ih ⊢; rw [ih]; simp [plC]; omega
theorem plsC_at (l : List Pl) (i : Nat) (p : Pl) (h : l[i]? = some p) : ((plsC l).drop (i * 4)).take 4 = plC p := by
  induction l generalizing i with
  | nil => simp at h
  | cons q l ih =>
    cases i with
    | zero => simp at h; subst h; rfl
    | succ i =>
      have := ih i (by simpa using h)
      have e : (plsC (q :: l)) = plC q ++ plsC l := rfl
      rw [e, List.drop_append, List.drop_eq_nil_of_le (by simp [plC]; omega), List.nil_append]
      have e2 : (i + 1) * 4 - (plC q).length = i * 4 := by simp [plC]; omega
      rw [e2]; exact this
/-- a slice of our own over such cells -/
def SlR (h : H) (v : AV) (cells : List AV) (n es : Nat) : Prop :=
  (∃ b g k, v = .sl b g 0 n es ∧ h[b]? = some k ∧ k.gen = g ∧ k.cells = cells) ∨ (n = 0 ∧ v = .val (.slice none 0 0))
theorem SlR.len {h : H} {v : AV} {cells : List AV} {n es : Nat} (k : SlR h v cells n es) : LenV v n es := by
  rcases k with ⟨b, g, _, rfl, _⟩ | ⟨rfl, rfl⟩
  · exact .inl ⟨b, g, rfl⟩
  · exact .inr ⟨rfl, rfl⟩
def plOk (p : Pl) : Bool := nameOk p.book && placedOk p.sheet p.col p.row
def plSmall (p : Pl) : Prop := p.book.size ≤ 9223372036854775807 ∧ p.sheet.size ≤ 9223372036854775807
/-- the heap's load of one of them -/
theorem load_pl {h : H} {b : Nat} {k : Blk} {l : List Pl} {i : Nat} {p : Pl} (hb : h[b]? = some k) (hk : k.cells = plsC l) (hp : l[i]? = some p) : i * 4 + 4 ≤ k.cells.length ∧ List.take 4 (List.drop (i * 4) k.cells) = plC p := by
  have hlt : i < l.length := (List.getElem?_eq_some_iff.1 hp).1
  exact ⟨by rw [hk, plsC_length]; omega, by rw [hk, plsC_at l i p hp]⟩
def R35 (h : H) (loc0 : Loc) (F : Nat → AV) (ok : Bool) (R : Option (Ex × S)) : Prop :=
  ∃ F' loc', R = some (if ok then .exit 0 else .ret, ⟨fl 36 F', loc', h, none⟩) ∧ (ok = false → F' 2 = vB false) ∧ (ok = true → F' 1 = F 1 ∧ locGet loc' 1 = locGet loc0 1)
theorem R35.step {h : H} {loc0 loc : Loc} {F0 F : Nat → AV} {ok : Bool} {R : Option (Ex × S)} (k : R35 h loc F ok R) (h1 : F 1 = F0 1) (h2 : locGet loc 1 = locGet loc0 1) : R35 h loc0 F0 ok R := by
  obtain ⟨F', loc', k1, k2, k3⟩ := k
  exact ⟨F', loc', k1, k2, fun e => ⟨(k3 e).1.trans h1, (k3 e).2.trans h2⟩⟩
theorem L35 (l : List Pl) (hsm : ∀ p ∈ l, plSmall p) (b g : Nat) (h : H) (k : Blk) (hb : h[b]? = some k) (hg : k.gen = g) (hk : k.cells = plsC l) (hlen : l.length ≤ 9223372036854775807) : ∀ (n i : Nat) (F : Nat → AV) (loc : Loc), i + n = l.length →
    F 6 = .sl b g 0 l.length 4 → F 7 = vI l.length → F 8 = vI i →
    R35 h loc F ((l.drop i).all plOk) (acodeI (cfg w0 t) 35 (.loop (lp Try.f35 0)) ⟨fl 36 F, loc, h, none⟩) := by
  dsimp only [lp, loopsOf, Try.f35, Option.getD, List.append_eq, List.nil_append, List.cons_append, List.getElem?_cons_zero, List.getElem?_cons_succ]
  intro n
  induction n with
  | zero =>
    intro i F loc hi h6 h7 h8
    have e : ¬ ((i : Int) < l.length) := by omega
    have hnil : l.drop i = [] := List.drop_eq_nil_of_le (by omega)
    rw [hnil, X_loop]
    simp only [reduceIte, reduceCtorEq, Nat.reduceAdd, Nat.reduceMul, Nat.reduceSub, Nat.reduceEqDiff, Nat.reduceLT, Nat.reduceLeDiff, Nat.reduceBEq, Int.reduceLT, Int.reduceLE, Int.reduceEq,
    Int.reduceNe, Int.reduceAdd, Int.reduceSub, Int.reduceMul, Int.reduceToNat, push_cast, pairsOk, locGet_set, p2_int, intBin, h6, h7, h8, e]
    exact ⟨_, _, rfl, fun k => (by cases k), fun _ => ⟨by simp only [reduceIte, reduceCtorEq, Nat.reduceAdd, Nat.reduceMul, Nat.reduceSub, Nat.reduceEqDiff, Nat.reduceLT, Nat.reduceLeDiff, Nat.reduceBEq, Int.reduceLT, Int.reduceLE, Int.reduceEq,
    Int.reduceNe, Int.reduceAdd, Int.reduceSub, Int.reduceMul, Int.reduceToNat, push_cast, pairsOk, locGet_set], rfl⟩⟩
  | succ n ih =>
    intro i F loc hi h6 h7 h8
    have e : (i : Int) < l.length := by omega
    have hlt : i < l.length := by omega
    have hp : l[i]? = some l[i] := List.getElem?_eq_getElem hlt
    have hdr := List.drop_eq_getElem_cons hlt
    have hsp := hsm l[i] (List.getElem_mem hlt)
    obtain ⟨hld1, hld⟩ := load_pl hb hk hp
    have hw : IntKind.i64.wrap ((i : Int) + 1) = ((i + 1 : Nat) : Int) := by rw [wrap_i64] <;> omega
    generalize l[i] = p at hp hdr hsp hld
    have hn : (0 : Int) ≤ i := by omega
    rw [hdr, List.all_cons]
    rw [X_loop]
    unfold plOk
    have hn1 := f49 (w0 := w0) (t := t) p.book hsp.1 h
    have hn2 := f32 (w0 := w0) (t := t) p.sheet p.col p.row hsp.2 h
    unfold plC at hld
    cases ho1 : nameOk p.book
    · simp only [reduceIte, reduceCtorEq, Nat.reduceAdd, Nat.reduceMul, Nat.reduceSub, Nat.reduceEqDiff, Nat.reduceLT, Nat.reduceLeDiff, Nat.reduceBEq, Int.reduceLT, Int.reduceLE, Int.reduceEq,
    Int.reduceNe, Int.reduceAdd, Int.reduceSub, Int.reduceMul, Int.reduceToNat, push_cast, pairsOk, locGet_set, p2_int, intBin, idx_sl elemSize_83, hn, h6, h7, h8, e, hb, hg, hld1, hld, hn1, ho1]
      exact ⟨_, _, rfl, fun _ => by simp only [reduceIte, reduceCtorEq, Nat.reduceAdd, Nat.reduceMul, Nat.reduceSub, Nat.reduceEqDiff, Nat.reduceLT, Nat.reduceLeDiff, Nat.reduceBEq, Int.reduceLT, Int.reduceLE, Int.reduceEq,
    Int.reduceNe, Int.reduceAdd, Int.reduceSub, Int.reduceMul, Int.reduceToNat, push_cast, pairsOk, locGet_set], fun k => (by cases k)⟩
    · cases ho2 : placedOk p.sheet p.col p.row
      · simp only [reduceIte, reduceCtorEq, Nat.reduceAdd, Nat.reduceMul, Nat.reduceSub, Nat.reduceEqDiff, Nat.reduceLT, Nat.reduceLeDiff, Nat.reduceBEq, Int.reduceLT, Int.reduceLE, Int.reduceEq,
    Int.reduceNe, Int.reduceAdd, Int.reduceSub, Int.reduceMul, Int.reduceToNat, push_cast, pairsOk, locGet_set, p2_int, intBin, idx_sl elemSize_83, hn, h6, h7, h8, e, hb, hg, hld1, hld, hn1, ho1, hn2, ho2]
        exact ⟨_, _, rfl, fun _ => by simp only [reduceIte, reduceCtorEq, Nat.reduceAdd, Nat.reduceMul, Nat.reduceSub, Nat.reduceEqDiff, Nat.reduceLT, Nat.reduceLeDiff, Nat.reduceBEq, Int.reduceLT, Int.reduceLE, Int.reduceEq,
    Int.reduceNe, Int.reduceAdd, Int.reduceSub, Int.reduceMul, Int.reduceToNat, push_cast, pairsOk, locGet_set], fun k => (by cases k)⟩
      · simp only [reduceIte, reduceCtorEq, Nat.reduceAdd, Nat.reduceMul, Nat.reduceSub, Nat.reduceEqDiff, Nat.reduceLT, Nat.reduceLeDiff, Nat.reduceBEq, Int.reduceLT, Int.reduceLE, Int.reduceEq,
    Int.reduceNe, Int.reduceAdd, Int.reduceSub, Int.reduceMul, Int.reduceToNat, push_cast, pairsOk, locGet_set, p2_int, intBin, idx_sl elemSize_83, hn, h6, h7, h8, e, hb, hg, hld1, hld, hn1, ho1, hn2, ho2, hw]
        refine R35.step (ih (i + 1) _ _ (by omega) ?_ ?_ ?_) ?_ ?_ <;> simp only [reduceIte, reduceCtorEq, Nat.reduceAdd, Nat.reduceMul, Nat.reduceSub, Nat.reduceEqDiff, Nat.reduceLT, Nat.reduceLeDiff, Nat.reduceBEq, Int.reduceLT, Int.reduceLE, Int.reduceEq,
    Int.reduceNe, Int.reduceAdd, Int.reduceSub, Int.reduceMul, Int.reduceToNat, push_cast, pairsOk, locGet_set, h6, h7]
def edOk (e : Ed) : Bool := e.reads.all plOk && placedOk e.sheet e.col e.row && decide (e.reads.length ≤ 4096)
def edSmall (e : Ed) : Prop := (∀ p ∈ e.reads, plSmall p) ∧ e.sheet.size ≤ 9223372036854775807 ∧ e.reads.length ≤ 9223372036854775807
theorem f35 (e : Ed) (hsm : edSmall e) (rv : AV) (h : H) (hr : SlR h rv (plsC e.reads) e.reads.length 4) : acallI (cfg w0 t) 35 [.agg [vS e.sheet, vI e.col, vI e.row, rv]] h = some (.ret (vB (edOk e)), h, none) := by
  rw [E35]
  have e1 : ((e.reads.length : Int) ≤ 4096) = (e.reads.length ≤ 4096) := cast_le _ 4096
  have hn2 := f32 (w0 := w0) (t := t) e.sheet e.col e.row hsm.2.1 h
  unfold edOk
  rcases hr with ⟨b, g, k, rfl, hb, hg, hk⟩ | ⟨hn, rfl⟩
  · obtain ⟨G, hG⟩ := skol (P := fun a : (Nat → AV) × Loc => a.1 6 = .sl b g 0 e.reads.length 4 ∧ a.1 7 = vI e.reads.length ∧ a.1 8 = vI 0)
      (Q := fun a b => acodeI (cfg w0 t) 35 (.loop (lp Try.f35 0)) ⟨fl 36 a.1, a.2, h, none⟩ = some (if e.reads.all plOk then .exit 0 else .ret, ⟨fl 36 b.1, b.2, h, none⟩) ∧ (e.reads.all plOk = false → b.1 2 = vB false) ∧ (e.reads.all plOk = true → b.1 1 = a.1 1 ∧ locGet b.2 1 = locGet a.2 1)) (β := (Nat → AV) × Loc) (fun a ha => by
        obtain ⟨F', loc', k1, k2, k3⟩ := L35 (w0 := w0) (t := t) e.reads hsm.1 b g h k hb hg hk hsm.2.2 e.reads.length 0 a.1 a.2 (by omega) ha.1 ha.2.1 ha.2.2
        exact ⟨(F', loc'), k1, k2, k3⟩)
    have G1 := fun F loc hc => (hG (F, loc) hc).1
    have G2 := fun F loc hc => (hG (F, loc) hc).2.1
    have G3 := fun F loc hc => (hG (F, loc) hc).2.2
    clear hG
    dsimp only [lp, loopsOf, Try.f35, Option.getD, List.append_eq, List.nil_append, List.cons_append, List.getElem?_cons_zero, List.getElem?_cons_succ] at G1 G2 G3 ⊢
    cases ho : e.reads.all plOk
    · rw [ho] at G1 G2
      have G2 := fun F loc hc => G2 F loc hc rfl
      simp only [reduceIte, reduceCtorEq, Nat.reduceAdd, Nat.reduceMul, Nat.reduceSub, Nat.reduceEqDiff, Nat.reduceLT, Nat.reduceLeDiff, Nat.reduceBEq, Int.reduceLT, Int.reduceLE, Int.reduceEq,
    Int.reduceNe, Int.reduceAdd, Int.reduceSub, Int.reduceMul, Int.reduceToNat, push_cast, pairsOk, locGet_set, p2_int, intBin, len_sl Try.underlying83, G1, G2]
    · rw [ho] at G1 G3
      have G3a := fun F loc hc => (G3 F loc hc rfl).1
      have G3b := fun F loc hc => (G3 F loc hc rfl).2
      cases hp : placedOk e.sheet e.col e.row
      · simp only [reduceIte, reduceCtorEq, Nat.reduceAdd, Nat.reduceMul, Nat.reduceSub, Nat.reduceEqDiff, Nat.reduceLT, Nat.reduceLeDiff, Nat.reduceBEq, Int.reduceLT, Int.reduceLE, Int.reduceEq,
    Int.reduceNe, Int.reduceAdd, Int.reduceSub, Int.reduceMul, Int.reduceToNat, push_cast, pairsOk, locGet_set, p2_int, intBin, len_sl Try.underlying83, G1, G3a, G3b, hn2, hp]
      · simp only [reduceIte, reduceCtorEq, Nat.reduceAdd, Nat.reduceMul, Nat.reduceSub, Nat.reduceEqDiff, Nat.reduceLT, Nat.reduceLeDiff, Nat.reduceBEq, Int.reduceLT, Int.reduceLE, Int.reduceEq,
    Int.reduceNe, Int.reduceAdd, Int.reduceSub, Int.reduceMul, Int.reduceToNat, push_cast, pairsOk, locGet_set, p2_int, intBin, len_sl Try.underlying83, G1, G3a, G3b, hn2, hp, e1]
  · have hnil : e.reads = [] := List.eq_nil_of_length_eq_zero hn
    rw [hnil]
    dsimp only [Try.f35, Option.getD]
    cases hp : placedOk e.sheet e.col e.row <;>
    simp only [reduceIte, reduceCtorEq, Nat.reduceAdd, Nat.reduceMul, Nat.reduceSub, Nat.reduceEqDiff, Nat.reduceLT, Nat.reduceLeDiff, Nat.reduceBEq, Int.reduceLT, Int.reduceLE, Int.reduceEq,
    Int.reduceNe, Int.reduceAdd, Int.reduceSub, Int.reduceMul, Int.reduceToNat, push_cast, pairsOk, locGet, locSet, nextGen, X_loop, p2_int, intBin, len_slice Try.underlying83, hn2, hp]
end Go.Proofs.Ytmglahnoemgieaa.Ax
namespace Go.Proofs.Ytmglahnoemgieaa.Ax
open Go Go.RowKit
set_option linter.unusedSimpArgs false
set_option linter.unusedVariables false
set_option maxHeartbeats 8000000
variable {w0 : World} {t : Option Gf}
abbrev Val := Int × Int × ByteArray × Bool × Int
def EdC (h : H) (e : Ed) (c : List AV) : Prop := ∃ rv, c = [vS e.sheet, vI e.col, vI e.row, rv] ∧ SlR h rv (plsC e.reads) e.reads.length 4
def EdsC (h : H) (l : List Ed) (cs : List AV) : Prop := cs.length = l.length * 4 ∧ ∀ i e, l[i]? = some e → EdC h e ((cs.drop (i * 4)).take 4)
theorem load_ed {h : H} {b : Nat} {k : Blk} {l : List Ed} {i : Nat} {e : Ed} (hb : h[b]? = some k) (hk : EdsC h l k.cells) (hp : l[i]? = some e) : i * 4 + 4 ≤ k.cells.length ∧ ∃ rv, List.take 4 (List.drop (i * 4) k.cells) = [vS e.sheet, vI e.col, vI e.row, rv] ∧ SlR h rv (plsC e.reads) e.reads.length 4 := by
  have hlt : i < l.length := (List.getElem?_eq_some_iff.1 hp).1
  exact ⟨by rw [hk.1]; omega, hk.2 i e hp⟩
def R13 (h : H) (loc0 : Loc) (F : Nat → AV) (ok : Bool) (R : Option (Ex × S)) : Prop :=
  ∃ F' loc', R = some (if ok then .exit 1 else .ret, ⟨fl 90 F', loc', h, none⟩) ∧ (ok = false → F' 2 = vB false) ∧ (ok = true → F' 1 = F 1 ∧ F' 3 = F 3 ∧ locGet loc' 1 = locGet loc0 1)
theorem R13.step {h : H} {loc0 loc : Loc} {F0 F : Nat → AV} {ok : Bool} {R : Option (Ex × S)} (k : R13 h loc F ok R) (h1 : F 1 = F0 1) (h3 : F 3 = F0 3) (h2 : locGet loc 1 = locGet loc0 1) : R13 h loc0 F0 ok R := by
  obtain ⟨F', loc', k1, k2, k3⟩ := k
  exact ⟨F', loc', k1, k2, fun e => ⟨(k3 e).1.trans h1, (k3 e).2.1.trans h3, (k3 e).2.2.trans h2⟩⟩
theorem L13 (l : List Ed) (hsm : ∀ e ∈ l, edSmall e) (b g : Nat) (h : H) (k : Blk) (hb : h[b]? = some k) (hg : k.gen = g) (hk : EdsC h l k.cells) (hlen : l.length ≤ 9223372036854775807) : ∀ (n i : Nat) (F : Nat → AV) (loc : Loc), i + n = l.length →
    F 60 = .sl b g 0 l.length 4 → F 61 = vI l.length → F 62 = vI i →
    R13 h loc F ((l.drop i).all edOk) (acodeI (cfg w0 t) 13 (.loop (lp Try.f13 0)) ⟨fl 90 F, loc, h, none⟩) := by
  dsimp only [lp, loopsOf, Try.f13, Option.getD, List.append_eq, List.nil_append, List.cons_append, List.getElem?_cons_zero, List.getElem?_cons_succ]
  intro n
  induction n with
  | zero =>
    intro i F loc hi h6 h7 h8
    have e : ¬ ((i : Int) < l.length) := by omega
    have hnil : l.drop i = [] := List.drop_eq_nil_of_le (by omega)
    rw [hnil, X_loop]
    simp only [reduceIte, reduceCtorEq, Nat.reduceAdd, Nat.reduceMul, Nat.reduceSub, Nat.reduceEqDiff, Nat.reduceLT, Nat.reduceLeDiff, Nat.reduceBEq, Int.reduceLT, Int.reduceLE, Int.reduceEq,
    Int.reduceNe, Int.reduceAdd, Int.reduceSub, Int.reduceMul, Int.reduceToNat, push_cast, pairsOk, locGet_set, p2_int, intBin, h6, h7, h8, e]
    exact ⟨_, _, rfl, fun k => (by cases k), fun _ => ⟨by simp only [reduceIte, reduceCtorEq, Nat.reduceAdd, Nat.reduceMul, Nat.reduceSub, Nat.reduceEqDiff, Nat.reduceLT, Nat.reduceLeDiff, Nat.reduceBEq, Int.reduceLT, Int.reduceLE, Int.reduceEq,
    Int.reduceNe, Int.reduceAdd, Int.reduceSub, Int.reduceMul, Int.reduceToNat, push_cast, pairsOk, locGet_set], by simp only [reduceIte, reduceCtorEq, Nat.reduceAdd, Nat.reduceMul, Nat.reduceSub, Nat.reduceEqDiff, Nat.reduceLT, Nat.reduceLeDiff, Nat.reduceBEq, Int.reduceLT, Int.reduceLE, Int.reduceEq,
    Int.reduceNe, Int.reduceAdd, Int.reduceSub, Int.reduceMul, Int.reduceToNat, push_cast, pairsOk, locGet_set], rfl⟩⟩
  | succ n ih =>
    intro i F loc hi h6 h7 h8
    have e : (i : Int) < l.length := by omega
    have hlt : i < l.length := by omega
    have hp : l[i]? = some l[i] := List.getElem?_eq_getElem hlt
    have hdr := List.drop_eq_getElem_cons hlt
    have hsp := hsm l[i] (List.getElem_mem hlt)
    obtain ⟨hld1, rv, hld, hrv⟩ := load_ed hb hk hp
    have hw : IntKind.i64.wrap ((i : Int) + 1) = ((i + 1 : Nat) : Int) := by rw [wrap_i64] <;> omega
    generalize l[i] = p at hp hdr hsp hld hrv
    have hn : (0 : Int) ≤ i := by omega
    rw [hdr, List.all_cons, X_loop]
    have hf := f35 (w0 := w0) (t := t) p hsp rv h hrv
    have hnb : noBx rv = true ∧ oneA rv = true := by rcases hrv with ⟨_, _, _, rfl, _⟩ | ⟨_, rfl⟩ <;> exact ⟨rfl, rfl⟩
    cases ho : edOk p
    · simp only [reduceIte, reduceCtorEq, Nat.reduceAdd, Nat.reduceMul, Nat.reduceSub, Nat.reduceEqDiff, Nat.reduceLT, Nat.reduceLeDiff, Nat.reduceBEq, Int.reduceLT, Int.reduceLE, Int.reduceEq,
    Int.reduceNe, Int.reduceAdd, Int.reduceSub, Int.reduceMul, Int.reduceToNat, push_cast, pairsOk, locGet_set, p2_int, intBin, idx_sl elemSize_37, hn, h6, h7, h8, e, hb, hg, hld1, hld, hf, ho, hnb.1, hnb.2]
      exact ⟨_, _, rfl, fun _ => by simp only [reduceIte, reduceCtorEq, Nat.reduceAdd, Nat.reduceMul, Nat.reduceSub, Nat.reduceEqDiff, Nat.reduceLT, Nat.reduceLeDiff, Nat.reduceBEq, Int.reduceLT, Int.reduceLE, Int.reduceEq,
    Int.reduceNe, Int.reduceAdd, Int.reduceSub, Int.reduceMul, Int.reduceToNat, push_cast, pairsOk, locGet_set], fun k => (by cases k)⟩
    · simp only [reduceIte, reduceCtorEq, Nat.reduceAdd, Nat.reduceMul, Nat.reduceSub, Nat.reduceEqDiff, Nat.reduceLT, Nat.reduceLeDiff, Nat.reduceBEq, Int.reduceLT, Int.reduceLE, Int.reduceEq,
    Int.reduceNe, Int.reduceAdd, Int.reduceSub, Int.reduceMul, Int.reduceToNat, push_cast, pairsOk, locGet_set, p2_int, intBin, idx_sl elemSize_37, hn, h6, h7, h8, e, hb, hg, hld1, hld, hf, ho, hnb.1, hnb.2, hw]
      refine R13.step (ih (i + 1) _ _ (by omega) ?_ ?_ ?_) ?_ ?_ ?_ <;> simp only [reduceIte, reduceCtorEq, Nat.reduceAdd, Nat.reduceMul, Nat.reduceSub, Nat.reduceEqDiff, Nat.reduceLT, Nat.reduceLeDiff, Nat.reduceBEq, Int.reduceLT, Int.reduceLE, Int.reduceEq,
    Int.reduceNe, Int.reduceAdd, Int.reduceSub, Int.reduceMul, Int.reduceToNat, push_cast, pairsOk, locGet_set, h6, h7]
structure Msg where
  kind : Int
  ticket : Int
  sheet : ByteArray
  col : Int
  row : Int
  ver : Int
  v : Val
  edges : List Ed
def within (n : Int) : Bool := decide (0 ≤ n) && decide (n ≤ 9007199254740992)
def nowhere (m : Msg) : Bool := decide (m.sheet = .empty) && (decide (m.col = 0) && decide (m.row = 0))
def valOk (v : Val) : Bool := vGood v.1 v.2.1 v.2.2.1 v.2.2.2.1 v.2.2.2.2
def bareM (m : Msg) : Bool := decide (m.ver = 0) && zeroV m.v && decide (m.edges.length = 0)
def msgGood (m : Msg) : Bool := within m.ticket && within m.ver &&
  (if m.kind = 0 then placedOk m.sheet m.col m.row && bareM m
   else if m.kind = 1 then placedOk m.sheet m.col m.row && bareM m
   else if m.kind = 2 then placedOk m.sheet m.col m.row && valOk m.v && decide (m.edges.length = 0)
   else if m.kind = 3 then m.edges.all edOk && nowhere m && zeroV m.v && decide (m.edges.length ≤ 4096)
   else if m.kind = 4 then nowhere m && bareM m
   else false)
def msgSmall (m : Msg) : Prop := m.sheet.size ≤ 9223372036854775807 ∧ (∀ e ∈ m.edges, edSmall e) ∧ m.edges.length ≤ 9223372036854775807
/-- a message's edges as a slice of our own -/
def EdsV (h : H) (l : List Ed) (v : AV) : Prop := (∃ b g k, v = .sl b g 0 l.length 4 ∧ h[b]? = some k ∧ k.gen = g ∧ EdsC h l k.cells) ∨ (l = [] ∧ v = .val (.slice none 0 0))
theorem EdsV.len {h : H} {l : List Ed} {v : AV} (k : EdsV h l v) : LenV v l.length 4 := by
  rcases k with ⟨b, g, _, rfl, _⟩ | ⟨rfl, rfl⟩
  · exact .inl ⟨b, g, rfl⟩
  · exact .inr ⟨rfl, rfl⟩
theorem f13 (m : Msg) (hsm : msgSmall m) (xs : AV) (h : H) (he : EdsV h m.edges xs) : acallI (cfg w0 t) 13 [.agg (vM m.kind m.ticket m.sheet m.col m.row m.ver m.v xs)] h = some (.ret (vB (msgGood m)), h, none) := by
  rw [E13]
  have hlen := he.len
  have k31 := fun n => f31 (w0 := w0) (t := t) n h
  have k32 := f32 (w0 := w0) (t := t) m.sheet m.col m.row hsm.1 h
  have k33 := f33 (w0 := w0) (t := t) m.kind m.ticket m.sheet m.col m.row m.ver m.v xs m.edges.length hlen h
  have k34 := f34 (w0 := w0) (t := t) m.v.1 m.v.2.1 m.v.2.2.1 m.v.2.2.2.1 m.v.2.2.2.2 h
  rw [show (decide (m.ver = 0) && zeroV m.v && decide (m.edges.length = 0)) = bareM m from rfl] at k33
  rw [show vGood m.v.1 m.v.2.1 m.v.2.2.1 m.v.2.2.2.1 m.v.2.2.2.2 = valOk m.v from rfl] at k34
  have hnb : noBx xs = true ∧ oneA xs = true := by rcases hlen with ⟨_, _, rfl⟩ | ⟨_, rfl⟩ <;> exact ⟨rfl, rfl⟩
  unfold msgGood
  have hwt : within m.ticket = (decide (0 ≤ m.ticket) && decide (m.ticket ≤ 9007199254740992)) := rfl
  have hwv : within m.ver = (decide (0 ≤ m.ver) && decide (m.ver ≤ 9007199254740992)) := rfl
  have hlt : ((m.edges.length : Int) = 0) = (m.edges.length = 0) := by rw [eq_iff_iff]; omega
  have hle : ((m.edges.length : Int) ≤ 4096) = (m.edges.length ≤ 4096) := cast_le _ 4096
  cases h1 : within m.ticket
  · dsimp only [Try.f13, Option.getD]
    simp only [reduceIte, reduceCtorEq, Nat.reduceAdd, Nat.reduceMul, Nat.reduceSub, Nat.reduceEqDiff, Nat.reduceLT, Nat.reduceLeDiff, Nat.reduceBEq, Int.reduceLT, Int.reduceLE, Int.reduceEq,
    Int.reduceNe, Int.reduceAdd, Int.reduceSub, Int.reduceMul, Int.reduceToNat, push_cast, pairsOk, locGet, locSet, nextGen, k31, ← hwt, h1]
  cases h2 : within m.ver
  · dsimp only [Try.f13, Option.getD]
    simp only [reduceIte, reduceCtorEq, Nat.reduceAdd, Nat.reduceMul, Nat.reduceSub, Nat.reduceEqDiff, Nat.reduceLT, Nat.reduceLeDiff, Nat.reduceBEq, Int.reduceLT, Int.reduceLE, Int.reduceEq,
    Int.reduceNe, Int.reduceAdd, Int.reduceSub, Int.reduceMul, Int.reduceToNat, push_cast, pairsOk, locGet, locSet, nextGen, k31, ← hwt, ← hwv, h1, h2]
  cases h4 : decide (m.sheet = .empty)
  · -- no empty sheet
    have hnw : nowhere m = false := by unfold nowhere; rw [h4]; rfl
    by_cases k0 : m.kind = 0
    · rw [k0] at k33 ⊢
      dsimp only [Try.f13, Option.getD]
      cases h3 : placedOk m.sheet m.col m.row <;>
      simp only [reduceIte, reduceCtorEq, Nat.reduceAdd, Nat.reduceMul, Nat.reduceSub, Nat.reduceEqDiff, Nat.reduceLT, Nat.reduceLeDiff, Nat.reduceBEq, Int.reduceLT, Int.reduceLE, Int.reduceEq,
    Int.reduceNe, Int.reduceAdd, Int.reduceSub, Int.reduceMul, Int.reduceToNat, push_cast, pairsOk, locGet, locSet, nextGen, k31, k32, k33, ← hwt, ← hwv, h1, h2, h3, h4, p2_int, intBin, p2_str, strBin, hnb.1, hnb.2]
    by_cases k1 : m.kind = 1
    · rw [k1] at k33 ⊢
      dsimp only [Try.f13, Option.getD]
      cases h3 : placedOk m.sheet m.col m.row <;>
      simp only [reduceIte, reduceCtorEq, Nat.reduceAdd, Nat.reduceMul, Nat.reduceSub, Nat.reduceEqDiff, Nat.reduceLT, Nat.reduceLeDiff, Nat.reduceBEq, Int.reduceLT, Int.reduceLE, Int.reduceEq,
    Int.reduceNe, Int.reduceAdd, Int.reduceSub, Int.reduceMul, Int.reduceToNat, push_cast, pairsOk, locGet, locSet, nextGen, k31, k32, k33, ← hwt, ← hwv, h1, h2, h3, h4, p2_int, intBin, p2_str, strBin, hnb.1, hnb.2]
    by_cases k2 : m.kind = 2
    · rw [k2]
      dsimp only [Try.f13, Option.getD]
      cases h3 : placedOk m.sheet m.col m.row
      · simp only [reduceIte, reduceCtorEq, Nat.reduceAdd, Nat.reduceMul, Nat.reduceSub, Nat.reduceEqDiff, Nat.reduceLT, Nat.reduceLeDiff, Nat.reduceBEq, Int.reduceLT, Int.reduceLE, Int.reduceEq,
    Int.reduceNe, Int.reduceAdd, Int.reduceSub, Int.reduceMul, Int.reduceToNat, push_cast, pairsOk, locGet, locSet, nextGen, k31, k32, ← hwt, ← hwv, h1, h2, h3, h4, p2_int, intBin, p2_str, strBin]
      · cases h5 : valOk m.v
        · simp only [reduceIte, reduceCtorEq, Nat.reduceAdd, Nat.reduceMul, Nat.reduceSub, Nat.reduceEqDiff, Nat.reduceLT, Nat.reduceLeDiff, Nat.reduceBEq, Int.reduceLT, Int.reduceLE, Int.reduceEq,
    Int.reduceNe, Int.reduceAdd, Int.reduceSub, Int.reduceMul, Int.reduceToNat, push_cast, pairsOk, locGet, locSet, nextGen, k31, k32, k34, ← hwt, ← hwv, h1, h2, h3, h4, h5, p2_int, intBin, p2_str, strBin]
        · rcases hlen with ⟨b0, g0, rfl⟩ | ⟨hn0, rfl⟩
          · simp only [reduceIte, reduceCtorEq, Nat.reduceAdd, Nat.reduceMul, Nat.reduceSub, Nat.reduceEqDiff, Nat.reduceLT, Nat.reduceLeDiff, Nat.reduceBEq, Int.reduceLT, Int.reduceLE, Int.reduceEq,
    Int.reduceNe, Int.reduceAdd, Int.reduceSub, Int.reduceMul, Int.reduceToNat, push_cast, pairsOk, locGet, locSet, nextGen, k31, k32, k34, ← hwt, ← hwv, h1, h2, h3, h4, h5, p2_int, intBin, p2_str, strBin, len_sl Try.underlying37, hlt]
          · simp only [reduceIte, reduceCtorEq, Nat.reduceAdd, Nat.reduceMul, Nat.reduceSub, Nat.reduceEqDiff, Nat.reduceLT, Nat.reduceLeDiff, Nat.reduceBEq, Int.reduceLT, Int.reduceLE, Int.reduceEq,
    Int.reduceNe, Int.reduceAdd, Int.reduceSub, Int.reduceMul, Int.reduceToNat, push_cast, pairsOk, locGet, locSet, nextGen, k31, k32, k34, ← hwt, ← hwv, h1, h2, h3, h4, h5, p2_int, intBin, p2_str, strBin, len_slice Try.underlying37, hlt, hn0]
    by_cases k3 : m.kind = 3
    · rw [k3, hnw, Bool.and_false, Bool.false_and, Bool.false_and]
      rcases he with ⟨b, g, k, rfl, hb, hg, hk⟩ | ⟨hn0, rfl⟩
      · obtain ⟨G, hG⟩ := skol (P := fun a : (Nat → AV) × Loc => a.1 60 = .sl b g 0 m.edges.length 4 ∧ a.1 61 = vI m.edges.length ∧ a.1 62 = vI 0)
          (Q := fun a b => acodeI (cfg w0 t) 13 (.loop (lp Try.f13 0)) ⟨fl 90 a.1, a.2, h, none⟩ = some (if m.edges.all edOk then .exit 1 else .ret, ⟨fl 90 b.1, b.2, h, none⟩) ∧ (m.edges.all edOk = false → b.1 2 = vB false) ∧ (m.edges.all edOk = true → b.1 1 = a.1 1 ∧ b.1 3 = a.1 3 ∧ locGet b.2 1 = locGet a.2 1)) (β := (Nat → AV) × Loc) (fun a ha => by
            obtain ⟨F', loc', q1, q2, q3⟩ := L13 (w0 := w0) (t := t) m.edges hsm.2.1 b g h k hb hg hk hsm.2.2 m.edges.length 0 a.1 a.2 (by omega) ha.1 ha.2.1 ha.2.2
            exact ⟨(F', loc'), q1, q2, q3⟩)
        have G1 := fun F loc hc => (hG (F, loc) hc).1
        have G2 := fun F loc hc => (hG (F, loc) hc).2.1
        have G3 := fun F loc hc => (hG (F, loc) hc).2.2
        clear hG
        dsimp only [lp, loopsOf, Try.f13, Option.getD, List.append_eq, List.nil_append, List.cons_append, List.getElem?_cons_zero, List.getElem?_cons_succ] at G1 G2 G3 ⊢
        cases ho : m.edges.all edOk
        · rw [ho] at G1 G2
          have G2 := fun F loc hc => G2 F loc hc rfl
          simp only [reduceIte, reduceCtorEq, Nat.reduceAdd, Nat.reduceMul, Nat.reduceSub, Nat.reduceEqDiff, Nat.reduceLT, Nat.reduceLeDiff, Nat.reduceBEq, Int.reduceLT, Int.reduceLE, Int.reduceEq,
    Int.reduceNe, Int.reduceAdd, Int.reduceSub, Int.reduceMul, Int.reduceToNat, push_cast, pairsOk, locGet_set, k31, ← hwt, ← hwv, h1, h2, h4, p2_int, intBin, p2_str, strBin, len_sl Try.underlying37, G1, G2]
        · rw [ho] at G1 G3
          have G3a := fun F loc hc => (G3 F loc hc rfl).1
          have G3c := fun F loc hc => (G3 F loc hc rfl).2.1
          have G3b := fun F loc hc => (G3 F loc hc rfl).2.2
          simp only [reduceIte, reduceCtorEq, Nat.reduceAdd, Nat.reduceMul, Nat.reduceSub, Nat.reduceEqDiff, Nat.reduceLT, Nat.reduceLeDiff, Nat.reduceBEq, Int.reduceLT, Int.reduceLE, Int.reduceEq,
    Int.reduceNe, Int.reduceAdd, Int.reduceSub, Int.reduceMul, Int.reduceToNat, push_cast, pairsOk, locGet_set, k31, ← hwt, ← hwv, h1, h2, h4, p2_int, intBin, p2_str, strBin, len_sl Try.underlying37, G1, G3a, G3b, G3c]
      · dsimp only [Try.f13, Option.getD]
        simp only [reduceIte, reduceCtorEq, Nat.reduceAdd, Nat.reduceMul, Nat.reduceSub, Nat.reduceEqDiff, Nat.reduceLT, Nat.reduceLeDiff, Nat.reduceBEq, Int.reduceLT, Int.reduceLE, Int.reduceEq,
    Int.reduceNe, Int.reduceAdd, Int.reduceSub, Int.reduceMul, Int.reduceToNat, push_cast, pairsOk, locGet, locSet, nextGen, X_loop, k31, ← hwt, ← hwv, h1, h2, h4, p2_int, intBin, p2_str, strBin, len_slice Try.underlying37]
    by_cases k4 : m.kind = 4
    · rw [k4, hnw]
      dsimp only [Try.f13, Option.getD]
      simp only [reduceIte, reduceCtorEq, Nat.reduceAdd, Nat.reduceMul, Nat.reduceSub, Nat.reduceEqDiff, Nat.reduceLT, Nat.reduceLeDiff, Nat.reduceBEq, Int.reduceLT, Int.reduceLE, Int.reduceEq,
    Int.reduceNe, Int.reduceAdd, Int.reduceSub, Int.reduceMul, Int.reduceToNat, push_cast, pairsOk, locGet, locSet, nextGen, k31, ← hwt, ← hwv, h1, h2, h4, p2_int, intBin, p2_str, strBin]
    · dsimp only [Try.f13, Option.getD]
      simp only [reduceIte, reduceCtorEq, Nat.reduceAdd, Nat.reduceMul, Nat.reduceSub, Nat.reduceEqDiff, Nat.reduceLT, Nat.reduceLeDiff, Nat.reduceBEq, Int.reduceLT, Int.reduceLE, Int.reduceEq,
    Int.reduceNe, Int.reduceAdd, Int.reduceSub, Int.reduceMul, Int.reduceToNat, push_cast, pairsOk, locGet, locSet, nextGen, k31, ← hwt, ← hwv, h1, h2, h4, p2_int, intBin, p2_str, strBin, k0, k1, k2, k3, k4]
  · -- an empty sheet
    have hnw : nowhere m = (decide (m.col = 0) && decide (m.row = 0)) := by unfold nowhere; rw [h4]; rfl
    have hse : m.sheet = .empty := of_decide_eq_true h4
    have hpl : placedOk m.sheet m.col m.row = false := by rw [hse]; unfold placedOk; rw [show nameOk ByteArray.empty = false from rfl]; rfl
    rw [hpl] at k32 ⊢
    by_cases k0 : m.kind = 0
    · rw [k0]
      dsimp only [Try.f13, Option.getD]
      simp only [reduceIte, reduceCtorEq, Nat.reduceAdd, Nat.reduceMul, Nat.reduceSub, Nat.reduceEqDiff, Nat.reduceLT, Nat.reduceLeDiff, Nat.reduceBEq, Int.reduceLT, Int.reduceLE, Int.reduceEq,
    Int.reduceNe, Int.reduceAdd, Int.reduceSub, Int.reduceMul, Int.reduceToNat, push_cast, pairsOk, locGet, locSet, nextGen, k31, k32, ← hwt, ← hwv, h1, h2, h4, p2_int, intBin, p2_str, strBin]
    by_cases k1 : m.kind = 1
    · rw [k1]
      dsimp only [Try.f13, Option.getD]
      simp only [reduceIte, reduceCtorEq, Nat.reduceAdd, Nat.reduceMul, Nat.reduceSub, Nat.reduceEqDiff, Nat.reduceLT, Nat.reduceLeDiff, Nat.reduceBEq, Int.reduceLT, Int.reduceLE, Int.reduceEq,
    Int.reduceNe, Int.reduceAdd, Int.reduceSub, Int.reduceMul, Int.reduceToNat, push_cast, pairsOk, locGet, locSet, nextGen, k31, k32, ← hwt, ← hwv, h1, h2, h4, p2_int, intBin, p2_str, strBin]
    by_cases k2 : m.kind = 2
    · rw [k2]
      dsimp only [Try.f13, Option.getD]
      simp only [reduceIte, reduceCtorEq, Nat.reduceAdd, Nat.reduceMul, Nat.reduceSub, Nat.reduceEqDiff, Nat.reduceLT, Nat.reduceLeDiff, Nat.reduceBEq, Int.reduceLT, Int.reduceLE, Int.reduceEq,
    Int.reduceNe, Int.reduceAdd, Int.reduceSub, Int.reduceMul, Int.reduceToNat, push_cast, pairsOk, locGet, locSet, nextGen, k31, k32, ← hwt, ← hwv, h1, h2, h4, p2_int, intBin, p2_str, strBin]
    by_cases k3 : m.kind = 3
    · rw [k3]
      have hz : zeroV m.v = (decide (m.v.1 = 0) && (decide (m.v.2.1 = 0) && (decide (m.v.2.2.1 = .empty) && (decide (m.v.2.2.2.1 = false) && decide (m.v.2.2.2.2 = 0))))) := rfl
      rcases he with ⟨b, g, k, rfl, hb, hg, hk⟩ | ⟨hn0, rfl⟩
      · obtain ⟨G, hG⟩ := skol (P := fun a : (Nat → AV) × Loc => a.1 60 = .sl b g 0 m.edges.length 4 ∧ a.1 61 = vI m.edges.length ∧ a.1 62 = vI 0)
          (Q := fun a b => acodeI (cfg w0 t) 13 (.loop (lp Try.f13 0)) ⟨fl 90 a.1, a.2, h, none⟩ = some (if m.edges.all edOk then .exit 1 else .ret, ⟨fl 90 b.1, b.2, h, none⟩) ∧ (m.edges.all edOk = false → b.1 2 = vB false) ∧ (m.edges.all edOk = true → b.1 1 = a.1 1 ∧ b.1 3 = a.1 3 ∧ locGet b.2 1 = locGet a.2 1)) (β := (Nat → AV) × Loc) (fun a ha => by
            obtain ⟨F', loc', q1, q2, q3⟩ := L13 (w0 := w0) (t := t) m.edges hsm.2.1 b g h k hb hg hk hsm.2.2 m.edges.length 0 a.1 a.2 (by omega) ha.1 ha.2.1 ha.2.2
            exact ⟨(F', loc'), q1, q2, q3⟩)
        have G1 := fun F loc hc => (hG (F, loc) hc).1
        have G2 := fun F loc hc => (hG (F, loc) hc).2.1
        have G3 := fun F loc hc => (hG (F, loc) hc).2.2
        clear hG
        dsimp only [lp, loopsOf, Try.f13, Option.getD, List.append_eq, List.nil_append, List.cons_append, List.getElem?_cons_zero, List.getElem?_cons_succ] at G1 G2 G3 ⊢
        cases ho : m.edges.all edOk
        · rw [ho] at G1 G2
          have G2 := fun F loc hc => G2 F loc hc rfl
          simp only [reduceIte, reduceCtorEq, Nat.reduceAdd, Nat.reduceMul, Nat.reduceSub, Nat.reduceEqDiff, Nat.reduceLT, Nat.reduceLeDiff, Nat.reduceBEq, Int.reduceLT, Int.reduceLE, Int.reduceEq,
    Int.reduceNe, Int.reduceAdd, Int.reduceSub, Int.reduceMul, Int.reduceToNat, push_cast, pairsOk, locGet_set, k31, ← hwt, ← hwv, h1, h2, h4, p2_int, intBin, p2_str, strBin, len_sl Try.underlying37, G1, G2]
        · rw [ho] at G1 G3
          have G3a := fun F loc hc => (G3 F loc hc rfl).1
          have G3c := fun F loc hc => (G3 F loc hc rfl).2.1
          have G3b := fun F loc hc => (G3 F loc hc rfl).2.2
          cases hn : nowhere m <;> rw [hnw] at hn
          · simp only [reduceIte, reduceCtorEq, Nat.reduceAdd, Nat.reduceMul, Nat.reduceSub, Nat.reduceEqDiff, Nat.reduceLT, Nat.reduceLeDiff, Nat.reduceBEq, Int.reduceLT, Int.reduceLE, Int.reduceEq,
    Int.reduceNe, Int.reduceAdd, Int.reduceSub, Int.reduceMul, Int.reduceToNat, push_cast, pairsOk, locGet_set, k31, ← hwt, ← hwv, h1, h2, h4, p2_int, intBin, p2_str, strBin, len_sl Try.underlying37, G1, G3a, G3b, G3c, hn]
          · cases h5 : zeroV m.v <;> rw [hz] at h5 <;>
            simp only [reduceIte, reduceCtorEq, Nat.reduceAdd, Nat.reduceMul, Nat.reduceSub, Nat.reduceEqDiff, Nat.reduceLT, Nat.reduceLeDiff, Nat.reduceBEq, Int.reduceLT, Int.reduceLE, Int.reduceEq,
    Int.reduceNe, Int.reduceAdd, Int.reduceSub, Int.reduceMul, Int.reduceToNat, push_cast, pairsOk, locGet_set, k31, ← hwt, ← hwv, h1, h2, h4, p2_int, intBin, p2_str, strBin, len_sl Try.underlying37, G1, G3a, G3b, G3c, hn, h5, hle]
      · rw [hn0]
        dsimp only [Try.f13, Option.getD]
        cases hn : nowhere m <;> rw [hnw] at hn
        · simp only [reduceIte, reduceCtorEq, Nat.reduceAdd, Nat.reduceMul, Nat.reduceSub, Nat.reduceEqDiff, Nat.reduceLT, Nat.reduceLeDiff, Nat.reduceBEq, Int.reduceLT, Int.reduceLE, Int.reduceEq,
    Int.reduceNe, Int.reduceAdd, Int.reduceSub, Int.reduceMul, Int.reduceToNat, push_cast, pairsOk, locGet, locSet, nextGen, X_loop, k31, ← hwt, ← hwv, h1, h2, h4, p2_int, intBin, p2_str, strBin, len_slice Try.underlying37, hn]
        · cases h5 : zeroV m.v <;> rw [hz] at h5 <;>
          simp only [reduceIte, reduceCtorEq, Nat.reduceAdd, Nat.reduceMul, Nat.reduceSub, Nat.reduceEqDiff, Nat.reduceLT, Nat.reduceLeDiff, Nat.reduceBEq, Int.reduceLT, Int.reduceLE, Int.reduceEq,
    Int.reduceNe, Int.reduceAdd, Int.reduceSub, Int.reduceMul, Int.reduceToNat, push_cast, pairsOk, locGet, locSet, nextGen, X_loop, k31, ← hwt, ← hwv, h1, h2, h4, p2_int, intBin, p2_str, strBin, len_slice Try.underlying37, hn, h5]
    by_cases k4 : m.kind = 4
    · rw [k4] at k33 ⊢
      dsimp only [Try.f13, Option.getD]
      cases hn : nowhere m <;> rw [hnw] at hn <;>
      simp only [reduceIte, reduceCtorEq, Nat.reduceAdd, Nat.reduceMul, Nat.reduceSub, Nat.reduceEqDiff, Nat.reduceLT, Nat.reduceLeDiff, Nat.reduceBEq, Int.reduceLT, Int.reduceLE, Int.reduceEq,
    Int.reduceNe, Int.reduceAdd, Int.reduceSub, Int.reduceMul, Int.reduceToNat, push_cast, pairsOk, locGet, locSet, nextGen, k31, k33, ← hwt, ← hwv, h1, h2, h4, p2_int, intBin, p2_str, strBin, hn, hnb.1, hnb.2]
    · dsimp only [Try.f13, Option.getD]
      simp only [reduceIte, reduceCtorEq, Nat.reduceAdd, Nat.reduceMul, Nat.reduceSub, Nat.reduceEqDiff, Nat.reduceLT, Nat.reduceLeDiff, Nat.reduceBEq, Int.reduceLT, Int.reduceLE, Int.reduceEq,
    Int.reduceNe, Int.reduceAdd, Int.reduceSub, Int.reduceMul, Int.reduceToNat, push_cast, pairsOk, locGet, locSet, nextGen, k31, ← hwt, ← hwv, h1, h2, h4, p2_int, intBin, p2_str, strBin, k0, k1, k2, k3, k4]
end Go.Proofs.Ytmglahnoemgieaa.Ax
namespace Go.Proofs.Ytmglahnoemgieaa.Ax
open Go Go.RowKit
set_option linter.unusedSimpArgs false
set_option linter.unusedVariables false
set_option maxHeartbeats 8000000
variable {w0 : World} {t : Option Gf}
abbrev vN (k tk ver : Int) (s : ByteArray) (a b : Int) (v : Val) (e : AV) : List AV := [vI k, vI tk, vI ver, vS .empty, vS s, vI a, vI b, vI v.1, vI v.2.1, vS v.2.2.1, vB v.2.2.2.1, vI v.2.2.2.2, e]
def REdsC (h : H) (l : List Ed) (cs : List AV) : Prop := cs.length = l.length * 5 ∧ ∀ i e, l[i]? = some e → ∃ rv, List.take 4 (List.drop (i * 5) cs) = [vS .empty, vS e.sheet, vI e.col, vI e.row] ∧ cs[i * 5 + 4]? = some rv ∧ SlR h rv (plsC e.reads) e.reads.length 4
def R14i (h : H) (loc0 : Loc) (F : Nat → AV) (ok : Bool) (R : Option (Ex × S)) : Prop :=
  ∃ F' loc', R = some (if ok then .exit 3 else .ret, ⟨fl 159 F', loc', h, none⟩) ∧ (ok = false → F' 2 = vB false) ∧ (ok = true → F' 1 = F 1 ∧ F' 7 = F 7 ∧ F' 8 = F 8 ∧ locGet loc' 1 = locGet loc0 1)
theorem R14i.step {h : H} {loc0 loc : Loc} {F0 F : Nat → AV} {ok : Bool} {R : Option (Ex × S)} (k : R14i h loc F ok R) (h1 : F 1 = F0 1) (h7 : F 7 = F0 7) (h8 : F 8 = F0 8) (h2 : locGet loc 1 = locGet loc0 1) : R14i h loc0 F0 ok R := by
  obtain ⟨F', loc', k1, k2, k3⟩ := k
  exact ⟨F', loc', k1, k2, fun e => ⟨(k3 e).1.trans h1, (k3 e).2.1.trans h7, (k3 e).2.2.1.trans h8, (k3 e).2.2.2.trans h2⟩⟩
theorem L14i (h : H) (b g len : Nat) (K : Blk) (hb : h[b]? = some K) (hg : K.gen = g) (i : Nat) (hi0 : i < len) (hKlen : i * 5 + 4 + 1 ≤ K.cells.length)
    (l : List Pl) (b' g' : Nat) (hrv : K.cells[i * 5 + 4]? = some (.sl b' g' 0 l.length 4)) (k : Blk) (hb' : h[b']? = some k) (hg' : k.gen = g') (hk : k.cells = plsC l) (hlen : l.length ≤ 9223372036854775807)
    (c0 c1 c2 c3 c4 c5 c6 c7 c8 c9 c10 c11 : AV) : ∀ (n j : Nat) (F : Nat → AV) (loc : Loc), j + n = l.length →
    F 1 = .bx 1 1 0 → locGet loc 1 = some (1, .cells [c0, c1, c2, c3, c4, c5, c6, c7, c8, c9, c10, c11, .sl b g 0 len 5]) → F 8 = vI i → F 10 = vI j →
    R14i h loc F ((l.drop j).all plOk) (acodeI (cfg w0 t) 14 (.loop (lp Try.f14 1)) ⟨fl 159 F, loc, h, none⟩) := by
  dsimp only [lp, loopsOf, Try.f14, Option.getD, List.append_eq, List.nil_append, List.cons_append, List.getElem?_cons_zero, List.getElem?_cons_succ]
  have hn0 : (0 : Int) ≤ i := by omega
  have hil : (i : Int) < len := by omega
  intro n
  induction n with
  | zero =>
    intro j F loc hj h1 hl h8 h10
    have e : ¬ ((j : Int) < l.length) := by omega
    have hnil : l.drop j = [] := List.drop_eq_nil_of_le (by omega)
    rw [hnil, X_loop]
    simp only [reduceIte, reduceCtorEq, Nat.reduceAdd, Nat.reduceMul, Nat.reduceSub, Nat.reduceEqDiff, Nat.reduceLT, Nat.reduceLeDiff, Nat.reduceBEq, Int.reduceLT, Int.reduceLE, Int.reduceEq,
    Int.reduceNe, Int.reduceAdd, Int.reduceSub, Int.reduceMul, Int.reduceToNat, push_cast, pairsOk, locGet_set, p2_int, intBin, idx_sl elemSize_42, len_sl Try.underlying86, h1, hl, h8, h10, e, hn0, hil, hb, hg, hKlen, hrv]
    exact ⟨_, _, rfl, fun k => (by cases k), fun _ => ⟨by simp only [reduceIte, reduceCtorEq, Nat.reduceAdd, Nat.reduceMul, Nat.reduceSub, Nat.reduceEqDiff, Nat.reduceLT, Nat.reduceLeDiff, Nat.reduceBEq, Int.reduceLT, Int.reduceLE, Int.reduceEq,
    Int.reduceNe, Int.reduceAdd, Int.reduceSub, Int.reduceMul, Int.reduceToNat, push_cast, pairsOk, locGet_set, h1], by simp only [reduceIte, reduceCtorEq, Nat.reduceAdd, Nat.reduceMul, Nat.reduceSub, Nat.reduceEqDiff, Nat.reduceLT, Nat.reduceLeDiff, Nat.reduceBEq, Int.reduceLT, Int.reduceLE, Int.reduceEq,
    Int.reduceNe, Int.reduceAdd, Int.reduceSub, Int.reduceMul, Int.reduceToNat, push_cast, pairsOk, locGet_set], by simp only [reduceIte, reduceCtorEq, Nat.reduceAdd, Nat.reduceMul, Nat.reduceSub, Nat.reduceEqDiff, Nat.reduceLT, Nat.reduceLeDiff, Nat.reduceBEq, Int.reduceLT, Int.reduceLE, Int.reduceEq,
    Int.reduceNe, Int.reduceAdd, Int.reduceSub, Int.reduceMul, Int.reduceToNat, push_cast, pairsOk, locGet_set, h8], by rw [hl]⟩⟩
  | succ n ih =>
    intro j F loc hj h1 hl h8 h10
    have e : (j : Int) < l.length := by omega
    have hlt : j < l.length := by omega
    have hp : l[j]? = some l[j] := List.getElem?_eq_getElem hlt
    have hdr := List.drop_eq_getElem_cons hlt
    obtain ⟨hld1, hld⟩ := load_pl hb' hk hp
    have hw : IntKind.i64.wrap ((j : Int) + 1) = ((j + 1 : Nat) : Int) := by rw [wrap_i64] <;> omega
    generalize l[j] = p at hp hdr hld
    have hn : (0 : Int) ≤ j := by omega
    rw [hdr, List.all_cons, X_loop]
    unfold plOk
    have hn1 := f38 (w0 := w0) (t := t) p.book h
    have hn2 := f36 (w0 := w0) (t := t) p.book p.sheet p.col p.row h
    unfold plC at hld
    cases ho2 : placedOk p.sheet p.col p.row
    · cases ho1 : nameOk p.book <;>
      simp only [reduceIte, reduceCtorEq, Nat.reduceAdd, Nat.reduceMul, Nat.reduceSub, Nat.reduceEqDiff, Nat.reduceLT, Nat.reduceLeDiff, Nat.reduceBEq, Int.reduceLT, Int.reduceLE, Int.reduceEq,
    Int.reduceNe, Int.reduceAdd, Int.reduceSub, Int.reduceMul, Int.reduceToNat, push_cast, pairsOk, locGet_set, p2_int, intBin, idx_sl elemSize_42, idx_sl elemSize_86, len_sl Try.underlying86, h1, hl, h8, h10, e, hn0, hn, hil, hb, hg, hKlen, hrv, hb', hg', hld1, hld, hn1, hn2, ho1, ho2] <;>
      exact ⟨_, _, rfl, fun _ => by simp only [reduceIte, reduceCtorEq, Nat.reduceAdd, Nat.reduceMul, Nat.reduceSub, Nat.reduceEqDiff, Nat.reduceLT, Nat.reduceLeDiff, Nat.reduceBEq, Int.reduceLT, Int.reduceLE, Int.reduceEq,
    Int.reduceNe, Int.reduceAdd, Int.reduceSub, Int.reduceMul, Int.reduceToNat, push_cast, pairsOk, locGet_set], fun k => (by cases k)⟩
    · cases ho1 : nameOk p.book
      · simp only [reduceIte, reduceCtorEq, Nat.reduceAdd, Nat.reduceMul, Nat.reduceSub, Nat.reduceEqDiff, Nat.reduceLT, Nat.reduceLeDiff, Nat.reduceBEq, Int.reduceLT, Int.reduceLE, Int.reduceEq,
    Int.reduceNe, Int.reduceAdd, Int.reduceSub, Int.reduceMul, Int.reduceToNat, push_cast, pairsOk, locGet_set, p2_int, intBin, idx_sl elemSize_42, idx_sl elemSize_86, len_sl Try.underlying86, h1, hl, h8, h10, e, hn0, hn, hil, hb, hg, hKlen, hrv, hb', hg', hld1, hld, hn1, hn2, ho1, ho2]
        exact ⟨_, _, rfl, fun _ => by simp only [reduceIte, reduceCtorEq, Nat.reduceAdd, Nat.reduceMul, Nat.reduceSub, Nat.reduceEqDiff, Nat.reduceLT, Nat.reduceLeDiff, Nat.reduceBEq, Int.reduceLT, Int.reduceLE, Int.reduceEq,
    Int.reduceNe, Int.reduceAdd, Int.reduceSub, Int.reduceMul, Int.reduceToNat, push_cast, pairsOk, locGet_set], fun k => (by cases k)⟩
      · simp only [reduceIte, reduceCtorEq, Nat.reduceAdd, Nat.reduceMul, Nat.reduceSub, Nat.reduceEqDiff, Nat.reduceLT, Nat.reduceLeDiff, Nat.reduceBEq, Int.reduceLT, Int.reduceLE, Int.reduceEq,
    Int.reduceNe, Int.reduceAdd, Int.reduceSub, Int.reduceMul, Int.reduceToNat, push_cast, pairsOk, locGet_set, p2_int, intBin, idx_sl elemSize_42, idx_sl elemSize_86, len_sl Try.underlying86, h1, hl, h8, h10, e, hn0, hn, hil, hb, hg, hKlen, hrv, hb', hg', hld1, hld, hn1, hn2, ho1, ho2, hw]
        refine R14i.step (ih (j + 1) _ _ (by omega) ?_ ?_ ?_ ?_) ?_ ?_ ?_ ?_ <;> simp only [reduceIte, reduceCtorEq, Nat.reduceAdd, Nat.reduceMul, Nat.reduceSub, Nat.reduceEqDiff, Nat.reduceLT, Nat.reduceLeDiff, Nat.reduceBEq, Int.reduceLT, Int.reduceLE, Int.reduceEq,
    Int.reduceNe, Int.reduceAdd, Int.reduceSub, Int.reduceMul, Int.reduceToNat, push_cast, pairsOk, locGet_set, h1, hl, h8]
end Go.Proofs.Ytmglahnoemgieaa.Ax
namespace Go.Proofs.Ytmglahnoemgieaa.Ax
open Go Go.RowKit
set_option linter.unusedSimpArgs false
set_option linter.unusedVariables false
set_option maxHeartbeats 8000000
variable {w0 : World} {t : Option Gf}
theorem LenV.lenA {P : Program} {t e : TypeId} {v : AV} {n es : Nat} (k : LenV v n es) (h : P.underlying t = some (.slice e)) : lenA P t v = some (.done (vI n)) := by
  rcases k with ⟨b, g, rfl⟩ | ⟨rfl, rfl⟩
  · exact len_sl h
  · exact len_slice h
theorem L14z (h : H) (b g len : Nat) (K : Blk) (hb : h[b]? = some K) (hg : K.gen = g) (i : Nat) (hi0 : i < len) (hKlen : i * 5 + 4 + 1 ≤ K.cells.length) (hrv : K.cells[i * 5 + 4]? = some (.val (.slice none 0 0)))
    (c0 c1 c2 c3 c4 c5 c6 c7 c8 c9 c10 c11 : AV) (F : Nat → AV) (loc : Loc)
    (h1 : F 1 = .bx 1 1 0) (hl : locGet loc 1 = some (1, .cells [c0, c1, c2, c3, c4, c5, c6, c7, c8, c9, c10, c11, .sl b g 0 len 5])) (h8 : F 8 = vI i) (h10 : F 10 = vI 0) :
    R14i h loc F true (acodeI (cfg w0 t) 14 (.loop (lp Try.f14 1)) ⟨fl 159 F, loc, h, none⟩) := by
  dsimp only [lp, loopsOf, Try.f14, Option.getD, List.append_eq, List.nil_append, List.cons_append, List.getElem?_cons_zero, List.getElem?_cons_succ]
  have hn0 : (0 : Int) ≤ i := by omega
  have hil : (i : Int) < len := by omega
  rw [X_loop]
  simp only [reduceIte, reduceCtorEq, Nat.reduceAdd, Nat.reduceMul, Nat.reduceSub, Nat.reduceEqDiff, Nat.reduceLT, Nat.reduceLeDiff, Nat.reduceBEq, Int.reduceLT, Int.reduceLE, Int.reduceEq,
    Int.reduceNe, Int.reduceAdd, Int.reduceSub, Int.reduceMul, Int.reduceToNat, push_cast, pairsOk, locGet_set, p2_int, intBin, idx_sl elemSize_42, len_slice Try.underlying86, h1, hl, h8, h10, hn0, hil, hb, hg, hKlen, hrv]
  exact ⟨_, _, rfl, fun k => (by cases k), fun _ => ⟨by simp only [reduceIte, reduceCtorEq, Nat.reduceAdd, Nat.reduceMul, Nat.reduceSub, Nat.reduceEqDiff, Nat.reduceLT, Nat.reduceLeDiff, Nat.reduceBEq, Int.reduceLT, Int.reduceLE, Int.reduceEq,
    Int.reduceNe, Int.reduceAdd, Int.reduceSub, Int.reduceMul, Int.reduceToNat, push_cast, pairsOk, locGet_set, h1], by simp only [reduceIte, reduceCtorEq, Nat.reduceAdd, Nat.reduceMul, Nat.reduceSub, Nat.reduceEqDiff, Nat.reduceLT, Nat.reduceLeDiff, Nat.reduceBEq, Int.reduceLT, Int.reduceLE, Int.reduceEq,
    Int.reduceNe, Int.reduceAdd, Int.reduceSub, Int.reduceMul, Int.reduceToNat, push_cast, pairsOk, locGet_set], by simp only [reduceIte, reduceCtorEq, Nat.reduceAdd, Nat.reduceMul, Nat.reduceSub, Nat.reduceEqDiff, Nat.reduceLT, Nat.reduceLeDiff, Nat.reduceBEq, Int.reduceLT, Int.reduceLE, Int.reduceEq,
    Int.reduceNe, Int.reduceAdd, Int.reduceSub, Int.reduceMul, Int.reduceToNat, push_cast, pairsOk, locGet_set, h8], by rw [hl]⟩⟩
theorem L14 (h : H) (b g len : Nat) (K : Blk) (hb : h[b]? = some K) (hg : K.gen = g) (i : Nat) (hi0 : i < len) (hKlen : i * 5 + 4 + 1 ≤ K.cells.length)
    (l : List Pl) (rv : AV) (hrv : K.cells[i * 5 + 4]? = some rv) (hS : SlR h rv (plsC l) l.length 4) (hlen : l.length ≤ 9223372036854775807)
    (c0 c1 c2 c3 c4 c5 c6 c7 c8 c9 c10 c11 : AV) (F : Nat → AV) (loc : Loc)
    (h1 : F 1 = .bx 1 1 0) (hl : locGet loc 1 = some (1, .cells [c0, c1, c2, c3, c4, c5, c6, c7, c8, c9, c10, c11, .sl b g 0 len 5])) (h8 : F 8 = vI i) (h10 : F 10 = vI 0) :
    R14i h loc F (l.all plOk) (acodeI (cfg w0 t) 14 (.loop (lp Try.f14 1)) ⟨fl 159 F, loc, h, none⟩) := by
  rcases hS with ⟨b', g', k, rfl, hb', hg', hk⟩ | ⟨hz, rfl⟩
  · exact L14i h b g len K hb hg i hi0 hKlen l b' g' hrv k hb' hg' hk hlen c0 c1 c2 c3 c4 c5 c6 c7 c8 c9 c10 c11 l.length 0 F loc (by omega) h1 hl h8 h10
  · rw [List.eq_nil_of_length_eq_zero hz]
    exact L14z h b g len K hb hg i hi0 hKlen hrv c0 c1 c2 c3 c4 c5 c6 c7 c8 c9 c10 c11 F loc h1 hl h8 h10
def R14o (h : H) (loc0 : Loc) (F : Nat → AV) (ok : Bool) (R : Option (Ex × S)) : Prop :=
  ∃ F' loc', R = some (if ok then .exit 1 else .ret, ⟨fl 159 F', loc', h, none⟩) ∧ (ok = false → F' 2 = vB false)
theorem L14o (h : H) (es : List Ed) (b g : Nat) (K : Blk) (hb : h[b]? = some K) (hg : K.gen = g) (hK : REdsC h es K.cells) (hlen : es.length ≤ 9223372036854775807) (hsm : ∀ e ∈ es, edSmall e)
    (c0 c1 c2 c3 c4 c5 c6 c7 c8 c9 c10 c11 : AV) : ∀ (n i : Nat) (F : Nat → AV) (loc : Loc), i + n = es.length →
    F 1 = .bx 1 1 0 → locGet loc 1 = some (1, .cells [c0, c1, c2, c3, c4, c5, c6, c7, c8, c9, c10, c11, .sl b g 0 es.length 5]) → F 7 = vI es.length → F 8 = vI i →
    R14o h loc F ((es.drop i).all edOk) (acodeI (cfg w0 t) 14 (.loop (lp Try.f14 0)) ⟨fl 159 F, loc, h, none⟩) := by
  intro n
  induction n with
  | zero =>
    intro i F loc hi h1 hl h7 h8
    have e : ¬ ((i : Int) < es.length) := by omega
    have hnil : es.drop i = [] := List.drop_eq_nil_of_le (by omega)
    dsimp only [lp, loopsOf, Try.f14, Option.getD, List.append_eq, List.nil_append, List.cons_append, List.getElem?_cons_zero, List.getElem?_cons_succ]
    rw [hnil, X_loop]
    simp only [reduceIte, reduceCtorEq, Nat.reduceAdd, Nat.reduceMul, Nat.reduceSub, Nat.reduceEqDiff, Nat.reduceLT, Nat.reduceLeDiff, Nat.reduceBEq, Int.reduceLT, Int.reduceLE, Int.reduceEq,
    Int.reduceNe, Int.reduceAdd, Int.reduceSub, Int.reduceMul, Int.reduceToNat, push_cast, pairsOk, locGet_set, p2_int, intBin, h1, hl, h7, h8, e]
    exact ⟨_, _, rfl, fun k => (by cases k)⟩
  | succ n ih =>
    intro i F loc hi h1 hl h7 h8
    have e : (i : Int) < es.length := by omega
    have hlt : i < es.length := by omega
    have hp : es[i]? = some es[i] := List.getElem?_eq_getElem hlt
    have hdr := List.drop_eq_getElem_cons hlt
    have hsp := hsm es[i] (List.getElem_mem hlt)
    obtain ⟨rv, hP, hrv, hS⟩ := hK.2 i _ hp
    have hK5 : i * 5 + 4 + 1 ≤ K.cells.length := by rw [hK.1]; omega
    have hK4 : i * 5 + 4 ≤ K.cells.length := by omega
    have hw : IntKind.i64.wrap ((i : Int) + 1) = ((i + 1 : Nat) : Int) := by rw [wrap_i64] <;> omega
    generalize es[i] = p at hp hdr hP hS hsp
    have hn : (0 : Int) ≤ i := by omega
    have hn2 := f36 (w0 := w0) (t := t) .empty p.sheet p.col p.row h
    have hle : ((4096 : Int) < p.reads.length) = ¬ (p.reads.length ≤ 4096) := by rw [eq_iff_iff]; omega
    rw [hdr, List.all_cons]
    unfold edOk at ih ⊢
    cases ho2 : placedOk p.sheet p.col p.row
    · dsimp only [lp, loopsOf, Try.f14, Option.getD, List.append_eq, List.nil_append, List.cons_append, List.getElem?_cons_zero, List.getElem?_cons_succ]
      rw [X_loop]
      simp only [reduceIte, reduceCtorEq, Nat.reduceAdd, Nat.reduceMul, Nat.reduceSub, Nat.reduceEqDiff, Nat.reduceLT, Nat.reduceLeDiff, Nat.reduceBEq, Int.reduceLT, Int.reduceLE, Int.reduceEq,
    Int.reduceNe, Int.reduceAdd, Int.reduceSub, Int.reduceMul, Int.reduceToNat, push_cast, pairsOk, locGet_set, p2_int, intBin, idx_sl elemSize_42, h1, hl, h7, h8, e, hn, hb, hg, hK4, hP, hn2, ho2]
      exact ⟨_, _, rfl, fun _ => by simp only [reduceIte, reduceCtorEq, Nat.reduceAdd, Nat.reduceMul, Nat.reduceSub, Nat.reduceEqDiff, Nat.reduceLT, Nat.reduceLeDiff, Nat.reduceBEq, Int.reduceLT, Int.reduceLE, Int.reduceEq,
    Int.reduceNe, Int.reduceAdd, Int.reduceSub, Int.reduceMul, Int.reduceToNat, push_cast, pairsOk, locGet_set]⟩
    have hLn := hS.len.lenA (P := Try.prog) Try.underlying86
    by_cases ho3 : p.reads.length ≤ 4096
    · obtain ⟨G, hG⟩ := skol (P := fun a : (Nat → AV) × Loc => a.1 1 = .bx 1 1 0 ∧ locGet a.2 1 = some (1, .cells [c0, c1, c2, c3, c4, c5, c6, c7, c8, c9, c10, c11, .sl b g 0 es.length 5]) ∧ a.1 8 = vI i ∧ a.1 10 = vI 0)
        (Q := fun a b => acodeI (cfg w0 t) 14 (.loop (lp Try.f14 1)) ⟨fl 159 a.1, a.2, h, none⟩ = some (if p.reads.all plOk then .exit 3 else .ret, ⟨fl 159 b.1, b.2, h, none⟩) ∧ (p.reads.all plOk = false → b.1 2 = vB false) ∧ (p.reads.all plOk = true → b.1 1 = a.1 1 ∧ b.1 7 = a.1 7 ∧ b.1 8 = a.1 8 ∧ locGet b.2 1 = locGet a.2 1)) (β := (Nat → AV) × Loc) (fun a ha => by
          obtain ⟨F', loc', k1, k2, k3⟩ := L14 (w0 := w0) (t := t) h b g es.length K hb hg i hlt hK5 p.reads rv hrv hS hsp.2.2 c0 c1 c2 c3 c4 c5 c6 c7 c8 c9 c10 c11 a.1 a.2 ha.1 ha.2.1 ha.2.2.1 ha.2.2.2
          exact ⟨(F', loc'), k1, k2, k3⟩)
      have G1 := fun F loc hc => (hG (F, loc) hc).1
      have G2 := fun F loc hc => (hG (F, loc) hc).2.1
      have G3 := fun F loc hc => (hG (F, loc) hc).2.2
      clear hG
      dsimp only [lp, loopsOf, Try.f14, Option.getD, List.append_eq, List.nil_append, List.cons_append, List.getElem?_cons_zero, List.getElem?_cons_succ] at G1 G2 G3 ih ⊢
      rw [X_loop]
      cases ho : p.reads.all plOk
      · rw [ho] at G1 G2
        have G2 := fun F loc hc => G2 F loc hc rfl
        simp only [reduceIte, reduceCtorEq, Nat.reduceAdd, Nat.reduceMul, Nat.reduceSub, Nat.reduceEqDiff, Nat.reduceLT, Nat.reduceLeDiff, Nat.reduceBEq, Int.reduceLT, Int.reduceLE, Int.reduceEq,
    Int.reduceNe, Int.reduceAdd, Int.reduceSub, Int.reduceMul, Int.reduceToNat, push_cast, pairsOk, locGet_set, p2_int, intBin, idx_sl elemSize_42, hLn, h1, hl, h7, h8, e, hn, hb, hg, hK4, hK5, hP, hrv, hn2, ho2, ho3, hle, not_true, G1, G2]
        exact ⟨_, _, rfl, fun _ => by simp only [reduceIte, reduceCtorEq, Nat.reduceAdd, Nat.reduceMul, Nat.reduceSub, Nat.reduceEqDiff, Nat.reduceLT, Nat.reduceLeDiff, Nat.reduceBEq, Int.reduceLT, Int.reduceLE, Int.reduceEq,
    Int.reduceNe, Int.reduceAdd, Int.reduceSub, Int.reduceMul, Int.reduceToNat, push_cast, pairsOk, locGet_set, h1, hl, h8, G2]⟩
      · rw [ho] at G1 G3
        have Ga := fun F loc hc => (G3 F loc hc rfl).1
        have Gb := fun F loc hc => (G3 F loc hc rfl).2.1
        have Gc := fun F loc hc => (G3 F loc hc rfl).2.2.1
        have Gd := fun F loc hc => (G3 F loc hc rfl).2.2.2
        simp only [reduceIte, reduceCtorEq, Nat.reduceAdd, Nat.reduceMul, Nat.reduceSub, Nat.reduceEqDiff, Nat.reduceLT, Nat.reduceLeDiff, Nat.reduceBEq, Int.reduceLT, Int.reduceLE, Int.reduceEq,
    Int.reduceNe, Int.reduceAdd, Int.reduceSub, Int.reduceMul, Int.reduceToNat, push_cast, pairsOk, locGet_set, p2_int, intBin, idx_sl elemSize_42, hLn, h1, hl, h7, h8, e, hn, hb, hg, hK4, hK5, hP, hrv, hn2, ho2, ho3, hle, not_true, G1, Ga, Gb, Gc, Gd, hw]
        exact ih (i + 1) _ _ (by omega) (by simp only [reduceIte, reduceCtorEq, Nat.reduceAdd, Nat.reduceMul, Nat.reduceSub, Nat.reduceEqDiff, Nat.reduceLT, Nat.reduceLeDiff, Nat.reduceBEq, Int.reduceLT, Int.reduceLE, Int.reduceEq,
    Int.reduceNe, Int.reduceAdd, Int.reduceSub, Int.reduceMul, Int.reduceToNat, push_cast, pairsOk, locGet_set, h1, hl, h8, Ga]) (by simp only [reduceIte, reduceCtorEq, Nat.reduceAdd, Nat.reduceMul, Nat.reduceSub, Nat.reduceEqDiff, Nat.reduceLT, Nat.reduceLeDiff, Nat.reduceBEq, Int.reduceLT, Int.reduceLE, Int.reduceEq,
    Int.reduceNe, Int.reduceAdd, Int.reduceSub, Int.reduceMul, Int.reduceToNat, push_cast, pairsOk, locGet_set, h1, hl, h8, Gd]) (by simp only [reduceIte, reduceCtorEq, Nat.reduceAdd, Nat.reduceMul, Nat.reduceSub, Nat.reduceEqDiff, Nat.reduceLT, Nat.reduceLeDiff, Nat.reduceBEq, Int.reduceLT, Int.reduceLE, Int.reduceEq,
    Int.reduceNe, Int.reduceAdd, Int.reduceSub, Int.reduceMul, Int.reduceToNat, push_cast, pairsOk, locGet_set, h1, hl, h7, h8, Gb]) (by simp only [reduceIte, reduceCtorEq, Nat.reduceAdd, Nat.reduceMul, Nat.reduceSub, Nat.reduceEqDiff, Nat.reduceLT, Nat.reduceLeDiff, Nat.reduceBEq, Int.reduceLT, Int.reduceLE, Int.reduceEq,
    Int.reduceNe, Int.reduceAdd, Int.reduceSub, Int.reduceMul, Int.reduceToNat, push_cast, pairsOk, locGet_set])
    · dsimp only [lp, loopsOf, Try.f14, Option.getD, List.append_eq, List.nil_append, List.cons_append, List.getElem?_cons_zero, List.getElem?_cons_succ]
      rw [X_loop]
      simp only [reduceIte, reduceCtorEq, Nat.reduceAdd, Nat.reduceMul, Nat.reduceSub, Nat.reduceEqDiff, Nat.reduceLT, Nat.reduceLeDiff, Nat.reduceBEq, Int.reduceLT, Int.reduceLE, Int.reduceEq,
    Int.reduceNe, Int.reduceAdd, Int.reduceSub, Int.reduceMul, Int.reduceToNat, push_cast, pairsOk, locGet_set, p2_int, intBin, idx_sl elemSize_42, hLn, h1, hl, h7, h8, e, hn, hb, hg, hK4, hK5, hP, hrv, hn2, ho2, ho3, hle, not_false_eq_true]
      exact ⟨_, _, rfl, fun _ => by simp only [reduceIte, reduceCtorEq, Nat.reduceAdd, Nat.reduceMul, Nat.reduceSub, Nat.reduceEqDiff, Nat.reduceLT, Nat.reduceLeDiff, Nat.reduceBEq, Int.reduceLT, Int.reduceLE, Int.reduceEq,
    Int.reduceNe, Int.reduceAdd, Int.reduceSub, Int.reduceMul, Int.reduceToNat, push_cast, pairsOk, locGet_set]⟩
end Go.Proofs.Ytmglahnoemgieaa.Ax
namespace Go.Proofs.Ytmglahnoemgieaa.Ax
open Go Go.RowKit
set_option linter.unusedSimpArgs false
set_option linter.unusedVariables false
set_option maxHeartbeats 16000000
variable {w0 : World} {t : Option Gf}
def REdsV (h : H) (l : List Ed) (v : AV) : Prop := (∃ b g k, v = .sl b g 0 l.length 5 ∧ h[b]? = some k ∧ k.gen = g ∧ REdsC h l k.cells) ∨ (l = [] ∧ v = .val (.slice none 0 0))
theorem REdsV.len {h : H} {l : List Ed} {v : AV} (k : REdsV h l v) : LenV v l.length 5 := by
  rcases k with ⟨b, g, _, rfl, _⟩ | ⟨rfl, rfl⟩
  · exact .inl ⟨b, g, rfl⟩
  · exact .inr ⟨rfl, rfl⟩
theorem f14 (m : Msg) (hsm : msgSmall m) (xs : AV) (h : H) (he : REdsV h m.edges xs) : acallI (cfg w0 t) 14 [.agg (vN m.kind m.ticket m.ver m.sheet m.col m.row m.v xs)] h = some (.ret (vB (msgGood m)), h, none) := by
  rw [E14]
  have hlen := he.len
  have hLn := hlen.lenA (P := Try.prog) Try.underlying42
  have k36 := f36 (w0 := w0) (t := t) .empty m.sheet m.col m.row h
  have k37 := f37 (w0 := w0) (t := t) m.v.1 m.v.2.1 m.v.2.2.1 m.v.2.2.2.1 m.v.2.2.2.2 h
  rw [show vGood m.v.1 m.v.2.1 m.v.2.2.1 m.v.2.2.2.1 m.v.2.2.2.2 = valOk m.v from rfl] at k37
  have hnb : noBx xs = true ∧ oneA xs = true := by rcases hlen with ⟨_, _, rfl⟩ | ⟨_, rfl⟩ <;> exact ⟨rfl, rfl⟩
  have hlt : ((m.edges.length : Int) = 0) = (m.edges.length = 0) := by rw [eq_iff_iff]; omega
  have hle : ((4096 : Int) < m.edges.length) = ¬ (m.edges.length ≤ 4096) := by rw [eq_iff_iff]; omega
  unfold msgGood
  by_cases t1 : m.ticket < 0
  · have hw : within m.ticket = false := by unfold within; simp; omega
    rw [hw]
    dsimp only [Try.f14, Option.getD]
    simp only [reduceIte, reduceCtorEq, Nat.reduceAdd, Nat.reduceMul, Nat.reduceSub, Nat.reduceEqDiff, Nat.reduceLT, Nat.reduceLeDiff, Nat.reduceBEq, Int.reduceLT, Int.reduceLE, Int.reduceEq,
    Int.reduceNe, Int.reduceAdd, Int.reduceSub, Int.reduceMul, Int.reduceToNat, push_cast, pairsOk, locGet, locSet, nextGen, p2_int, intBin, t1]
  by_cases t2 : 9007199254740992 < m.ticket
  · have hw : within m.ticket = false := by unfold within; simp; omega
    rw [hw]
    dsimp only [Try.f14, Option.getD]
    simp only [reduceIte, reduceCtorEq, Nat.reduceAdd, Nat.reduceMul, Nat.reduceSub, Nat.reduceEqDiff, Nat.reduceLT, Nat.reduceLeDiff, Nat.reduceBEq, Int.reduceLT, Int.reduceLE, Int.reduceEq,
    Int.reduceNe, Int.reduceAdd, Int.reduceSub, Int.reduceMul, Int.reduceToNat, push_cast, pairsOk, locGet, locSet, nextGen, p2_int, intBin, t1, t2]
  by_cases t3 : m.ver < 0
  · have hw : within m.ver = false := by unfold within; simp; omega
    rw [hw]
    dsimp only [Try.f14, Option.getD]
    simp only [reduceIte, reduceCtorEq, Nat.reduceAdd, Nat.reduceMul, Nat.reduceSub, Nat.reduceEqDiff, Nat.reduceLT, Nat.reduceLeDiff, Nat.reduceBEq, Int.reduceLT, Int.reduceLE, Int.reduceEq,
    Int.reduceNe, Int.reduceAdd, Int.reduceSub, Int.reduceMul, Int.reduceToNat, push_cast, pairsOk, locGet, locSet, nextGen, p2_int, intBin, t1, t2, t3]
  by_cases t4 : 9007199254740992 < m.ver
  · have hw : within m.ver = false := by unfold within; simp; omega
    rw [hw]
    dsimp only [Try.f14, Option.getD]
    simp only [reduceIte, reduceCtorEq, Nat.reduceAdd, Nat.reduceMul, Nat.reduceSub, Nat.reduceEqDiff, Nat.reduceLT, Nat.reduceLeDiff, Nat.reduceBEq, Int.reduceLT, Int.reduceLE, Int.reduceEq,
    Int.reduceNe, Int.reduceAdd, Int.reduceSub, Int.reduceMul, Int.reduceToNat, push_cast, pairsOk, locGet, locSet, nextGen, p2_int, intBin, t1, t2, t3, t4]
  have hw1 : within m.ticket = true := by unfold within; simp; omega
  have hw2 : within m.ver = true := by unfold within; simp; omega
  rw [hw1, hw2, Bool.and_self, Bool.true_and]
  have hnw : nowhere m = (decide (m.sheet = .empty) && (decide (m.col = 0) && decide (m.row = 0))) := rfl
  have hz : zeroV m.v = (decide (m.v.1 = 0) && (decide (m.v.2.1 = 0) && (decide (m.v.2.2.1 = .empty) && (decide (m.v.2.2.2.1 = false) && decide (m.v.2.2.2.2 = 0))))) := rfl
  have hbare : bareM m = (decide (m.ver = 0) && zeroV m.v && decide (m.edges.length = 0)) := rfl
  by_cases k0 : m.kind = 0
  · rw [k0, hbare]
    dsimp only [Try.f14, Option.getD]
    cases h3 : placedOk m.sheet m.col m.row
    · simp only [reduceIte, reduceCtorEq, Nat.reduceAdd, Nat.reduceMul, Nat.reduceSub, Nat.reduceEqDiff, Nat.reduceLT, Nat.reduceLeDiff, Nat.reduceBEq, Int.reduceLT, Int.reduceLE, Int.reduceEq,
    Int.reduceNe, Int.reduceAdd, Int.reduceSub, Int.reduceMul, Int.reduceToNat, push_cast, pairsOk, locGet, locSet, nextGen, p2_int, intBin, t1, t2, t3, t4, ← hnw, ← hz, k36, k37, hLn, hnb.1, hnb.2, h3]
    by_cases h4 : m.ver = 0
    · cases h5 : zeroV m.v <;>
      simp only [reduceIte, reduceCtorEq, Nat.reduceAdd, Nat.reduceMul, Nat.reduceSub, Nat.reduceEqDiff, Nat.reduceLT, Nat.reduceLeDiff, Nat.reduceBEq, Int.reduceLT, Int.reduceLE, Int.reduceEq,
    Int.reduceNe, Int.reduceAdd, Int.reduceSub, Int.reduceMul, Int.reduceToNat, push_cast, pairsOk, locGet, locSet, nextGen, p2_int, intBin, t1, t2, t3, t4, ← hnw, ← hz, k36, k37, hLn, hnb.1, hnb.2, h3, h4, h5, hlt]
    · simp only [reduceIte, reduceCtorEq, Nat.reduceAdd, Nat.reduceMul, Nat.reduceSub, Nat.reduceEqDiff, Nat.reduceLT, Nat.reduceLeDiff, Nat.reduceBEq, Int.reduceLT, Int.reduceLE, Int.reduceEq,
    Int.reduceNe, Int.reduceAdd, Int.reduceSub, Int.reduceMul, Int.reduceToNat, push_cast, pairsOk, locGet, locSet, nextGen, p2_int, intBin, t1, t2, t3, t4, ← hnw, ← hz, k36, k37, hLn, hnb.1, hnb.2, h3, h4]
  by_cases k1 : m.kind = 1
  · rw [k1, hbare]
    dsimp only [Try.f14, Option.getD]
    cases h3 : placedOk m.sheet m.col m.row
    · simp only [reduceIte, reduceCtorEq, Nat.reduceAdd, Nat.reduceMul, Nat.reduceSub, Nat.reduceEqDiff, Nat.reduceLT, Nat.reduceLeDiff, Nat.reduceBEq, Int.reduceLT, Int.reduceLE, Int.reduceEq,
    Int.reduceNe, Int.reduceAdd, Int.reduceSub, Int.reduceMul, Int.reduceToNat, push_cast, pairsOk, locGet, locSet, nextGen, p2_int, intBin, t1, t2, t3, t4, ← hnw, ← hz, k36, k37, hLn, hnb.1, hnb.2, h3]
    by_cases h4 : m.ver = 0
    · cases h5 : zeroV m.v <;>
      simp only [reduceIte, reduceCtorEq, Nat.reduceAdd, Nat.reduceMul, Nat.reduceSub, Nat.reduceEqDiff, Nat.reduceLT, Nat.reduceLeDiff, Nat.reduceBEq, Int.reduceLT, Int.reduceLE, Int.reduceEq,
    Int.reduceNe, Int.reduceAdd, Int.reduceSub, Int.reduceMul, Int.reduceToNat, push_cast, pairsOk, locGet, locSet, nextGen, p2_int, intBin, t1, t2, t3, t4, ← hnw, ← hz, k36, k37, hLn, hnb.1, hnb.2, h3, h4, h5, hlt]
    · simp only [reduceIte, reduceCtorEq, Nat.reduceAdd, Nat.reduceMul, Nat.reduceSub, Nat.reduceEqDiff, Nat.reduceLT, Nat.reduceLeDiff, Nat.reduceBEq, Int.reduceLT, Int.reduceLE, Int.reduceEq,
    Int.reduceNe, Int.reduceAdd, Int.reduceSub, Int.reduceMul, Int.reduceToNat, push_cast, pairsOk, locGet, locSet, nextGen, p2_int, intBin, t1, t2, t3, t4, ← hnw, ← hz, k36, k37, hLn, hnb.1, hnb.2, h3, h4]
  by_cases k2 : m.kind = 2
  · rw [k2]
    dsimp only [Try.f14, Option.getD]
    cases h3 : placedOk m.sheet m.col m.row
    · simp only [reduceIte, reduceCtorEq, Nat.reduceAdd, Nat.reduceMul, Nat.reduceSub, Nat.reduceEqDiff, Nat.reduceLT, Nat.reduceLeDiff, Nat.reduceBEq, Int.reduceLT, Int.reduceLE, Int.reduceEq,
    Int.reduceNe, Int.reduceAdd, Int.reduceSub, Int.reduceMul, Int.reduceToNat, push_cast, pairsOk, locGet, locSet, nextGen, p2_int, intBin, t1, t2, t3, t4, ← hnw, ← hz, k36, k37, hLn, hnb.1, hnb.2, h3]
    · cases h5 : valOk m.v <;>
      simp only [reduceIte, reduceCtorEq, Nat.reduceAdd, Nat.reduceMul, Nat.reduceSub, Nat.reduceEqDiff, Nat.reduceLT, Nat.reduceLeDiff, Nat.reduceBEq, Int.reduceLT, Int.reduceLE, Int.reduceEq,
    Int.reduceNe, Int.reduceAdd, Int.reduceSub, Int.reduceMul, Int.reduceToNat, push_cast, pairsOk, locGet, locSet, nextGen, p2_int, intBin, t1, t2, t3, t4, ← hnw, ← hz, k36, k37, hLn, hnb.1, hnb.2, h3, h5, hlt]
  by_cases k4 : m.kind = 4
  · rw [k4, hbare]
    dsimp only [Try.f14, Option.getD]
    cases h3 : nowhere m
    · simp only [reduceIte, reduceCtorEq, Nat.reduceAdd, Nat.reduceMul, Nat.reduceSub, Nat.reduceEqDiff, Nat.reduceLT, Nat.reduceLeDiff, Nat.reduceBEq, Int.reduceLT, Int.reduceLE, Int.reduceEq,
    Int.reduceNe, Int.reduceAdd, Int.reduceSub, Int.reduceMul, Int.reduceToNat, push_cast, pairsOk, locGet, locSet, nextGen, p2_int, intBin, t1, t2, t3, t4, ← hnw, ← hz, k36, k37, hLn, hnb.1, hnb.2, h3]
    by_cases h4 : m.ver = 0
    · cases h5 : zeroV m.v <;>
      simp only [reduceIte, reduceCtorEq, Nat.reduceAdd, Nat.reduceMul, Nat.reduceSub, Nat.reduceEqDiff, Nat.reduceLT, Nat.reduceLeDiff, Nat.reduceBEq, Int.reduceLT, Int.reduceLE, Int.reduceEq,
    Int.reduceNe, Int.reduceAdd, Int.reduceSub, Int.reduceMul, Int.reduceToNat, push_cast, pairsOk, locGet, locSet, nextGen, p2_int, intBin, t1, t2, t3, t4, ← hnw, ← hz, k36, k37, hLn, hnb.1, hnb.2, h3, h4, h5, hlt]
    · simp only [reduceIte, reduceCtorEq, Nat.reduceAdd, Nat.reduceMul, Nat.reduceSub, Nat.reduceEqDiff, Nat.reduceLT, Nat.reduceLeDiff, Nat.reduceBEq, Int.reduceLT, Int.reduceLE, Int.reduceEq,
    Int.reduceNe, Int.reduceAdd, Int.reduceSub, Int.reduceMul, Int.reduceToNat, push_cast, pairsOk, locGet, locSet, nextGen, p2_int, intBin, t1, t2, t3, t4, ← hnw, ← hz, k36, k37, hLn, hnb.1, hnb.2, h3, h4]
  by_cases k3 : m.kind = 3
  · rw [k3]
    cases h3 : nowhere m
    · dsimp only [Try.f14, Option.getD]
      simp only [reduceIte, reduceCtorEq, Nat.reduceAdd, Nat.reduceMul, Nat.reduceSub, Nat.reduceEqDiff, Nat.reduceLT, Nat.reduceLeDiff, Nat.reduceBEq, Int.reduceLT, Int.reduceLE, Int.reduceEq,
    Int.reduceNe, Int.reduceAdd, Int.reduceSub, Int.reduceMul, Int.reduceToNat, push_cast, pairsOk, locGet, locSet, nextGen, p2_int, intBin, t1, t2, t3, t4, ← hnw, ← hz, k36, k37, hLn, hnb.1, hnb.2, h3]
    cases h5 : zeroV m.v
    · dsimp only [Try.f14, Option.getD]
      simp only [reduceIte, reduceCtorEq, Nat.reduceAdd, Nat.reduceMul, Nat.reduceSub, Nat.reduceEqDiff, Nat.reduceLT, Nat.reduceLeDiff, Nat.reduceBEq, Int.reduceLT, Int.reduceLE, Int.reduceEq,
    Int.reduceNe, Int.reduceAdd, Int.reduceSub, Int.reduceMul, Int.reduceToNat, push_cast, pairsOk, locGet, locSet, nextGen, p2_int, intBin, t1, t2, t3, t4, ← hnw, ← hz, k36, k37, hLn, hnb.1, hnb.2, h3, h5]
    by_cases h6 : m.edges.length ≤ 4096
    · rcases he with ⟨b, g, k, rfl, hb, hg, hk⟩ | ⟨hn0, rfl⟩
      · obtain ⟨G, hG⟩ := skol (P := fun a : (Nat → AV) × Loc => a.1 1 = .bx 1 1 0 ∧ locGet a.2 1 = some (1, .cells (vN 3 m.ticket m.ver m.sheet m.col m.row m.v (.sl b g 0 m.edges.length 5))) ∧ a.1 7 = vI m.edges.length ∧ a.1 8 = vI 0)
          (Q := fun a b => acodeI (cfg w0 t) 14 (.loop (lp Try.f14 0)) ⟨fl 159 a.1, a.2, h, none⟩ = some (if m.edges.all edOk then .exit 1 else .ret, ⟨fl 159 b.1, b.2, h, none⟩) ∧ (m.edges.all edOk = false → b.1 2 = vB false)) (β := (Nat → AV) × Loc) (fun a ha => by
            obtain ⟨F', loc', q1, q2⟩ := L14o (w0 := w0) (t := t) h m.edges b g k hb hg hk hsm.2.2 hsm.2.1 _ _ _ _ _ _ _ _ _ _ _ _ m.edges.length 0 a.1 a.2 (by omega) ha.1 ha.2.1 ha.2.2.1 ha.2.2.2
            exact ⟨(F', loc'), q1, q2⟩)
        have G1 := fun F loc hc => (hG (F, loc) hc).1
        have G2 := fun F loc hc => (hG (F, loc) hc).2
        clear hG
        dsimp only [lp, loopsOf, Try.f14, Option.getD, List.append_eq, List.nil_append, List.cons_append, List.getElem?_cons_zero, List.getElem?_cons_succ] at G1 G2 ⊢
        cases ho : m.edges.all edOk
        · rw [ho] at G1 G2
          have G2 := fun F loc hc => G2 F loc hc rfl
          simp only [reduceIte, reduceCtorEq, Nat.reduceAdd, Nat.reduceMul, Nat.reduceSub, Nat.reduceEqDiff, Nat.reduceLT, Nat.reduceLeDiff, Nat.reduceBEq, Int.reduceLT, Int.reduceLE, Int.reduceEq,
    Int.reduceNe, Int.reduceAdd, Int.reduceSub, Int.reduceMul, Int.reduceToNat, push_cast, pairsOk, locGet_set, p2_int, intBin, t1, t2, t3, t4, ← hnw, ← hz, k36, k37, hLn, hnb.1, hnb.2, h3, h5, h6, hle, not_true, nextGen, locGet, G1, G2]
        · rw [ho] at G1
          simp only [reduceIte, reduceCtorEq, Nat.reduceAdd, Nat.reduceMul, Nat.reduceSub, Nat.reduceEqDiff, Nat.reduceLT, Nat.reduceLeDiff, Nat.reduceBEq, Int.reduceLT, Int.reduceLE, Int.reduceEq,
    Int.reduceNe, Int.reduceAdd, Int.reduceSub, Int.reduceMul, Int.reduceToNat, push_cast, pairsOk, locGet_set, p2_int, intBin, t1, t2, t3, t4, ← hnw, ← hz, k36, k37, hLn, hnb.1, hnb.2, h3, h5, h6, hle, not_true, nextGen, locGet, G1]
      · rw [hn0] at hLn h6 hle ⊢
        dsimp only [Try.f14, Option.getD]
        simp only [reduceIte, reduceCtorEq, Nat.reduceAdd, Nat.reduceMul, Nat.reduceSub, Nat.reduceEqDiff, Nat.reduceLT, Nat.reduceLeDiff, Nat.reduceBEq, Int.reduceLT, Int.reduceLE, Int.reduceEq,
    Int.reduceNe, Int.reduceAdd, Int.reduceSub, Int.reduceMul, Int.reduceToNat, push_cast, pairsOk, locGet, locSet, nextGen, X_loop, p2_int, intBin, t1, t2, t3, t4, ← hnw, ← hz, k36, k37, hLn, hnb.1, hnb.2, h3, h5]
    · dsimp only [Try.f14, Option.getD]
      simp only [reduceIte, reduceCtorEq, Nat.reduceAdd, Nat.reduceMul, Nat.reduceSub, Nat.reduceEqDiff, Nat.reduceLT, Nat.reduceLeDiff, Nat.reduceBEq, Int.reduceLT, Int.reduceLE, Int.reduceEq,
    Int.reduceNe, Int.reduceAdd, Int.reduceSub, Int.reduceMul, Int.reduceToNat, push_cast, pairsOk, locGet, locSet, nextGen, p2_int, intBin, t1, t2, t3, t4, ← hnw, ← hz, k36, k37, hLn, hnb.1, hnb.2, h3, h5, h6, hle, not_false_eq_true]
  · dsimp only [Try.f14, Option.getD]
    simp only [reduceIte, reduceCtorEq, Nat.reduceAdd, Nat.reduceMul, Nat.reduceSub, Nat.reduceEqDiff, Nat.reduceLT, Nat.reduceLeDiff, Nat.reduceBEq, Int.reduceLT, Int.reduceLE, Int.reduceEq,
    Int.reduceNe, Int.reduceAdd, Int.reduceSub, Int.reduceMul, Int.reduceToNat, push_cast, pairsOk, locGet, locSet, nextGen, p2_int, intBin, t1, t2, t3, t4, ← hnw, ← hz, k36, k37, hLn, hnb.1, hnb.2, k0, k1, k2, k3, k4]
end Go.Proofs.Ytmglahnoemgieaa.Ax
