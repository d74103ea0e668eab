/- What single functions of the program come to: the document's messages as bytes. (And what follows from it, text by text.) -/
import Derived.Test.YtmglahnoemgieaaM8
import Derived.Test.YtmglahnoemgieaaM6
namespace Go.Proofs.Ytmglahnoemgieaa.Ax
open Go Go.RowKit
set_option linter.unusedSimpArgs false
set_option linter.unusedVariables false
set_option maxHeartbeats 8000000
set_option maxRecDepth 4000
variable {w0 : World} {t : Option Gf}
def R9i (h : H) (loc0 : Loc) (F : Nat → AV) (o : List UInt8) (R : Option (Ex × S)) : Prop :=
  ∃ F' loc', R = some (.exit 2, ⟨fl 131 F', loc', h, none⟩) ∧ F' 7 = vS (bs o) ∧ F' 1 = F 1 ∧ F' 13 = F 13 ∧ locGet loc' 1 = locGet loc0 1
theorem R9i.step {h : H} {loc0 loc : Loc} {F0 F : Nat → AV} {o : List UInt8} {R : Option (Ex × S)} (k : R9i h loc F o R) (h1 : F 1 = F0 1) (h13 : F 13 = F0 13) (h2 : locGet loc 1 = locGet loc0 1) : R9i h loc0 F0 o R := by
  obtain ⟨F', loc', k1, k2, k3, k4, k5⟩ := k
  exact ⟨F', loc', k1, k2, k3.trans h1, k4.trans h13, k5.trans h2⟩
theorem L9i (ok : CfgOk (cfg w0 t)) (h : H) (b g len : Nat) (K : Blk) (hb : h[b]? = some K) (hg : K.gen = g) (i : Nat) (hi0 : i < len) (hKlen : i * 5 + 4 + 1 ≤ K.cells.length)
    (l : List Pl) (hnat : ∀ p ∈ l, plNat p) (b' g' : Nat) (hrv : K.cells[i * 5 + 4]? = some (.sl b' g' 0 l.length 4)) (k : Blk) (hb' : h[b']? = some k) (hg' : k.gen = g') (hk : k.cells = plsC l) (hlen : l.length ≤ 4096)
    (c0 c1 c2 c3 c4 c5 c6 c7 c8 c9 c10 c11 : AV) : ∀ (n j : Nat) (o : List UInt8) (F : Nat → AV) (loc : Loc), j + n = l.length → o.length + n * 3000 ≤ 1000000000000 →
    F 1 = .bx 1 1 0 → locGet loc 1 = some (1, .cells [c0, c1, c2, c3, c4, c5, c6, c7, c8, c9, c10, c11, .sl b g 0 len 5]) → F 7 = vS (bs o) → F 13 = vI i → F 16 = vI j →
    R9i h loc F (o ++ encLs (l.drop j)) (acodeI (cfg w0 t) 9 (.loop (lp Try.f9 1)) ⟨fl 131 F, loc, h, none⟩) := by
  dsimp only [lp, loopsOf, Try.f9, Option.getD, List.append_eq, List.nil_append, List.cons_append, List.getElem?_cons_zero, List.getElem?_cons_succ]
  have hn0 : (0 : Int) ≤ i := by omega
  have hil : (i : Int) < len := by omega
  intro n
  induction n with
  | zero =>
    intro j o F loc hj ho h1 hl h7 h13 h16
    have e : ¬ ((j : Int) < l.length) := by omega
    have hnil : l.drop j = [] := List.drop_eq_nil_of_le (by omega)
    rw [hnil, X_loop, show o ++ encLs [] = o from by simp [encLs]]
    simp only [reduceIte, reduceCtorEq, Nat.reduceAdd, Nat.reduceMul, Nat.reduceSub, Nat.reduceEqDiff, Nat.reduceLT, Nat.reduceLeDiff, Nat.reduceBEq, Int.reduceLT, Int.reduceLE, Int.reduceEq,
    Int.reduceNe, Int.reduceAdd, Int.reduceSub, Int.reduceMul, Int.reduceToNat, push_cast, pairsOk, locGet_set, p2_int, intBin, idx_sl elemSize_42, len_sl Try.underlying86, h1, hl, h7, h13, h16, e, hn0, hil, hb, hg, hKlen, hrv]
    exact ⟨_, _, rfl, by simp only [reduceIte, reduceCtorEq, Nat.reduceAdd, Nat.reduceMul, Nat.reduceSub, Nat.reduceEqDiff, Nat.reduceLT, Nat.reduceLeDiff, Nat.reduceBEq, Int.reduceLT, Int.reduceLE, Int.reduceEq,
    Int.reduceNe, Int.reduceAdd, Int.reduceSub, Int.reduceMul, Int.reduceToNat, push_cast, pairsOk, locGet_set, h7], by simp only [reduceIte, reduceCtorEq, Nat.reduceAdd, Nat.reduceMul, Nat.reduceSub, Nat.reduceEqDiff, Nat.reduceLT, Nat.reduceLeDiff, Nat.reduceBEq, Int.reduceLT, Int.reduceLE, Int.reduceEq,
    Int.reduceNe, Int.reduceAdd, Int.reduceSub, Int.reduceMul, Int.reduceToNat, push_cast, pairsOk, locGet_set, h1], by simp only [reduceIte, reduceCtorEq, Nat.reduceAdd, Nat.reduceMul, Nat.reduceSub, Nat.reduceEqDiff, Nat.reduceLT, Nat.reduceLeDiff, Nat.reduceBEq, Int.reduceLT, Int.reduceLE, Int.reduceEq,
    Int.reduceNe, Int.reduceAdd, Int.reduceSub, Int.reduceMul, Int.reduceToNat, push_cast, pairsOk, locGet_set, h13], by rw [hl]⟩
  | succ n ih =>
    intro j o F loc hj ho h1 hl h7 h13 h16
    have e : (j : Int) < l.length := by omega
    have hlt : j < l.length := by omega
    have hp : l[j]? = some l[j] := List.getElem?_eq_getElem hlt
    have hdr := List.drop_eq_getElem_cons hlt
    obtain ⟨hld1, hld⟩ := load_pl hb' hk hp
    have hpn := hnat l[j] (List.getElem_mem hlt)
    have hw : IntKind.i64.wrap ((j : Int) + 1) = ((j + 1 : Nat) : Int) := by rw [wrap_i64] <;> omega
    generalize l[j] = p at hp hdr hld hpn
    have hn : (0 : Int) ≤ j := by omega
    obtain ⟨p1, p2, p3, p4, p5, p6⟩ := hpn
    have e1 := f29 ok p.book (by omega) h
    have e2 := f27 ok p.book p.sheet p.col.toNat p.row.toNat (by omega) (by omega) (by omega) h
    rw [Int.toNat_of_nonneg p1, Int.toNat_of_nonneg p3] at e2
    have henc : o ++ encLs (p :: l.drop (j + 1)) = (o ++ encL p) ++ encLs (l.drop (j + 1)) := by
      simp [encLs, List.append_assoc]
    have hcat : bs o ++ bs (encS p.book) ++ bs (encP p.sheet p.col.toNat p.row.toNat) = bs (o ++ encL p) := by
      rw [bs_app, bs_app, encL, List.append_assoc]
    have hs1 : (bs o).size + (bs (encS p.book)).size ≤ 9223372036854775807 := by rw [bs_size, bs_size, encS_length]; omega
    have hs2 : (bs o ++ bs (encS p.book)).size + (bs (encP p.sheet p.col.toNat p.row.toNat)).size ≤ 9223372036854775807 := by rw [bs_app, bs_size, bs_size, List.length_append, encS_length, encP_length]; omega
    have hol : (o ++ encL p).length + n * 3000 ≤ 1000000000000 := by rw [List.length_append, encL_length]; omega
    rw [hdr, henc, X_loop]
    generalize o ++ encL p = o2 at hcat hol ⊢
    generalize hout : o2 ++ encLs (l.drop (j + 1)) = out
    generalize bs (encS p.book) = sa at e1 hcat hs1 hs2
    generalize bs (encP p.sheet p.col.toNat p.row.toNat) = sb at e2 hcat hs2
    unfold plC at hld
    simp only [reduceIte, reduceCtorEq, Nat.reduceAdd, Nat.reduceMul, Nat.reduceSub, Nat.reduceEqDiff, Nat.reduceLT, Nat.reduceLeDiff, Nat.reduceBEq, Int.reduceLT, Int.reduceLE, Int.reduceEq,
    Int.reduceNe, Int.reduceAdd, Int.reduceSub, Int.reduceMul, Int.reduceToNat, push_cast, pairsOk, locGet_set, p2_int, intBin, p2_str, strBin, idx_sl elemSize_42, idx_sl elemSize_86, len_sl Try.underlying86, h1, hl, h7, h13, h16, e, hn0, hn, hil, hb, hg, hKlen, hrv, hb', hg', hld1, hld, e1, e2, hs1, hs2, hcat, hw]
    subst hout
    refine R9i.step (ih (j + 1) o2 _ _ (by omega) hol ?_ ?_ ?_ ?_ ?_) ?_ ?_ ?_ <;> simp only [reduceIte, reduceCtorEq, Nat.reduceAdd, Nat.reduceMul, Nat.reduceSub, Nat.reduceEqDiff, Nat.reduceLT, Nat.reduceLeDiff, Nat.reduceBEq, Int.reduceLT, Int.reduceLE, Int.reduceEq,
    Int.reduceNe, Int.reduceAdd, Int.reduceSub, Int.reduceMul, Int.reduceToNat, push_cast, pairsOk, locGet_set, h1, hl, h7, h13]
theorem L9z (h : H) (b g len : Nat) (K : Blk) (hb : h[b]? = some K) (hg : K.gen = g) (i : Nat) (hi0 : i < len) (hKlen : i * 5 + 4 + 1 ≤ K.cells.length) (hrv : K.cells[i * 5 + 4]? = some (.val (.slice none 0 0)))
    (c0 c1 c2 c3 c4 c5 c6 c7 c8 c9 c10 c11 : AV) (o : List UInt8) (F : Nat → AV) (loc : Loc)
    (h1 : F 1 = .bx 1 1 0) (hl : locGet loc 1 = some (1, .cells [c0, c1, c2, c3, c4, c5, c6, c7, c8, c9, c10, c11, .sl b g 0 len 5])) (h7 : F 7 = vS (bs o)) (h13 : F 13 = vI i) (h16 : F 16 = vI 0) :
    R9i h loc F o (acodeI (cfg w0 t) 9 (.loop (lp Try.f9 1)) ⟨fl 131 F, loc, h, none⟩) := by
  dsimp only [lp, loopsOf, Try.f9, Option.getD, List.append_eq, List.nil_append, List.cons_append, List.getElem?_cons_zero, List.getElem?_cons_succ]
  have hn0 : (0 : Int) ≤ i := by omega
  have hil : (i : Int) < len := by omega
  rw [X_loop]
  simp only [reduceIte, reduceCtorEq, Nat.reduceAdd, Nat.reduceMul, Nat.reduceSub, Nat.reduceEqDiff, Nat.reduceLT, Nat.reduceLeDiff, Nat.reduceBEq, Int.reduceLT, Int.reduceLE, Int.reduceEq,
    Int.reduceNe, Int.reduceAdd, Int.reduceSub, Int.reduceMul, Int.reduceToNat, push_cast, pairsOk, locGet_set, p2_int, intBin, idx_sl elemSize_42, len_slice Try.underlying86, h1, hl, h7, h13, h16, hn0, hil, hb, hg, hKlen, hrv]
  exact ⟨_, _, rfl, by simp only [reduceIte, reduceCtorEq, Nat.reduceAdd, Nat.reduceMul, Nat.reduceSub, Nat.reduceEqDiff, Nat.reduceLT, Nat.reduceLeDiff, Nat.reduceBEq, Int.reduceLT, Int.reduceLE, Int.reduceEq,
    Int.reduceNe, Int.reduceAdd, Int.reduceSub, Int.reduceMul, Int.reduceToNat, push_cast, pairsOk, locGet_set, h7], by simp only [reduceIte, reduceCtorEq, Nat.reduceAdd, Nat.reduceMul, Nat.reduceSub, Nat.reduceEqDiff, Nat.reduceLT, Nat.reduceLeDiff, Nat.reduceBEq, Int.reduceLT, Int.reduceLE, Int.reduceEq,
    Int.reduceNe, Int.reduceAdd, Int.reduceSub, Int.reduceMul, Int.reduceToNat, push_cast, pairsOk, locGet_set, h1], by simp only [reduceIte, reduceCtorEq, Nat.reduceAdd, Nat.reduceMul, Nat.reduceSub, Nat.reduceEqDiff, Nat.reduceLT, Nat.reduceLeDiff, Nat.reduceBEq, Int.reduceLT, Int.reduceLE, Int.reduceEq,
    Int.reduceNe, Int.reduceAdd, Int.reduceSub, Int.reduceMul, Int.reduceToNat, push_cast, pairsOk, locGet_set, h13], by rw [hl]⟩
theorem L9 (ok : CfgOk (cfg w0 t)) (h : H) (b g len : Nat) (K : Blk) (hb : h[b]? = some K) (hg : K.gen = g) (i : Nat) (hi0 : i < len) (hKlen : i * 5 + 4 + 1 ≤ K.cells.length)
    (l : List Pl) (hnat : ∀ p ∈ l, plNat p) (rv : AV) (hrv : K.cells[i * 5 + 4]? = some rv) (hS : SlR h rv (plsC l) l.length 4) (hlen : l.length ≤ 4096)
    (c0 c1 c2 c3 c4 c5 c6 c7 c8 c9 c10 c11 : AV) (o : List UInt8) (F : Nat → AV) (loc : Loc) (ho : o.length + l.length * 3000 ≤ 1000000000000)
    (h1 : F 1 = .bx 1 1 0) (hl : locGet loc 1 = some (1, .cells [c0, c1, c2, c3, c4, c5, c6, c7, c8, c9, c10, c11, .sl b g 0 len 5])) (h7 : F 7 = vS (bs o)) (h13 : F 13 = vI i) (h16 : F 16 = vI 0) :
    R9i h loc F (o ++ encLs l) (acodeI (cfg w0 t) 9 (.loop (lp Try.f9 1)) ⟨fl 131 F, loc, h, none⟩) := by
  rcases hS with ⟨b', g', k, rfl, hb', hg', hk⟩ | ⟨hz, rfl⟩
  · exact L9i ok h b g len K hb hg i hi0 hKlen l hnat b' g' hrv k hb' hg' hk hlen c0 c1 c2 c3 c4 c5 c6 c7 c8 c9 c10 c11 l.length 0 o F loc (by omega) ho h1 hl h7 h13 h16
  · rw [List.eq_nil_of_length_eq_zero hz, show o ++ encLs [] = o from by simp [encLs]]
    exact L9z h b g len K hb hg i hi0 hKlen hrv c0 c1 c2 c3 c4 c5 c6 c7 c8 c9 c10 c11 o F loc h1 hl h7 h13 h16
def R9o (h : H) (o : List UInt8) (R : Option (Ex × S)) : Prop :=
  ∃ F' loc', R = some (.exit 0, ⟨fl 131 F', loc', h, none⟩) ∧ F' 7 = vS (bs o)
theorem L9o (ok : CfgOk (cfg w0 t)) (h : H) (es : List Ed) (b g : Nat) (K : Blk) (hb : h[b]? = some K) (hg : K.gen = g) (hK : REdsC h es K.cells) (hlen : es.length ≤ 4096) (hsm : ∀ e ∈ es, edNat e)
    (c0 c1 c2 c3 c4 c5 c6 c7 c8 c9 c10 c11 : AV) : ∀ (n i : Nat) (o : List UInt8) (F : Nat → AV) (loc : Loc), i + n = es.length → o.length + n * 20000000 ≤ 500000000000 →
    F 1 = .bx 1 1 0 → locGet loc 1 = some (1, .cells [c0, c1, c2, c3, c4, c5, c6, c7, c8, c9, c10, c11, .sl b g 0 es.length 5]) → F 7 = vS (bs o) → F 13 = vI i →
    R9o h (o ++ encEs (es.drop i)) (acodeI (cfg w0 t) 9 (.loop (lp Try.f9 0)) ⟨fl 131 F, loc, h, none⟩) := by
  intro n
  induction n with
  | zero =>
    intro i o F loc hi hol h1 hl h7 h13
    have e : ¬ ((i : Int) < es.length) := by omega
    have hnil : es.drop i = [] := List.drop_eq_nil_of_le (by omega)
    dsimp only [lp, loopsOf, Try.f9, Option.getD, List.append_eq, List.nil_append, List.cons_append, List.getElem?_cons_zero, List.getElem?_cons_succ]
    rw [hnil, X_loop, show o ++ encEs [] = o from by simp [encEs]]
    simp only [reduceIte, reduceCtorEq, Nat.reduceAdd, Nat.reduceMul, Nat.reduceSub, Nat.reduceEqDiff, Nat.reduceLT, Nat.reduceLeDiff, Nat.reduceBEq, Int.reduceLT, Int.reduceLE, Int.reduceEq,
    Int.reduceNe, Int.reduceAdd, Int.reduceSub, Int.reduceMul, Int.reduceToNat, push_cast, pairsOk, locGet_set, p2_int, intBin, len_sl Try.underlying42, h1, hl, h7, h13, e]
    exact ⟨_, _, rfl, by simp only [reduceIte, reduceCtorEq, Nat.reduceAdd, Nat.reduceMul, Nat.reduceSub, Nat.reduceEqDiff, Nat.reduceLT, Nat.reduceLeDiff, Nat.reduceBEq, Int.reduceLT, Int.reduceLE, Int.reduceEq,
    Int.reduceNe, Int.reduceAdd, Int.reduceSub, Int.reduceMul, Int.reduceToNat, push_cast, pairsOk, locGet_set, h7]⟩
  | succ n ih =>
    intro i o F loc hi hol h1 hl h7 h13
    have e : (i : Int) < es.length := by omega
    have hlt : i < es.length := by omega
    have hp : es[i]? = some es[i] := List.getElem?_eq_getElem hlt
    have hdr := List.drop_eq_getElem_cons hlt
    have hsp := hsm es[i] (List.getElem_mem hlt)
    obtain ⟨rv, hP, hrv, hS⟩ := hK.2 i _ hp
    have hK5 : i * 5 + 4 + 1 ≤ K.cells.length := by rw [hK.1]; omega
    have hK4 : i * 5 + 4 ≤ K.cells.length := by omega
    have hw : IntKind.i64.wrap ((i : Int) + 1) = ((i + 1 : Nat) : Int) := by rw [wrap_i64] <;> omega
    generalize es[i] = p at hp hdr hP hS hsp
    have hn : (0 : Int) ≤ i := by omega
    obtain ⟨p1, p2, p3, p4, p5, p6, p7⟩ := hsp
    have hLn := hS.len.lenA (P := Try.prog) Try.underlying86
    have e1 := f27 ok .empty p.sheet p.col.toNat p.row.toNat (by omega) (by omega) (by omega) h
    rw [Int.toNat_of_nonneg p1, Int.toNat_of_nonneg p3] at e1
    have e2 := f26 ok p.reads.length 2 (by omega) (by omega) (by omega) h
    rw [show ((2 : Nat) : Int) = 2 from rfl, bs_eq] at e2
    have hlsle := encLs_le p.reads p6
    have henc : o ++ encEs (p :: es.drop (i + 1)) = (o ++ encP p.sheet p.col.toNat p.row.toNat ++ encB p.reads.length 2 ++ encLs p.reads) ++ encEs (es.drop (i + 1)) := by
      simp [encEs, encE, List.append_assoc]
    have hcat : bs o ++ bs (encP p.sheet p.col.toNat p.row.toNat) ++ bs (encB p.reads.length 2) = bs (o ++ encP p.sheet p.col.toNat p.row.toNat ++ encB p.reads.length 2) := by
      rw [bs_app, bs_app]
    have hs1 : (bs o).size + (bs (encP p.sheet p.col.toNat p.row.toNat)).size ≤ 9223372036854775807 := by rw [bs_size, bs_size, encP_length]; omega
    have hs2 : (bs o ++ bs (encP p.sheet p.col.toNat p.row.toNat)).size + (bs (encB p.reads.length 2)).size ≤ 9223372036854775807 := by rw [bs_app, bs_size, bs_size, List.length_append, encP_length, encB_length]; omega
    have hol2 : (o ++ encP p.sheet p.col.toNat p.row.toNat ++ encB p.reads.length 2).length + p.reads.length * 3000 ≤ 1000000000000 := by rw [List.length_append, List.length_append, encP_length, encB_length]; omega
    have hol3 : (o ++ encP p.sheet p.col.toNat p.row.toNat ++ encB p.reads.length 2 ++ encLs p.reads).length + n * 20000000 ≤ 500000000000 := by rw [List.length_append, List.length_append, List.length_append, encP_length, encB_length]; omega
    rw [hdr, henc]
    generalize o ++ encP p.sheet p.col.toNat p.row.toNat ++ encB p.reads.length 2 = o2 at hcat hol2 hol3 ⊢
    obtain ⟨G, hG⟩ := skol (P := fun a : (Nat → AV) × Loc => a.1 1 = .bx 1 1 0 ∧ locGet a.2 1 = some (1, .cells [c0, c1, c2, c3, c4, c5, c6, c7, c8, c9, c10, c11, .sl b g 0 es.length 5]) ∧ a.1 7 = vS (bs o2) ∧ a.1 13 = vI i ∧ a.1 16 = vI 0)
      (Q := fun a c => acodeI (cfg w0 t) 9 (.loop (lp Try.f9 1)) ⟨fl 131 a.1, a.2, h, none⟩ = some (.exit 2, ⟨fl 131 c.1, c.2, h, none⟩) ∧ c.1 7 = vS (bs (o2 ++ encLs p.reads)) ∧ c.1 1 = a.1 1 ∧ c.1 13 = a.1 13 ∧ locGet c.2 1 = locGet a.2 1) (β := (Nat → AV) × Loc) (fun a ha => by
        obtain ⟨F', loc', k1, k2, k3⟩ := L9 ok h b g es.length K hb hg i hlt hK5 p.reads p6 rv hrv hS p7 c0 c1 c2 c3 c4 c5 c6 c7 c8 c9 c10 c11 o2 a.1 a.2 hol2 ha.1 ha.2.1 ha.2.2.1 ha.2.2.2.1 ha.2.2.2.2
        exact ⟨(F', loc'), k1, k2, k3⟩)
    have G1 := fun F loc hc => (hG (F, loc) hc).1
    have G7 := fun F loc hc => (hG (F, loc) hc).2.1
    have Ga := fun F loc hc => (hG (F, loc) hc).2.2.1
    have G13 := fun F loc hc => (hG (F, loc) hc).2.2.2.1
    have Gl := fun F loc hc => (hG (F, loc) hc).2.2.2.2
    clear hG
    generalize o2 ++ encLs p.reads = o3 at hol3 G7 ⊢
    generalize hout : o3 ++ encEs (es.drop (i + 1)) = out
    generalize bs (encP p.sheet p.col.toNat p.row.toNat) = sa at e1 hcat hs1 hs2
    generalize bs (encB p.reads.length 2) = sb at e2 hcat hs2
    have ih := ih (i + 1) o3
    dsimp only [lp, loopsOf, Try.f9, Option.getD, List.append_eq, List.nil_append, List.cons_append, List.getElem?_cons_zero, List.getElem?_cons_succ] at G1 G7 Ga G13 Gl ih ⊢
    rw [X_loop]
    simp only [reduceIte, reduceCtorEq, Nat.reduceAdd, Nat.reduceMul, Nat.reduceSub, Nat.reduceEqDiff, Nat.reduceLT, Nat.reduceLeDiff, Nat.reduceBEq, Int.reduceLT, Int.reduceLE, Int.reduceEq,
    Int.reduceNe, Int.reduceAdd, Int.reduceSub, Int.reduceMul, Int.reduceToNat, push_cast, pairsOk, locGet_set, p2_int, intBin, p2_str, strBin, idx_sl elemSize_42, len_sl Try.underlying42, hLn, h1, hl, h7, h13, e, hn, hb, hg, hK4, hK5, hP, hrv, e1, e2, hs1, hs2, hcat, hw, G1, G7, Ga, G13, Gl]
    subst hout
    refine ih _ _ (by omega) hol3 ?_ ?_ ?_ ?_ <;> simp only [reduceIte, reduceCtorEq, Nat.reduceAdd, Nat.reduceMul, Nat.reduceSub, Nat.reduceEqDiff, Nat.reduceLT, Nat.reduceLeDiff, Nat.reduceBEq, Int.reduceLT, Int.reduceLE, Int.reduceEq,
    Int.reduceNe, Int.reduceAdd, Int.reduceSub, Int.reduceMul, Int.reduceToNat, push_cast, pairsOk, locGet_set, h1, hl, h13, G7, Ga, G13, Gl]
end Go.Proofs.Ytmglahnoemgieaa.Ax
namespace Go.Proofs.Ytmglahnoemgieaa.Ax
open Go Go.RowKit
set_option linter.unusedSimpArgs false
set_option linter.unusedVariables false
set_option maxHeartbeats 8000000
set_option maxRecDepth 4000
variable {w0 : World} {t : Option Gf}
theorem good_kind {m : Msg} (hg : msgGood m = true) : 0 ≤ m.kind ∧ m.kind ≤ 4 := by
  simp only [msgGood, Bool.and_eq_true] at hg
  have := hg.2
  by_cases k0 : m.kind = 0
  · omega
  by_cases k1 : m.kind = 1
  · omega
  by_cases k2 : m.kind = 2
  · omega
  by_cases k3 : m.kind = 3
  · omega
  by_cases k4 : m.kind = 4
  · omega
  simp [k0, k1, k2, k3, k4] at this
theorem encV_le {v : Val} (hv2 : valOk v = true) : (encV v).length ≤ 1000 := by
  unfold encV
  unfold valOk vGood at hv2
  by_cases q1 : v.1 = 1
  · simp [q1, encB_length]
  by_cases q2 : v.1 = 2
  · simp [q2] at hv2
    simp [q2, bl_len]
    omega
  by_cases q3 : v.1 = 3
  · simp [q3]
  by_cases q4 : v.1 = 4
  · simp [q4]
  · simp [q1, q2, q3, q4]
theorem f9 (ok : CfgOk (cfg w0 t)) (m : Msg) (hsm : msgSmall m) (xs : AV) (h : H) (he : REdsV h m.edges xs) : acallI (cfg w0 t) 9 [.agg (vN m.kind m.ticket m.ver m.sheet m.col m.row m.v xs)] h =
    some (.ret (.tup (if msgGood m then [vS (bs (encM m)), vI 0] else [vS .empty, vI 4])), h, none) := by
  rw [E9]
  have hg0 := f14 (w0 := w0) (t := t) m hsm xs h he
  have hnb : noBx xs = true ∧ oneA xs = true := by rcases he.len with ⟨_, _, rfl⟩ | ⟨_, rfl⟩ <;> exact ⟨rfl, rfl⟩
  cases hg : msgGood m
  · rw [hg] at hg0
    dsimp only [Try.f9, Option.getD]
    simp only [reduceIte, reduceCtorEq, Nat.reduceAdd, Nat.reduceMul, Nat.reduceSub, Nat.reduceEqDiff, Nat.reduceLT, Nat.reduceLeDiff, Nat.reduceBEq, Int.reduceLT, Int.reduceLE, Int.reduceEq,
    Int.reduceNe, Int.reduceAdd, Int.reduceSub, Int.reduceMul, Int.reduceToNat, push_cast, pairsOk, locGet, locSet, nextGen, hg0, hnb.1, hnb.2]
  rw [hg] at hg0
  have hr := good_nums hg
  have hk := good_kind hg
  have e1 := f26 ok m.kind.toNat 1 (by omega) (by omega) (by omega) h
  have e2 := f26 ok m.ticket.toNat 8 (by omega) (by omega) (by omega) h
  have e3 := f26 ok m.ver.toNat 8 (by omega) (by omega) (by omega) h
  rw [Int.toNat_of_nonneg hr.1, bs_eq, show ((8 : Nat) : Int) = 8 from rfl] at e2
  rw [Int.toNat_of_nonneg hr.2.2.1, bs_eq, show ((8 : Nat) : Int) = 8 from rfl] at e3
  rw [Int.toNat_of_nonneg hk.1, bs_eq, show ((1 : Nat) : Int) = 1 from rfl] at e1
  have hc1 : bs (encB m.kind.toNat 1) ++ bs (encB m.ticket.toNat 8) = bs (encB m.kind.toNat 1 ++ encB m.ticket.toNat 8) := by rw [bs_app]
  have hs1 : (bs (encB m.kind.toNat 1)).size + (bs (encB m.ticket.toNat 8)).size ≤ 9223372036854775807 := by rw [bs_size, bs_size, encB_length, encB_length]; omega
  have hl2 : (encB m.kind.toNat 1 ++ encB m.ticket.toNat 8).length = 9 := by simp [encB_length]
  have hM : encM m = encB m.kind.toNat 1 ++ encB m.ticket.toNat 8 ++ (if m.kind = 0 ∨ m.kind = 1 then encP m.sheet m.col.toNat m.row.toNat
   else if m.kind = 2 then encP m.sheet m.col.toNat m.row.toNat ++ encB m.ver.toNat 8 ++ encV m.v
   else if m.kind = 3 then encB m.ver.toNat 8 ++ encB m.edges.length 2 ++ encEs m.edges
   else []) := rfl
  rw [hM]
  generalize encB m.kind.toNat 1 ++ encB m.ticket.toNat 8 = o1 at hc1 hl2 ⊢
  generalize bs (encB m.kind.toNat 1) = sa at e1 hc1 hs1
  generalize bs (encB m.ticket.toNat 8) = sb at e2 hc1 hs1
  have hl3 : (encB m.ver.toNat 8).length = 8 := encB_length _ _
  generalize encB m.ver.toNat 8 = vv at e3 hl3 ⊢
  by_cases k4 : m.kind = 4
  · have n01 : ¬ (m.kind = 0 ∨ m.kind = 1) := by omega
    have n2 : ¬ (m.kind = 2) := by omega
    have n3 : ¬ (m.kind = 3) := by omega
    rw [if_neg n01, if_neg n2, if_neg n3, List.append_nil]
    rw [k4] at hg0 e1 ⊢
    dsimp only [Try.f9, Option.getD]
    simp only [reduceIte, reduceCtorEq, Nat.reduceAdd, Nat.reduceMul, Nat.reduceSub, Nat.reduceEqDiff, Nat.reduceLT, Nat.reduceLeDiff, Nat.reduceBEq, Int.reduceLT, Int.reduceLE, Int.reduceEq,
    Int.reduceNe, Int.reduceAdd, Int.reduceSub, Int.reduceMul, Int.reduceToNat, push_cast, pairsOk, locGet, locSet, nextGen, hg0, hnb.1, hnb.2, e1, e2, p2_str, strBin, hs1, hc1, p2_int, intBin]
  by_cases k3 : m.kind = 3
  · have n01 : ¬ (m.kind = 0 ∨ m.kind = 1) := by omega
    have n2 : ¬ (m.kind = 2) := by omega
    have hv : m.edges.all edOk = true ∧ m.edges.length ≤ 4096 := by
      simp only [msgGood, k3] at hg
      simp only [Bool.and_eq_true, decide_eq_true_eq, show ¬ ((3:Int) = 0) from by decide, show ¬ ((3:Int) = 1) from by decide, show ¬ ((3:Int) = 2) from by decide, reduceIte] at hg
      exact ⟨hg.2.1.1.1, hg.2.2⟩
    have hed : ∀ e ∈ m.edges, edNat e := fun e hm => edOk_nat (by simpa using List.all_eq_true.1 hv.1 e hm)
    have hLn := he.len.lenA (P := Try.prog) Try.underlying42
    rw [if_neg n01, if_neg n2, if_pos k3]
    have e6 := f26 ok m.edges.length 2 (by omega) (by omega) (by omega) h
    rw [show ((2 : Nat) : Int) = 2 from rfl, bs_eq] at e6
    have hl4 : (encB m.edges.length 2).length = 2 := encB_length _ _
    generalize encB m.edges.length 2 = nn at e6 hl4 ⊢
    have hs2 : (bs o1).size + (bs vv).size ≤ 9223372036854775807 := by rw [bs_size, bs_size]; omega
    have hs3 : (bs o1 ++ bs vv).size + (bs nn).size ≤ 9223372036854775807 := by rw [bs_app, bs_size, bs_size, List.length_append]; omega
    have hc2 : bs o1 ++ bs vv ++ bs nn = bs (o1 ++ vv ++ nn) := by rw [bs_app, bs_app]
    have hol : (o1 ++ vv ++ nn).length = 19 := by rw [List.length_append, List.length_append]; omega
    have ho3 : o1 ++ (vv ++ nn ++ encEs m.edges) = o1 ++ vv ++ nn ++ encEs m.edges := by simp only [List.append_assoc]
    rw [ho3]
    generalize o1 ++ vv ++ nn = o2 at hc2 hol ⊢
    rw [k3] at hg0 e1 ⊢
    rcases he with ⟨b, g, k, rfl, hb, hgen, hK⟩ | ⟨hn0, rfl⟩
    · obtain ⟨G, hG⟩ := skol (P := fun a : (Nat → AV) × Loc => a.1 1 = .bx 1 1 0 ∧ locGet a.2 1 = some (1, .cells (vN 3 m.ticket m.ver m.sheet m.col m.row m.v (.sl b g 0 m.edges.length 5))) ∧ a.1 7 = vS (bs o2) ∧ a.1 13 = vI 0)
        (Q := fun a c => acodeI (cfg w0 t) 9 (.loop (lp Try.f9 0)) ⟨fl 131 a.1, a.2, h, none⟩ = some (.exit 0, ⟨fl 131 c.1, c.2, h, none⟩) ∧ c.1 7 = vS (bs (o2 ++ encEs m.edges))) (β := (Nat → AV) × Loc) (fun a ha => by
          obtain ⟨F', loc', q1, q2⟩ := L9o ok h m.edges b g k hb hgen hK hv.2 hed _ _ _ _ _ _ _ _ _ _ _ _ m.edges.length 0 o2 a.1 a.2 (by omega) (by omega) ha.1 ha.2.1 ha.2.2.1 ha.2.2.2
          exact ⟨(F', loc'), q1, q2⟩)
      have G1 := fun F loc hc => (hG (F, loc) hc).1
      have G2 := fun F loc hc => (hG (F, loc) hc).2
      clear hG
      generalize o2 ++ encEs m.edges = out at G2 ⊢
      dsimp only [lp, loopsOf, Try.f9, Option.getD, List.append_eq, List.nil_append, List.cons_append, List.getElem?_cons_zero, List.getElem?_cons_succ] at G1 G2 ⊢
      simp only [reduceIte, reduceCtorEq, Nat.reduceAdd, Nat.reduceMul, Nat.reduceSub, Nat.reduceEqDiff, Nat.reduceLT, Nat.reduceLeDiff, Nat.reduceBEq, Int.reduceLT, Int.reduceLE, Int.reduceEq,
    Int.reduceNe, Int.reduceAdd, Int.reduceSub, Int.reduceMul, Int.reduceToNat, push_cast, pairsOk, locGet, locSet, nextGen, hg0, hnb.1, hnb.2, hLn, e1, e2, e3, e6, p2_str, strBin, hs1, hc1, hs2, hs3, hc2, p2_int, intBin, G1, G2]
    · have ho4 : o2 ++ encEs m.edges = o2 := by rw [hn0]; simp [encEs]
      rw [ho4]
      rw [hn0] at hLn e6
      simp only [List.length_nil, Int.cast_ofNat_Int] at e6
      dsimp only [Try.f9, Option.getD]
      simp only [reduceIte, reduceCtorEq, Nat.reduceAdd, Nat.reduceMul, Nat.reduceSub, Nat.reduceEqDiff, Nat.reduceLT, Nat.reduceLeDiff, Nat.reduceBEq, Int.reduceLT, Int.reduceLE, Int.reduceEq,
    Int.reduceNe, Int.reduceAdd, Int.reduceSub, Int.reduceMul, Int.reduceToNat, push_cast, pairsOk, locGet, locSet, nextGen, X_loop, hg0, hLn, e1, e2, e3, e6, p2_str, strBin, hs1, hc1, hs2, hs3, hc2, p2_int, intBin]
  have hp := placed_nat (s := m.sheet) (a := m.col) (b := m.row) (by
    have q := hg
    simp only [msgGood, Bool.and_eq_true] at q
    have q := q.2
    by_cases k0 : m.kind = 0
    · simp [k0] at q; exact q.1
    by_cases k1 : m.kind = 1
    · simp [k1] at q; exact q.1
    have k2 : m.kind = 2 := by omega
    simp [k2] at q; exact q.1.1)
  have e4 := f27 ok .empty m.sheet m.col.toNat m.row.toNat (by omega) (by omega) (by omega) h
  rw [Int.toNat_of_nonneg hp.1, Int.toNat_of_nonneg hp.2.2.1] at e4
  have hl4 : (encP m.sheet m.col.toNat m.row.toNat).length ≤ 20 := by rw [encP_length]; omega
  generalize encP m.sheet m.col.toNat m.row.toNat = pp at e4 hl4 ⊢
  have hs2 : (bs o1).size + (bs pp).size ≤ 9223372036854775807 := by rw [bs_size, bs_size]; omega
  have hc2 : bs o1 ++ bs pp = bs (o1 ++ pp) := by rw [bs_app]
  by_cases k0 : m.kind = 0
  · have n01 : m.kind = 0 ∨ m.kind = 1 := .inl k0
    rw [if_pos n01]
    generalize o1 ++ pp = out at hc2 ⊢
    rw [k0] at hg0 e1 ⊢
    dsimp only [Try.f9, Option.getD]
    simp only [reduceIte, reduceCtorEq, Nat.reduceAdd, Nat.reduceMul, Nat.reduceSub, Nat.reduceEqDiff, Nat.reduceLT, Nat.reduceLeDiff, Nat.reduceBEq, Int.reduceLT, Int.reduceLE, Int.reduceEq,
    Int.reduceNe, Int.reduceAdd, Int.reduceSub, Int.reduceMul, Int.reduceToNat, push_cast, pairsOk, locGet, locSet, nextGen, hg0, hnb.1, hnb.2, e1, e2, e3, e4, p2_str, strBin, hs1, hc1, hs2, hc2, p2_int, intBin]
  by_cases k1 : m.kind = 1
  · have n01 : m.kind = 0 ∨ m.kind = 1 := .inr k1
    rw [if_pos n01]
    generalize o1 ++ pp = out at hc2 ⊢
    rw [k1] at hg0 e1 ⊢
    dsimp only [Try.f9, Option.getD]
    simp only [reduceIte, reduceCtorEq, Nat.reduceAdd, Nat.reduceMul, Nat.reduceSub, Nat.reduceEqDiff, Nat.reduceLT, Nat.reduceLeDiff, Nat.reduceBEq, Int.reduceLT, Int.reduceLE, Int.reduceEq,
    Int.reduceNe, Int.reduceAdd, Int.reduceSub, Int.reduceMul, Int.reduceToNat, push_cast, pairsOk, locGet, locSet, nextGen, hg0, hnb.1, hnb.2, e1, e2, e3, e4, p2_str, strBin, hs1, hc1, hs2, hc2, p2_int, intBin]
  · have k2 : m.kind = 2 := by omega
    have n01 : ¬ (m.kind = 0 ∨ m.kind = 1) := by omega
    rw [if_neg n01, if_pos k2]
    have hv : valOk m.v = true := by simp [msgGood, k2] at hg; exact hg.2.1.2
    have e5 := f28 ok m.v.1 m.v.2.1 m.v.2.2.1 m.v.2.2.2.1 m.v.2.2.2.2 h
    rw [show vGood m.v.1 m.v.2.1 m.v.2.2.1 m.v.2.2.2.1 m.v.2.2.2.2 = valOk m.v from rfl, hv, if_pos rfl, show (m.v.1, m.v.2.1, m.v.2.2.1, m.v.2.2.2.1, m.v.2.2.2.2) = m.v from rfl] at e5
    have hl5 := encV_le hv
    generalize encV m.v = xx at e5 hl5 ⊢
    have ho3 : o1 ++ (pp ++ vv ++ xx) = o1 ++ pp ++ vv ++ xx := by simp only [List.append_assoc]
    rw [ho3]
    have hs3 : (bs (o1 ++ pp)).size + (bs vv).size ≤ 9223372036854775807 := by rw [bs_size, bs_size, List.length_append]; omega
    have hs4 : (bs (o1 ++ pp) ++ bs vv).size + (bs xx).size ≤ 9223372036854775807 := by rw [bs_app, bs_size, bs_size, List.length_append, List.length_append]; omega
    have hc3 : bs (o1 ++ pp) ++ bs vv ++ bs xx = bs (o1 ++ pp ++ vv ++ xx) := by rw [bs_app, bs_app]
    generalize o1 ++ pp ++ vv ++ xx = out at hc3 ⊢
    generalize o1 ++ pp = o2 at hc2 hc3 hs3 hs4
    rw [k2] at hg0 e1 ⊢
    dsimp only [Try.f9, Option.getD]
    simp only [reduceIte, reduceCtorEq, Nat.reduceAdd, Nat.reduceMul, Nat.reduceSub, Nat.reduceEqDiff, Nat.reduceLT, Nat.reduceLeDiff, Nat.reduceBEq, Int.reduceLT, Int.reduceLE, Int.reduceEq,
    Int.reduceNe, Int.reduceAdd, Int.reduceSub, Int.reduceMul, Int.reduceToNat, push_cast, pairsOk, locGet, locSet, nextGen, hg0, hnb.1, hnb.2, e1, e2, e3, e4, e5, p2_str, strBin, hs1, hc1, hs2, hc2, hs3, hs4, hc3, p2_int, intBin]
end Go.Proofs.Ytmglahnoemgieaa.Ax
namespace Go.Proofs.Ytmglahnoemgieaa.Ax
open Go Go.RowKit
set_option linter.unusedSimpArgs false
set_option linter.unusedVariables false
set_option maxHeartbeats 8000000
set_option maxRecDepth 4000
variable {w0 : World} {t : Option Gf}
/-- a heap with a reader at a block: its text, and its place -/
def rdH (h : H) (b : Nat) (s : ByteArray) (a : Nat) : H := h.set b ⟨[vS s, vI a], 0⟩
theorem rdH_get {h : H} {b : Nat} {s : ByteArray} {a : Nat} (hb : b < h.length) : (rdH h b s a)[b]? = some ⟨[vS s, vI a], 0⟩ := by simp [rdH, hb]
theorem rdH_len {h : H} {b : Nat} {s : ByteArray} {a : Nat} : (rdH h b s a).length = h.length := by simp [rdH]
theorem rdH_set {h : H} {b : Nat} {s : ByteArray} {a c : Nat} : (rdH h b s a).set b ⟨[vS s, vI c], 0⟩ = rdH h b s c := by simp [rdH]
def panA (a : AV) (r : Option Req) : Option Req := match a with
  | .ifc t y => some (.pan (.ifc t y))
  | _ => r
section
variable {c : Cfg} {f : FuncId} {fr : List AV} {d : Option Tmp} {ty : TypeId} {pos : String} {af : Array Edge} {g : Option (Nat × Bool)}
theorem a_pan {x : Operand} : aop c f fr { dst := d, op := .panic x, type := ty, pos := pos, after := af, guard := g } = panA (ev fr x) (aopAs c f fr { dst := d, op := .panic x, type := ty, pos := pos, after := af, guard := g }) := by
  unfold panA
  split
  · rename_i t y h; exact a_panic h
  · rfl
theorem pan_ifc {t : TypeId} {y : AV} {r : Option Req} : panA (.ifc t y) r = some (.pan (.ifc t y)) := rfl
end
abbrev brk : AV := .ifc 107 (.agg [])
theorem f63 (h : H) (b : Nat) (s : ByteArray) (a n : Nat) (hb : b < h.length) (ha : a ≤ s.size) (hs : s.size ≤ 9223372036854775000) (hn : n ≤ 9223372036854775000) :
    acallI (cfg w0 t) 63 [.ptr b 0 0, vI n] (rdH h b s a) = if a + n ≤ s.size then some (.ret (vS (s.extract a (a + n))), rdH h b s (a + n), some b) else some (.pan brk, rdH h b s a, none) := by
  rw [E63]
  have hg := rdH_get (s := s) (a := a) hb
  have hw : IntKind.i64.wrap ((s.size : Int) - (a : Int)) = (s.size : Int) - a := by rw [wrap_i64] <;> omega
  dsimp only [Try.f63, Option.getD]
  by_cases hk : a + n ≤ s.size
  · rw [if_pos hk]
    have hc : ¬ ((s.size : Int) - a < n) := by omega
    have hw2 : IntKind.i64.wrap ((a : Int) + (n : Int)) = (a : Int) + (n : Int) := by rw [wrap_i64] <;> omega
    have hw3 : IntKind.i64.wrap ((a : Int) + (n : Int) - (n : Int)) = (a : Int) := by rw [wrap_i64] <;> omega
    have hset : (rdH h b s a).set b ⟨[vS s, vI ((a : Int) + (n : Int))], 0⟩ = rdH h b s (a + n) := by rw [← Int.natCast_add]; exact rdH_set
    have hg2 := rdH_get (s := s) (a := a + n) hb
    have h1 : (0 : Int) ≤ (a : Int) := by omega
    have h2 : (a : Int) ≤ (a : Int) + (n : Int) := by omega
    have h3 : (a : Int) + (n : Int) ≤ s.size := by omega
    have h4 : ((a : Int) + (n : Int)).toNat = a + n := by omega
    have hnl : ¬ (h.length ≤ b) := by omega
    simp only [reduceIte, reduceCtorEq, Nat.reduceAdd, Nat.reduceMul, Nat.reduceSub, Nat.reduceEqDiff, Nat.reduceLT, Nat.reduceLeDiff, Nat.reduceBEq, Int.reduceLT, Int.reduceLE, Int.reduceEq,
    Int.reduceNe, Int.reduceAdd, Int.reduceSub, Int.reduceMul, Int.reduceToNat, push_cast, pairsOk, locGet, locSet, nextGen, len_str Try.underlying9, p2_int, intBin, hg, hw, hc, hw2, hw3, hset, h4, hg2, sl_str_lh (P := Try.prog) Try.underlying9 h1 h2 h3, rdH_len, hnl]
  · rw [if_neg hk]
    have hc : ((s.size : Int) - a < n) := by omega
    simp only [reduceIte, reduceCtorEq, Nat.reduceAdd, Nat.reduceMul, Nat.reduceSub, Nat.reduceEqDiff, Nat.reduceLT, Nat.reduceLeDiff, Nat.reduceBEq, Int.reduceLT, Int.reduceLE, Int.reduceEq,
    Int.reduceNe, Int.reduceAdd, Int.reduceSub, Int.reduceMul, Int.reduceToNat, push_cast, pairsOk, locGet, locSet, nextGen, len_str Try.underlying9, p2_int, intBin, hg, hw, hc, rdH_len, a_pan, pan_ifc]
end Go.Proofs.Ytmglahnoemgieaa.Ax
namespace Go.Proofs.Ytmglahnoemgieaa.Ax
open Go Go.RowKit
set_option linter.unusedSimpArgs false
set_option linter.unusedVariables false
set_option maxHeartbeats 8000000
set_option maxRecDepth 4000
variable {w0 : World} {t : Option Gf}
/-- the number of bytes, the highest first -/
def beN (l : List UInt8) : Nat := l.foldl (fun n b => n * 256 + b.toNat) 0
theorem beN_snoc (l : List UInt8) (x : UInt8) : beN (l ++ [x]) = beN l * 256 + x.toNat := by simp [beN]
theorem beN_lt (l : List UInt8) : beN l < 256 ^ l.length := by
  induction hn : l.length generalizing l with
  | zero => rw [List.eq_nil_of_length_eq_zero hn]; decide
  | succ n ih =>
    have hne : l ≠ [] := by intro e; rw [e] at hn; cases hn
    obtain ⟨l', x, rfl⟩ : ∃ l' x, l = l' ++ [x] := ⟨l.dropLast, l.getLast hne, (List.dropLast_concat_getLast hne).symm⟩
    rw [beN_snoc]
    have := ih l' (by rw [List.length_append] at hn; simpa using hn)
    have hx := x.toNat_lt
    rw [Nat.pow_succ]
    omega
/-- 64 bits as a number with a sign -/
def sI (n : Nat) : Int := IntKind.i64.wrap n
theorem or_byte (n b : Nat) (hn : n < 72057594037927936) (hb : b < 256) : IntKind.u64.wrap ((BitVec.ofInt IntKind.u64.bits (IntKind.u64.wrap ((n : Int) * 2 ^ (min ((8 : Int).toNat) IntKind.u64.bits))) ||| BitVec.ofInt IntKind.u64.bits (b : Int)).toNat) = ((n * 256 + b : Nat) : Int) := by
  have h1 : min ((8 : Int).toNat) IntKind.u64.bits = 8 := by decide
  have h2 : IntKind.u64.wrap ((n : Int) * 2 ^ 8) = ((n * 256 : Nat) : Int) := by rw [wrap_u64]; omega
  rw [h1, h2]
  have h3 : (BitVec.ofInt IntKind.u64.bits ((n * 256 : Nat) : Int) ||| BitVec.ofInt IntKind.u64.bits (b : Int)).toNat = n * 256 + b := by
    rw [BitVec.ofInt_natCast, BitVec.ofInt_natCast, BitVec.toNat_or, BitVec.toNat_ofNat, BitVec.toNat_ofNat]
    have e : (2 : Nat) ^ IntKind.u64.bits = 18446744073709551616 := by decide
    rw [e, Nat.mod_eq_of_lt (by omega), Nat.mod_eq_of_lt (by omega)]
    have := Nat.shiftLeft_add_eq_or_of_lt (b := b) (i := 8) hb n
    rw [Nat.shiftLeft_eq] at this
    exact this.symm
  rw [h3, wrap_u64]
  omega
def R45 (h : H) (lw : Option Nat) (n : Nat) (R : Option (Ex × S)) : Prop :=
  ∃ F', R = some (.exit 0, ⟨fl 25 F', [], h, lw⟩) ∧ F' 5 = vQ n
theorem L45 (h : H) (lw : Option Nat) (L : List UInt8) (hL : L.length ≤ 8) : ∀ (m i : Nat) (F : Nat → AV), i + m = L.length →
    F 5 = vQ (beN (L.take i)) → F 11 = .lit (byteCells L) L.length → F 12 = vI L.length → F 13 = vI i →
    R45 h lw (beN L) (acodeI (cfg w0 t) 45 (.loop (lp Try.f45 0)) ⟨fl 25 F, [], h, lw⟩) := by
  dsimp only [lp, loopsOf, Try.f45, Option.getD, List.append_eq, List.nil_append, List.cons_append, List.getElem?_cons_zero, List.getElem?_cons_succ]
  intro m
  induction m with
  | zero =>
    intro i F hi h5 h11 h12 h13
    have e : ¬ ((i : Int) < L.length) := by omega
    rw [List.take_of_length_le (by omega)] at h5
    rw [X_loop]
    simp only [reduceIte, reduceCtorEq, Nat.reduceAdd, Nat.reduceMul, Nat.reduceSub, Nat.reduceEqDiff, Nat.reduceLT, Nat.reduceLeDiff, Nat.reduceBEq, Int.reduceLT, Int.reduceLE, Int.reduceEq,
    Int.reduceNe, Int.reduceAdd, Int.reduceSub, Int.reduceMul, Int.reduceToNat, push_cast, pairsOk, locGet_set, p2_int, intBin, h5, h11, h12, h13, e]
    exact ⟨_, rfl, by simp only [reduceIte, reduceCtorEq, Nat.reduceAdd, Nat.reduceMul, Nat.reduceSub, Nat.reduceEqDiff, Nat.reduceLT, Nat.reduceLeDiff, Nat.reduceBEq, Int.reduceLT, Int.reduceLE, Int.reduceEq,
    Int.reduceNe, Int.reduceAdd, Int.reduceSub, Int.reduceMul, Int.reduceToNat, push_cast, pairsOk, locGet_set, h5]⟩
  | succ m ih =>
    intro i F hi h5 h11 h12 h13
    have e : (i : Int) < L.length := by omega
    have hlt : i < L.length := by omega
    have hn : (0 : Int) ≤ i := by omega
    have hdr : List.drop i (byteCells L) = vU L[i] :: List.drop (i + 1) (byteCells L) := by
      have := List.drop_eq_getElem_cons (l := byteCells L) (i := i) (by rw [byteCells_length]; omega)
      rw [this]
      simp [byteCells]
    have htk : beN (L.take (i + 1)) = beN (L.take i) * 256 + L[i].toNat := by
      rw [List.take_succ_eq_append_getElem hlt, beN_snoc]
    have hb := L[i].toNat_lt
    have hlt2 : beN (L.take i) < 72057594037927936 := by
      refine Nat.lt_of_lt_of_le (beN_lt _) ?_
      rw [List.length_take]
      exact Nat.le_trans (Nat.pow_le_pow_right (by decide) (show min i L.length ≤ 7 by omega)) (by decide)
    have hor := or_byte (beN (L.take i)) L[i].toNat hlt2 hb
    have hw1 : IntKind.i64.wrap ((i : Int) + 1) = ((i + 1 : Nat) : Int) := by rw [wrap_i64] <;> omega
    have hwb : IntKind.u64.wrap (L[i].toNat : Int) = (L[i].toNat : Int) := by rw [wrap_u64]; omega
    rw [← htk] at hor
    have hlen1 : 1 ≤ (vU L[i] :: List.drop (i + 1) (byteCells L)).length := by simp
    generalize L[i] = x at hdr hor hwb hlen1
    generalize hN : beN (L.take i) = N at hor h5
    rw [X_loop]
    simp only [Int.cast_ofNat_Int, Int.reduceToNat] at hor
    simp only [reduceIte, reduceCtorEq, Nat.reduceAdd, Nat.reduceMul, Nat.reduceSub, Nat.reduceEqDiff, Nat.reduceLT, Nat.reduceLeDiff, Nat.reduceBEq, Int.reduceLT, Int.reduceLE, Int.reduceEq,
    Int.reduceNe, Int.reduceAdd, Int.reduceSub, Int.reduceMul, Int.reduceToNat, push_cast, pairsOk, locGet_set, p2_int, intBin, idx_lit elemSize_62, h5, h11, h12, h13, hn, e, Nat.mul_one, hdr, hlen1, hwb, hor, hw1]
    refine ih (i + 1) _ (by omega) ?_ ?_ ?_ ?_ <;> simp only [reduceIte, reduceCtorEq, Nat.reduceAdd, Nat.reduceMul, Nat.reduceSub, Nat.reduceEqDiff, Nat.reduceLT, Nat.reduceLeDiff, Nat.reduceBEq, Int.reduceLT, Int.reduceLE, Int.reduceEq,
    Int.reduceNe, Int.reduceAdd, Int.reduceSub, Int.reduceMul, Int.reduceToNat, push_cast, pairsOk, locGet_set, h11, h12]
/-- a number at a place -/
def nAt (s : ByteArray) (a k : Nat) : Nat := beN (bl (s.extract a (a + k)))
theorem nAt_lt (s : ByteArray) (a k : Nat) (h : a + k ≤ s.size) : nAt s a k < 256 ^ k := by
  have := beN_lt (bl (s.extract a (a + k)))
  rw [bl_len, ext_size] at this
  rwa [show min (a + k) s.size - a = k from by omega] at this
theorem cv_45 (x : ByteArray) : convA (cfg w0 t) 45 (some 11) 9 62 (some .string) (some (.slice 5)) (.val (.string x)) = some (.done (.lit (bytesA x) x.size)) := conv_bytes_lit (c := cfg w0 t) Try.underlying5 rfl
theorem f45 (h : H) (b : Nat) (s : ByteArray) (a k : Nat) (hb : b < h.length) (ha : a ≤ s.size) (hs : s.size ≤ 9223372036854775000) (hk : k ≤ 8) :
    acallI (cfg w0 t) 45 [.ptr b 0 0, vI k] (rdH h b s a) = if a + k ≤ s.size then some (.ret (vI (sI (nAt s a k))), rdH h b s (a + k), some b) else some (.pan brk, rdH h b s a, none) := by
  rw [E45]
  have e1 := f63 (w0 := w0) (t := t) h b s a k hb ha hs (by omega)
  by_cases hc : a + k ≤ s.size
  · rw [if_pos hc] at e1 ⊢
    have hL : (bl (s.extract a (a + k))).length = k := by rw [bl_len, ext_size]; omega
    have hsz : (s.extract a (a + k)).size = k := by rw [ext_size]; omega
    have hba : bytesA (s.extract a (a + k)) = byteCells (bl (s.extract a (a + k))) := rfl
    obtain ⟨G, hG⟩ := skol (P := fun a' : (Nat → AV) × Option Nat => a'.1 5 = .val (.int .u64 0) ∧ a'.1 11 = .lit (byteCells (bl (s.extract a (a + k)))) k ∧ a'.1 12 = vI k ∧ a'.1 13 = vI 0)
      (Q := fun a' c => acodeI (cfg w0 t) 45 (.loop (lp Try.f45 0)) ⟨fl 25 a'.1, [], rdH h b s (a + k), a'.2⟩ = some (.exit 0, ⟨fl 25 c, [], rdH h b s (a + k), a'.2⟩) ∧ c 5 = vQ (nAt s a k)) (β := (Nat → AV)) (fun a' ha' => by
        obtain ⟨F', q1, q2⟩ := L45 (w0 := w0) (t := t) (rdH h b s (a + k)) a'.2 (bl (s.extract a (a + k))) (by omega) k 0 a'.1 (by omega) ha'.1 (by rw [hL]; exact ha'.2.1) (by rw [hL]; exact ha'.2.2.1) ha'.2.2.2
        exact ⟨F', q1, q2⟩)
    have G1 := fun F lw hc => (hG (F, lw) hc).1
    have G2 := fun F lw hc => (hG (F, lw) hc).2
    clear hG
    have hsI : IntKind.i64.wrap (nAt s a k : Int) = sI (nAt s a k) := rfl
    generalize nAt s a k = N at hsI G2 ⊢
    generalize byteCells (bl (s.extract a (a + k))) = cells at hba G1 G2
    generalize s.extract a (a + k) = x at e1 hsz hba
    have hnl : ¬ (h.length ≤ b) := by omega
    dsimp only [lp, loopsOf, Try.f45, Option.getD, List.append_eq, List.nil_append, List.cons_append, List.getElem?_cons_zero, List.getElem?_cons_succ] at G1 G2 ⊢
    simp only [reduceIte, reduceCtorEq, Nat.reduceAdd, Nat.reduceMul, Nat.reduceSub, Nat.reduceEqDiff, Nat.reduceLT, Nat.reduceLeDiff, Nat.reduceBEq, Int.reduceLT, Int.reduceLE, Int.reduceEq,
    Int.reduceNe, Int.reduceAdd, Int.reduceSub, Int.reduceMul, Int.reduceToNat, push_cast, pairsOk, locGet, locSet, nextGen, e1, len_lit Try.underlying62, hsz, hba, G1, G2, hsI, p2_int, intBin, rdH_len, hnl, cv_45]
  · rw [if_neg hc] at e1 ⊢
    dsimp only [Try.f45, Option.getD]
    simp only [reduceIte, reduceCtorEq, Nat.reduceAdd, Nat.reduceMul, Nat.reduceSub, Nat.reduceEqDiff, Nat.reduceLT, Nat.reduceLeDiff, Nat.reduceBEq, Int.reduceLT, Int.reduceLE, Int.reduceEq,
    Int.reduceNe, Int.reduceAdd, Int.reduceSub, Int.reduceMul, Int.reduceToNat, push_cast, pairsOk, locGet, locSet, nextGen, e1, rdH_len]
end Go.Proofs.Ytmglahnoemgieaa.Ax
namespace Go.Proofs.Ytmglahnoemgieaa.Ax
open Go Go.RowKit
set_option linter.unusedSimpArgs false
set_option linter.unusedVariables false
set_option maxHeartbeats 8000000
set_option maxRecDepth 4000
variable {w0 : World} {t : Option Gf}
theorem lw_same {b : Nat} : lwMin (some b) (some b) = some b := by simp [lwMin]
theorem sI_small {n : Nat} (h : n < 9223372036854775808) : sI n = (n : Int) := by
  unfold sI
  rw [wrap_i64] <;> omega
theorem nAt1 (s : ByteArray) (a : Nat) (h : a + 1 ≤ s.size) : nAt s a 1 < 256 := nAt_lt s a 1 h
theorem nAt2 (s : ByteArray) (a : Nat) (h : a + 2 ≤ s.size) : nAt s a 2 < 65536 := nAt_lt s a 2 h
theorem nAt8 (s : ByteArray) (a : Nat) (h : a + 8 ≤ s.size) : nAt s a 8 < 18446744073709551616 := nAt_lt s a 8 h
def rdN (s : ByteArray) (a k : Nat) : Option (Nat × Nat) := if a + k ≤ s.size then some (nAt s a k, a + k) else none
theorem rdN_some {s : ByteArray} {a k n c : Nat} (h : rdN s a k = some (n, c)) : a + k ≤ s.size ∧ n = nAt s a k ∧ c = a + k := by
  unfold rdN at h
  split at h
  · rename_i hk; cases h; exact ⟨hk, rfl, rfl⟩
  · cases h
def rdT (s : ByteArray) (a : Nat) : Option (ByteArray × Nat) := (rdN s a 1).bind fun (n, c) => if c + n ≤ s.size then some (s.extract c (c + n), c + n) else none
def rdP (s : ByteArray) (a : Nat) : Option ((ByteArray × Nat × Nat) × Nat) := (rdT s a).bind fun (x, c) => (rdN s c 1).bind fun (col, d) => (rdN s d 2).bind fun (row, e) => some ((x, col, row), e)
section
variable (h : H) (b : Nat) (s : ByteArray) (a : Nat) (hb : b < h.length) (ha : a ≤ s.size) (hs : s.size ≤ 9223372036854775000)
include hb ha hs
theorem f45_1 : acallI (cfg w0 t) 45 [.ptr b 0 0, vI 1] (rdH h b s a) = if a + 1 ≤ s.size then some (.ret (vI (nAt s a 1)), rdH h b s (a + 1), some b) else some (.pan brk, rdH h b s a, none) := by
  have := f45 (w0 := w0) (t := t) h b s a 1 hb ha hs (by omega)
  rw [show ((1 : Nat) : Int) = 1 from rfl] at this
  rw [this]
  by_cases hc : a + 1 ≤ s.size
  · rw [if_pos hc, if_pos hc, sI_small (by have := nAt1 s a hc; omega)]
  · rw [if_neg hc, if_neg hc]
theorem f45_2 : acallI (cfg w0 t) 45 [.ptr b 0 0, vI 2] (rdH h b s a) = if a + 2 ≤ s.size then some (.ret (vI (nAt s a 2)), rdH h b s (a + 2), some b) else some (.pan brk, rdH h b s a, none) := by
  have := f45 (w0 := w0) (t := t) h b s a 2 hb ha hs (by omega)
  rw [show ((2 : Nat) : Int) = 2 from rfl] at this
  rw [this]
  by_cases hc : a + 2 ≤ s.size
  · rw [if_pos hc, if_pos hc, sI_small (by have := nAt2 s a hc; omega)]
  · rw [if_neg hc, if_neg hc]
/-- what a call of a reader comes to -/
def RdOut (h : H) (b : Nat) (s : ByteArray) (v : Option (AV × Nat)) (r : Option (Out × H × Option Nat)) : Prop := match v with
  | some (v, c) => r = some (.ret v, rdH h b s c, some b)
  | none => ∃ c lw, r = some (.pan brk, rdH h b s c, lw) ∧ lwOver lw b = true
theorem f67 : RdOut h b s ((rdT s a).map fun p => (vS p.1, p.2)) (acallI (cfg w0 t) 67 [.ptr b 0 0] (rdH h b s a)) := by
  rw [E67]
  have e1 := f45_1 (w0 := w0) (t := t) h b s a hb ha hs
  unfold rdT rdN
  have hnl : ¬ (h.length ≤ b) := by omega
  by_cases hc : a + 1 ≤ s.size
  · rw [if_pos hc] at e1 ⊢
    have hn := nAt1 s a hc
    have e2 := f63 (w0 := w0) (t := t) h b s (a + 1) (nAt s a 1) hb hc hs (by omega)
    generalize nAt s a 1 = n at e1 e2 hn ⊢
    generalize a + 1 = c at e1 e2 ⊢
    by_cases hc2 : c + n ≤ s.size
    · rw [if_pos hc2] at e2
      simp only [Option.bind_some, if_pos hc2, Option.map_some, RdOut]
      dsimp only [Try.f67, Option.getD]
      simp only [reduceIte, reduceCtorEq, Nat.reduceAdd, Nat.reduceMul, Nat.reduceSub, Nat.reduceEqDiff, Nat.reduceLT, Nat.reduceLeDiff, Nat.reduceBEq, Int.reduceLT, Int.reduceLE, Int.reduceEq,
    Int.reduceNe, Int.reduceAdd, Int.reduceSub, Int.reduceMul, Int.reduceToNat, push_cast, pairsOk, locGet, locSet, nextGen, e1, e2, rdH_len, hnl, lw_same]
    · rw [if_neg hc2] at e2
      simp only [Option.bind_some, if_neg hc2, Option.map_none, RdOut]
      refine ⟨c, some b, ?_, by simp [lwOver]⟩
      dsimp only [Try.f67, Option.getD]
      simp only [reduceIte, reduceCtorEq, Nat.reduceAdd, Nat.reduceMul, Nat.reduceSub, Nat.reduceEqDiff, Nat.reduceLT, Nat.reduceLeDiff, Nat.reduceBEq, Int.reduceLT, Int.reduceLE, Int.reduceEq,
    Int.reduceNe, Int.reduceAdd, Int.reduceSub, Int.reduceMul, Int.reduceToNat, push_cast, pairsOk, locGet, locSet, nextGen, e1, e2, rdH_len, hnl, lw_same]
  · rw [if_neg hc] at e1 ⊢
    simp only [Option.bind_none, Option.map_none, RdOut]
    refine ⟨a, none, ?_, rfl⟩
    dsimp only [Try.f67, Option.getD]
    simp only [reduceIte, reduceCtorEq, Nat.reduceAdd, Nat.reduceMul, Nat.reduceSub, Nat.reduceEqDiff, Nat.reduceLT, Nat.reduceLeDiff, Nat.reduceBEq, Int.reduceLT, Int.reduceLE, Int.reduceEq,
    Int.reduceNe, Int.reduceAdd, Int.reduceSub, Int.reduceMul, Int.reduceToNat, push_cast, pairsOk, locGet, locSet, nextGen, e1, rdH_len, hnl]
end
theorem rdT_le {s : ByteArray} {a : Nat} {x : ByteArray} {c : Nat} (h : rdT s a = some (x, c)) : c ≤ s.size ∧ a < c ∧ x.size ≤ 255 ∧ x.size + a + 1 = c := by
  unfold rdT rdN at h
  by_cases hc : a + 1 ≤ s.size
  · have hn := nAt1 s a hc
    rw [if_pos hc] at h
    simp only [Option.bind_some] at h
    by_cases hc2 : a + 1 + nAt s a 1 ≤ s.size
    · rw [if_pos hc2] at h
      cases h
      rw [ext_size]
      omega
    · rw [if_neg hc2] at h; cases h
  · rw [if_neg hc] at h; cases h
section
variable (h : H) (b : Nat) (s : ByteArray) (a : Nat) (hb : b < h.length) (ha : a ≤ s.size) (hs : s.size ≤ 9223372036854775000)
include hb ha hs
theorem f59 : RdOut h b s ((rdP s a).map fun p => (.tup [vS p.1.1, .agg [vI p.1.2.1, vI p.1.2.2]], p.2)) (acallI (cfg w0 t) 59 [.ptr b 0 0] (rdH h b s a)) := by
  rw [E59]
  have e1 := f67 (w0 := w0) (t := t) h b s a hb ha hs
  unfold rdP
  have hnl : ¬ (h.length ≤ b) := by omega
  cases hT : rdT s a with
  | none =>
    rw [hT] at e1
    obtain ⟨c, lw, e1, hlw⟩ := e1
    simp only [Option.bind_none, Option.map_none, RdOut]
    cases hv : lwOver lw h.length
    · refine ⟨c, lw, ?_, hlw⟩
      dsimp only [Try.f59, Option.getD]
      simp only [reduceIte, reduceCtorEq, Nat.reduceAdd, Nat.reduceMul, Nat.reduceSub, Nat.reduceEqDiff, Nat.reduceLT, Nat.reduceLeDiff, Nat.reduceBEq, Int.reduceLT, Int.reduceLE, Int.reduceEq,
    Int.reduceNe, Int.reduceAdd, Int.reduceSub, Int.reduceMul, Int.reduceToNat, push_cast, pairsOk, locGet, locSet, nextGen, e1, rdH_len, hv]
    · refine ⟨a, none, ?_, rfl⟩
      dsimp only [Try.f59, Option.getD]
      simp only [reduceIte, reduceCtorEq, Nat.reduceAdd, Nat.reduceMul, Nat.reduceSub, Nat.reduceEqDiff, Nat.reduceLT, Nat.reduceLeDiff, Nat.reduceBEq, Int.reduceLT, Int.reduceLE, Int.reduceEq,
    Int.reduceNe, Int.reduceAdd, Int.reduceSub, Int.reduceMul, Int.reduceToNat, push_cast, pairsOk, locGet, locSet, nextGen, e1, rdH_len, hv]
  | some p =>
    obtain ⟨x, c⟩ := p
    rw [hT] at e1
    replace e1 : acallI (cfg w0 t) 67 [.ptr b 0 0] (rdH h b s a) = some (.ret (vS x), rdH h b s c, some b) := e1
    have hle := rdT_le hT
    have e2 := f45_1 (w0 := w0) (t := t) h b s c hb hle.1 hs
    simp only [Option.bind_some]
    unfold rdN
    by_cases hc : c + 1 ≤ s.size
    · rw [if_pos hc] at e2
      have e3 := f45_2 (w0 := w0) (t := t) h b s (c + 1) hb hc hs
      simp only [if_pos hc, Option.bind_some]
      by_cases hc2 : c + 1 + 2 ≤ s.size
      · rw [if_pos hc2] at e3
        simp only [if_pos hc2, Option.bind_some, Option.map_some, RdOut]
        generalize c + 1 + 2 = d at e3 ⊢
        generalize c + 1 = c1 at e2 e3 ⊢
        dsimp only [Try.f59, Option.getD]
        simp only [reduceIte, reduceCtorEq, Nat.reduceAdd, Nat.reduceMul, Nat.reduceSub, Nat.reduceEqDiff, Nat.reduceLT, Nat.reduceLeDiff, Nat.reduceBEq, Int.reduceLT, Int.reduceLE, Int.reduceEq,
    Int.reduceNe, Int.reduceAdd, Int.reduceSub, Int.reduceMul, Int.reduceToNat, push_cast, pairsOk, locGet, locSet, nextGen, e1, e2, e3, rdH_len, hnl, lw_same]
      · rw [if_neg hc2] at e3
        simp only [if_neg hc2, Option.bind_none, Option.map_none, RdOut]
        refine ⟨c + 1, some b, ?_, by simp [lwOver]⟩
        generalize c + 1 = c1 at e2 e3 ⊢
        dsimp only [Try.f59, Option.getD]
        simp only [reduceIte, reduceCtorEq, Nat.reduceAdd, Nat.reduceMul, Nat.reduceSub, Nat.reduceEqDiff, Nat.reduceLT, Nat.reduceLeDiff, Nat.reduceBEq, Int.reduceLT, Int.reduceLE, Int.reduceEq,
    Int.reduceNe, Int.reduceAdd, Int.reduceSub, Int.reduceMul, Int.reduceToNat, push_cast, pairsOk, locGet, locSet, nextGen, e1, e2, e3, rdH_len, hnl, lw_same]
    · rw [if_neg hc] at e2
      simp only [if_neg hc, Option.bind_none, Option.map_none, RdOut]
      refine ⟨c, some b, ?_, by simp [lwOver]⟩
      dsimp only [Try.f59, Option.getD]
      simp only [reduceIte, reduceCtorEq, Nat.reduceAdd, Nat.reduceMul, Nat.reduceSub, Nat.reduceEqDiff, Nat.reduceLT, Nat.reduceLeDiff, Nat.reduceBEq, Int.reduceLT, Int.reduceLE, Int.reduceEq,
    Int.reduceNe, Int.reduceAdd, Int.reduceSub, Int.reduceMul, Int.reduceToNat, push_cast, pairsOk, locGet, locSet, nextGen, e1, e2, rdH_len, hnl, lw_same]
end
end Go.Proofs.Ytmglahnoemgieaa.Ax
namespace Go.Proofs.Ytmglahnoemgieaa.Ax
open Go Go.RowKit
set_option linter.unusedSimpArgs false
set_option linter.unusedVariables false
set_option maxHeartbeats 8000000
set_option maxRecDepth 4000
variable {w0 : World} {t : Option Gf}
theorem room_mono {P : Program} {e m n : Nat} (h : roomOk P e m = true) (hn : n ≤ m) : roomOk P e n = true := by
  unfold roomOk at h ⊢
  split at h
  · rename_i i hi
    simp only [Bool.and_eq_true, decide_eq_true_eq] at h ⊢
    obtain ⟨⟨⟨h1, h2⟩, h3⟩, h4⟩ := h
    exact ⟨⟨⟨h1, h2⟩, Nat.le_trans (Nat.mul_le_mul_right _ hn) h3⟩, by omega⟩
  · cases h
theorem room90 : roomOk Try.prog 90 1000000 = true := by kernel_rfl
theorem room85 : roomOk Try.prog 85 1000000 = true := by kernel_rfl
theorem room40 : roomOk Try.prog 40 1000000 = true := by kernel_rfl
theorem room88 : roomOk Try.prog 88 1000000 = true := by kernel_rfl
/-- a slice of our own, or none yet: the newest block above a heap -/
def SlA (h : H) (v : AV) (cells : List AV) (n es : Nat) (hh : H) : Prop := (n = 0 ∧ cells = [] ∧ v = .val (.slice none 0 0) ∧ hh = h) ∨ ∃ g, v = .sl h.length g 0 n es ∧ hh = h ++ [⟨cells, g⟩]
theorem SlA.nb {h hh : H} {v : AV} {cells : List AV} {n es : Nat} (k : SlA h v cells n es hh) : noBx v = true ∧ oneA v = true := by
  rcases k with ⟨_, _, rfl, _⟩ | ⟨_, rfl, _⟩ <;> exact ⟨rfl, rfl⟩
theorem SlA.slR {h hh : H} {v : AV} {cells : List AV} {n es : Nat} (k : SlA h v cells n es hh) : SlR hh v cells n es := by
  rcases k with ⟨h1, _, h3, _⟩ | ⟨g, rfl, rfl⟩
  · exact .inr ⟨h1, h3⟩
  · exact .inl ⟨_, g, ⟨cells, g⟩, rfl, top_get, rfl, rfl⟩
theorem app_slA {call : CallF} {h hh : H} {v : AV} {cells xs : List AV} {n es e : Nat} (k : SlA h v cells n es hh) (hsz : sizeT Try.prog e = some es) (hr : roomOk Try.prog e 1000000 = true) (hes : 0 < es) (hc : cells.length = n * es) (hx : xs.length = es) (ho : xs.all oneA = true) (hn : n < 1000000) :
    ∃ v' hh' lw, doHeap (cfg w0 t) call hh (.app e v (.lit xs 1)) = some (.val v' hh' lw) ∧ SlA h v' (cells ++ xs) (n + 1) es hh' ∧ lwOver lw h.length = true ∧ noBx v' = true ∧ oneA v' = true := by
  have hs : ∀ hh, ((srcCells hh es (.lit xs 1)).orElse fun _ => srcForeign w0 es (.lit xs 1)) = some (xs, 1) := by
    intro hh
    simp [srcCells, hx]
  have h1 : ¬ (1 = 0) := by decide
  rcases k with ⟨rfl, rfl, rfl, rfl⟩ | ⟨g, rfl, rfl⟩
  · refine ⟨.sl hh.length 0 0 1 es, hh ++ [⟨xs, 0⟩], none, ?_, .inr ⟨0, by simp, by simp⟩, rfl, rfl, rfl⟩
    simp only [doHeap, cfg_P, cfg_w0, hsz, hs, ho, room_mono hr (show 1 ≤ 1000000 by omega), h1]
    rfl
  · refine ⟨.sl h.length (g + 1) 0 (n + 1) es, h ++ [⟨cells ++ xs, g + 1⟩], some h.length, ?_, .inr ⟨g + 1, rfl, rfl⟩, by simp [lwOver], rfl, rfl⟩
    have hroom := room_mono hr (show n + 1 ≤ 1000000 by omega)
    have e1 : List.take (n * es) cells = cells := by rw [← hc, List.take_length]
    have e2 : ¬ ((n + 1) * es ≤ cells.length) := by rw [hc, Nat.add_mul]; omega
    have e3 : n * es ≤ cells.length := by omega
    simp only [doHeap, cfg_P, cfg_w0, hsz, hs, ho, top_get, hroom, h1, top_set, Nat.zero_add, e1, e2, e3, hes]
    simp
theorem rdH_app {h e : H} {b : Nat} {s : ByteArray} {a : Nat} (hb : b < h.length) : rdH h b s a ++ e = rdH (h ++ e) b s a := by
  unfold rdH
  rw [List.set_append_left _ _ hb]
theorem SlA.under {h h' : H} {v : AV} {cells : List AV} {n es b : Nat} {s : ByteArray} {a : Nat} (k : SlA h v cells n es h') (hb : b < h.length) : SlA (rdH h b s a) v cells n es (rdH h' b s a) := by
  rcases k with ⟨h1, h2, h3, rfl⟩ | ⟨g, rfl, rfl⟩
  · exact .inl ⟨h1, h2, h3, rfl⟩
  · exact .inr ⟨g, by rw [rdH_len], (rdH_app hb).symm⟩
theorem SlA.over {h hh : H} {v : AV} {cells : List AV} {n es b : Nat} {s : ByteArray} {a : Nat} (k : SlA (rdH h b s a) v cells n es hh) (hb : b < h.length) : ∃ h', hh = rdH h' b s a ∧ SlA h v cells n es h' := by
  rcases k with ⟨h1, h2, h3, rfl⟩ | ⟨g, rfl, rfl⟩
  · exact ⟨h, rfl, .inl ⟨h1, h2, h3, rfl⟩⟩
  · exact ⟨h ++ [⟨cells, g⟩], rdH_app hb, .inr ⟨g, by rw [rdH_len], rfl⟩⟩
theorem SlA.le {h h' : H} {v : AV} {cells : List AV} {n es : Nat} (k : SlA h v cells n es h') : ∃ e, h' = h ++ e := by
  rcases k with ⟨_, _, _, rfl⟩ | ⟨g, _, rfl⟩
  · exact ⟨[], by simp⟩
  · exact ⟨_, rfl⟩
/-! ### what bytes say -/
def rdL (s : ByteArray) (a : Nat) : Option (Pl × Nat) := (rdT s a).bind fun (bk, c) => (rdP s c).bind fun (q, d) => some (⟨bk, q.1, q.2.1, q.2.2⟩, d)
def rdLs (s : ByteArray) : Nat → Nat → Option (List Pl × Nat)
  | 0, a => some ([], a)
  | n + 1, a => (rdL s a).bind fun (p, c) => (rdLs s n c).bind fun (l, d) => some (p :: l, d)
def rdE (s : ByteArray) (a : Nat) : Option (Ed × Nat) := (rdP s a).bind fun (q, c) => (rdN s c 2).bind fun (n, d) => (rdLs s n d).bind fun (l, e) => some (⟨q.1, q.2.1, q.2.2, l⟩, e)
theorem rdN_le {s : ByteArray} {a k : Nat} {n c : Nat} (h : rdN s a k = some (n, c)) : c ≤ s.size ∧ c = a + k := by
  have := rdN_some h
  omega
theorem rdP_le {s : ByteArray} {a : Nat} {q : ByteArray × Nat × Nat} {c : Nat} (h : rdP s a = some (q, c)) : c ≤ s.size ∧ a < c ∧ q.1.size ≤ 255 := by
  unfold rdP at h
  cases h1 : rdT s a with
  | none => rw [h1] at h; cases h
  | some p =>
    obtain ⟨x, c1⟩ := p
    rw [h1, Option.bind_some] at h
    simp only at h
    cases h2 : rdN s c1 1 with
    | none => rw [h2] at h; cases h
    | some p2 =>
      obtain ⟨n2, c2⟩ := p2
      rw [h2, Option.bind_some] at h
      simp only at h
      cases h3 : rdN s c2 2 with
      | none => rw [h3] at h; cases h
      | some p3 =>
        obtain ⟨n3, c3⟩ := p3
        rw [h3, Option.bind_some] at h
        cases h
        have q1 := rdT_le h1
        have q2 := rdN_le h2
        have q3 := rdN_le h3
        refine ⟨q3.1, by omega, q1.2.2.1⟩
theorem rdL_some {s : ByteArray} {a : Nat} {p : Pl} {c : Nat} (h : rdL s a = some (p, c)) : ∃ bk c1 q, rdT s a = some (bk, c1) ∧ rdP s c1 = some (q, c) ∧ p = ⟨bk, q.1, q.2.1, q.2.2⟩ := by
  unfold rdL at h
  cases h1 : rdT s a with
  | none => rw [h1] at h; cases h
  | some p1 =>
    obtain ⟨x, c1⟩ := p1
    rw [h1, Option.bind_some] at h
    simp only at h
    cases h2 : rdP s c1 with
    | none => rw [h2] at h; cases h
    | some p2 =>
      obtain ⟨q, c2⟩ := p2
      rw [h2, Option.bind_some] at h
      cases h
      exact ⟨x, c1, q, rfl, h2, rfl⟩
theorem lw_minb {b : Nat} {x : Option Nat} (h : lwOver x b = true) : lwMin (some b) x = some b := by
  cases x with
  | none => rfl
  | some y => simp [lwOver] at h; simp [lwMin]; omega
def R61 (h : H) (b : Nat) (s : ByteArray) (acc : List Pl) (sv cv rw' : AV) (loc0 : Loc) (F : Nat → AV) (v : Option (List Pl × Nat)) (R : Option (Ex × S)) : Prop := match v with
  | some (l, c) => ∃ F' loc' rv h', R = some (.exit 0, ⟨fl 34 F', loc', rdH h' b s c, some b⟩) ∧ SlA h rv (plsC (acc ++ l)) (acc ++ l).length 4 h' ∧ locGet loc' 3 = some (1, .cells [sv, cv, rw', rv]) ∧ locGet loc' 2 = locGet loc0 2 ∧ F' 2 = F 2 ∧ F' 3 = F 3
  | none => ∃ st, R = some (.pan brk, st) ∧ lwOver st.lw b = true
theorem R61.step {h : H} {b : Nat} {s : ByteArray} {acc : List Pl} {p : Pl} {sv cv rw' : AV} {loc0 loc : Loc} {F0 F : Nat → AV} {v : Option (List Pl × Nat)} {R : Option (Ex × S)} (k : R61 h b s (acc ++ [p]) sv cv rw' loc F v R) (h1 : locGet loc 2 = locGet loc0 2) (h2 : F 2 = F0 2) (h3 : F 3 = F0 3) :
    R61 h b s acc sv cv rw' loc0 F0 (v.bind fun q => some (p :: q.1, q.2)) R := by
  cases v with
  | none => exact k
  | some q =>
    obtain ⟨F', loc', rv, h', k1, k2, k3, k4, k5, k6⟩ := k
    rw [List.append_assoc, List.singleton_append] at k2
    exact ⟨F', loc', rv, h', k1, k2, k3, k4.trans h1, k5.trans h2, k6.trans h3⟩
theorem L61 (h : H) (b : Nat) (s : ByteArray) (hb : b < h.length) (hs : s.size ≤ 9223372036854775000) (n : Nat) (hn6 : n < 65536) (sv cv rw' : AV) : ∀ (m i a : Nat) (acc : List Pl) (rv : AV) (h1 : H) (F : Nat → AV) (loc : Loc), i + m = n → acc.length = i → a ≤ s.size →
    SlA h rv (plsC acc) acc.length 4 h1 → locGet loc 3 = some (1, .cells [sv, cv, rw', rv]) → F 0 = .ptr b 0 0 → F 3 = .bx 3 1 0 → F 13 = vI n → F 14 = vI i →
    R61 h b s acc sv cv rw' loc F (rdLs s m a) (acodeI (cfg w0 t) 61 (.loop (lp Try.f61 0)) ⟨fl 34 F, loc, rdH h1 b s a, some b⟩) := by
  dsimp only [lp, loopsOf, Try.f61, Option.getD, List.append_eq, List.nil_append, List.cons_append, List.getElem?_cons_zero, List.getElem?_cons_succ]
  intro m
  induction m with
  | zero =>
    intro i a acc rv h1 F loc hi hacc ha hS hl h0 h3 h13 h14
    have e : ¬ ((i : Int) < n) := by omega
    rw [X_loop]
    simp only [reduceIte, reduceCtorEq, Nat.reduceAdd, Nat.reduceMul, Nat.reduceSub, Nat.reduceEqDiff, Nat.reduceLT, Nat.reduceLeDiff, Nat.reduceBEq, Int.reduceLT, Int.reduceLE, Int.reduceEq,
    Int.reduceNe, Int.reduceAdd, Int.reduceSub, Int.reduceMul, Int.reduceToNat, push_cast, pairsOk, locGet_set, p2_int, intBin, h0, h3, h13, h14, e, R61, rdLs]
    exact ⟨_, _, rv, h1, rfl, hS, hl, rfl, by simp only [reduceIte, reduceCtorEq, Nat.reduceAdd, Nat.reduceMul, Nat.reduceSub, Nat.reduceEqDiff, Nat.reduceLT, Nat.reduceLeDiff, Nat.reduceBEq, Int.reduceLT, Int.reduceLE, Int.reduceEq,
    Int.reduceNe, Int.reduceAdd, Int.reduceSub, Int.reduceMul, Int.reduceToNat, push_cast, pairsOk, locGet_set], by simp only [reduceIte, reduceCtorEq, Nat.reduceAdd, Nat.reduceMul, Nat.reduceSub, Nat.reduceEqDiff, Nat.reduceLT, Nat.reduceLeDiff, Nat.reduceBEq, Int.reduceLT, Int.reduceLE, Int.reduceEq,
    Int.reduceNe, Int.reduceAdd, Int.reduceSub, Int.reduceMul, Int.reduceToNat, push_cast, pairsOk, locGet_set, h3]⟩
  | succ m ih =>
    intro i a acc rv h1 F loc hi hacc ha hS hl h0 h3 h13 h14
    have e : (i : Int) < n := by omega
    obtain ⟨ex, rfl⟩ := hS.le
    have hb1 : b < (h ++ ex).length := by rw [List.length_append]; omega
    have hw : IntKind.i64.wrap ((i : Int) + 1) = ((i + 1 : Nat) : Int) := by rw [wrap_i64] <;> omega
    have e1 := f67 (w0 := w0) (t := t) (h ++ ex) b s a hb1 ha hs
    unfold rdLs rdL
    generalize h ++ ex = h1 at *
    cases hT : rdT s a with
    | none =>
      rw [hT] at e1
      obtain ⟨c, lw1, e1, hlw1⟩ := e1
      rw [X_loop]
      simp only [reduceIte, reduceCtorEq, Nat.reduceAdd, Nat.reduceMul, Nat.reduceSub, Nat.reduceEqDiff, Nat.reduceLT, Nat.reduceLeDiff, Nat.reduceBEq, Int.reduceLT, Int.reduceLE, Int.reduceEq,
    Int.reduceNe, Int.reduceAdd, Int.reduceSub, Int.reduceMul, Int.reduceToNat, push_cast, pairsOk, locGet_set, p2_int, intBin, h0, h3, h13, h14, e, hl, e1, R61, Option.bind_none]
      exact ⟨_, rfl, by simp only [lwOver_min, lwo_some, hlw1, Nat.le_refl, decide_true, Bool.and_self]⟩
    | some p =>
      obtain ⟨bk, c⟩ := p
      rw [hT] at e1
      replace e1 : acallI (cfg w0 t) 67 [.ptr b 0 0] (rdH h1 b s a) = some (.ret (vS bk), rdH h1 b s c, some b) := e1
      have hle := rdT_le hT
      have e2 := f59 (w0 := w0) (t := t) h1 b s c hb1 hle.1 hs
      simp only [Option.bind_some]
      cases hP : rdP s c with
      | none =>
        rw [hP] at e2
        obtain ⟨d, lw2, e2, hlw2⟩ := e2
        rw [X_loop]
        simp only [reduceIte, reduceCtorEq, Nat.reduceAdd, Nat.reduceMul, Nat.reduceSub, Nat.reduceEqDiff, Nat.reduceLT, Nat.reduceLeDiff, Nat.reduceBEq, Int.reduceLT, Int.reduceLE, Int.reduceEq,
    Int.reduceNe, Int.reduceAdd, Int.reduceSub, Int.reduceMul, Int.reduceToNat, push_cast, pairsOk, locGet_set, p2_int, intBin, h0, h3, h13, h14, e, hl, e1, e2, R61, Option.bind_none]
        exact ⟨_, rfl, by simp only [lwOver_min, lwo_some, hlw2, Bool.and_self, Nat.le_refl, decide_true]⟩
      | some p2 =>
        obtain ⟨q, d⟩ := p2
        rw [hP] at e2
        replace e2 : acallI (cfg w0 t) 59 [.ptr b 0 0] (rdH h1 b s c) = some (.ret (.tup [vS q.1, .agg [vI q.2.1, vI q.2.2]]), rdH h1 b s d, some b) := e2
        have hle2 := rdP_le hP
        have hlc : (plsC acc).length = acc.length * 4 := plsC_length acc
        obtain ⟨rv2, hh2, lw3, hd, hS2, hlw3, hnb2⟩ := app_slA (w0 := w0) (t := t) (call := acallI (cfg w0 t)) (hS.under (s := s) (a := d) hb) sizeT_90 room90 (by decide) hlc (xs := [vS bk, vS q.1, vI q.2.1, vI q.2.2]) rfl rfl (by omega)
        obtain ⟨h2, rfl, hS3⟩ := hS2.over hb
        have hpls : plsC acc ++ [vS bk, vS q.1, vI q.2.1, vI q.2.2] = plsC (acc ++ [⟨bk, q.1, q.2.1, q.2.2⟩]) := by simp [plsC, plC]
        rw [hpls, show acc.length + 1 = (acc ++ [(⟨bk, q.1, q.2.1, q.2.2⟩ : Pl)]).length from by simp] at hS3
        have hnb := hS.nb
        have hlw4 : lwOver lw3 b = true := by
          rw [rdH_len] at hlw3
          cases lw3 with
          | none => rfl
          | some x => simp [lwOver] at hlw3 ⊢; omega
        have hlw5 := lw_minb hlw4
        simp only [Option.bind_some]
        have ih := ih (i + 1) d (acc ++ [⟨bk, q.1, q.2.1, q.2.2⟩]) rv2 h2
        rw [X_loop]
        simp only [reduceIte, reduceCtorEq, Nat.reduceAdd, Nat.reduceMul, Nat.reduceSub, Nat.reduceEqDiff, Nat.reduceLT, Nat.reduceLeDiff, Nat.reduceBEq, Int.reduceLT, Int.reduceLE, Int.reduceEq,
    Int.reduceNe, Int.reduceAdd, Int.reduceSub, Int.reduceMul, Int.reduceToNat, push_cast, pairsOk, locGet_set, p2_int, intBin, zerosA, List.range, List.range.loop, Nat.zero_mod, getT, h0, h3, h13, h14, e, hl, e1, e2, hd, hnb.1, hnb.2, hnb2.1, hnb2.2, c_one hnb2.2, hw, lw_same, hlw5]
        refine R61.step (ih _ _ (by omega) (by simp; omega) hle2.1 hS3 ?_ ?_ ?_ ?_ ?_) ?_ ?_ ?_ <;> simp only [reduceIte, reduceCtorEq, Nat.reduceAdd, Nat.reduceMul, Nat.reduceSub, Nat.reduceEqDiff, Nat.reduceLT, Nat.reduceLeDiff, Nat.reduceBEq, Int.reduceLT, Int.reduceLE, Int.reduceEq,
    Int.reduceNe, Int.reduceAdd, Int.reduceSub, Int.reduceMul, Int.reduceToNat, push_cast, pairsOk, locGet_set, h0, h3, h13, h14, hl, hnb2.1, hnb2.2]
end Go.Proofs.Ytmglahnoemgieaa.Ax
