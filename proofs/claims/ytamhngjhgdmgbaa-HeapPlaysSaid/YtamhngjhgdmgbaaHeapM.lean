/- The heap's order: total and transitive on entries whose words are words; any two that were pushed are told apart. -/
import Derived.Test.YtamhngjhgdmgbaaHeapA
import Derived.Test.YtamhngjhgdmgbaaHeapOrd
import Derived.Test.YtamhngjhgdmgbaaCmpMath
namespace Go.Proofs.Ytamhngjhgdmgbaa
open Go.RowKit

structure Ent where
  id : Int
  hi : Int
  lo : Int
  den : Int
  item : Bool
  node : Int
structure Psh where
  e : Ent
  c : Int
def e0 : Ent := ⟨0, 0, 0, 0, false, 0⟩
def p0 : Psh := ⟨e0, 0⟩
def WordE (e : Ent) : Prop := Word e.hi ∧ Word e.lo ∧ Word e.den
def cmpEn (a b : Ent) : Int := cmpE a.id a.hi a.lo a.den a.item a.node b.id b.hi b.lo b.den b.item b.node
def ordP (a b : Psh) : Int := orV [cmpEn a.e b.e, cmpV a.c b.c]
/-- a does not stand behind b. -/
def leP (a b : Psh) : Prop := ordP a b ≤ 0

theorem or2 (x y : Int) : orV [x, y] = if x = 0 then y else x := by
  simp only [orV]
  by_cases h : x = 0
  · rw [if_pos h, if_pos h]; by_cases h2 : y = 0 <;> simp [h2]
  · rw [if_neg h, if_neg h]
theorem or3 (x y z : Int) : orV [x, y, z] = orV [x, orV [y, z]] := by
  rw [or2 x]; simp only [orV]
def Tr (a b c : Int) : Prop := a ≤ 0 → b ≤ 0 → c ≤ 0 ∧ (a < 0 ∨ b < 0 → c < 0)
theorem Tr.lex {a1 a2 a3 b1 b2 b3 : Int} (h : Tr a1 a2 a3) (h' : Tr b1 b2 b3) : Tr (orV [a1, b1]) (orV [a2, b2]) (orV [a3, b3]) := by
  unfold Tr at *
  rw [or2, or2, or2]
  split <;> split <;> split <;> omega
theorem cmpV_tr (x y z : Int) : Tr (cmpV x y) (cmpV y z) (cmpV x z) := by unfold Tr cmpV; omega
theorem cmpEn_tr {a b c : Ent} (ha : WordE a) (hb : WordE b) (hc : WordE c) : Tr (cmpEn a b) (cmpEn b c) (cmpEn a c) := by
  unfold cmpEn cmpE
  rw [or3, or3, or3]
  refine Tr.lex ?_ (Tr.lex (cmpV_tr _ _ _) (cmpV_tr _ _ _))
  rw [cmpD_cmpN, cmpD_cmpN, cmpD_cmpN]
  exact fun h1 h2 => cmpN_trans ha.2.2.1 hb.2.2.1 hc.2.2.1 h1 h2
theorem or2_neg {x y x' y' : Int} (h1 : x' = -x) (h2 : y' = -y) : orV [x', y'] = -orV [x, y] := by rw [or2, or2]; split <;> split <;> omega
theorem cmpEn_neg (a b : Ent) : cmpEn b a = -cmpEn a b := by
  unfold cmpEn cmpE
  rw [or3, or3]
  exact or2_neg (by rw [cmpD_cmpN, cmpD_cmpN, cmpN_neg]) (or2_neg (cmpV_neg _ _) (cmpV_neg _ _))
theorem ordP_neg (a b : Psh) : ordP b a = -ordP a b := or2_neg (cmpEn_neg _ _) (cmpV_neg _ _)
theorem leP_refl (a : Psh) : leP a a := by have := ordP_neg a a; unfold leP; omega
theorem leP_total (a b : Psh) : leP a b ∨ leP b a := by have := ordP_neg a b; unfold leP; omega
theorem leP_trans {a b c : Psh} (ha : WordE a.e) (hb : WordE b.e) (hc : WordE c.e) (h1 : leP a b) (h2 : leP b c) : leP a c :=
  ((cmpEn_tr ha hb hc).lex (cmpV_tr a.c b.c c.c) h1 h2).1
theorem leP_anti {a b : Psh} (h1 : leP a b) (h2 : leP b a) : a.c = b.c := by
  have e := ordP_neg a b
  unfold leP at *
  have e0 : ordP a b = 0 := by omega
  unfold ordP at e0
  rw [or2] at e0
  split at e0
  · exact cmpV_zero.1 e0
  · contradiction
end Go.Proofs.Ytamhngjhgdmgbaa
