/- The package build: remark, chars. -/
import Derived.Test.YtlfkipilgdeemaaK6
namespace Go.Proofs.Ytlfkipilgdeemaa
open Go.RowKit Go.Maps Go.WideMaps

/-- THE BUILDER IN BLOCK bb IS THE ZIPPER z -/
def BI (w : World) (base bb N : Nat) (z : Zp) : Prop := ∃ own mm g outs opens, MI w own base bb mm N g outs opens (cntF z.fr) ∧ ZR g outs opens w.heap.size z
theorem BI.below {w w' : World} {base bb N B : Nat} {z : Zp} (h : BI w base bb N z) (hb : Below B w w') (hB : w.heap.size ≤ B) : BI w' base bb N z := by
  obtain ⟨own, mm, g, outs, opens, h1, h2⟩ := h
  exact ⟨own, mm, g, outs, opens, h1.below hb hB, h2.more hb.size⟩
theorem ZR.head {g : Sto} {outs opens : List Nat} {hi : Nat} {z : Zp} (h : ZR g outs opens hi z) : ∀ p bs, opens = p :: bs → p < hi ∧ ∃ r, g p = some r := by
  rintro p bs rfl
  obtain ⟨fr, last⟩ := z
  obtain ⟨h1, h2⟩ := h
  have := h2.lohi
  match fr, h1 with
  | [], h1 => exact absurd h1 (by simp [Sp])
  | (k, h') :: fs, h1 =>
    simp only [Sp] at h1
    obtain ⟨⟨ids, e⟩, _⟩ := h1
    exact ⟨this, _, e⟩
/-- a token, as it is handed over -/
def tkV (t : Tk) (A : Option Addr) (c : Nat) : Value := .agg #[.int .i64 t.kind, .string ⟨t.name.toArray⟩, .slice A t.attrs.length c, .string ⟨t.text.toArray⟩]

/-- add, of a new record -/
theorem add_new {w : World} {own : Own} {base bb mm N : Nat} {g : Sto} {outs opens : List Nat} {f : Value → Option Value} {hi b : Nat} {z : Zp} {k : Int} {nm : List UInt8} {ats : List Atr} {tx : List UInt8}
    (h : MI w own base bb mm N (g.set b ⟨k, nm, ats, tx, []⟩) outs opens f) (hz : ZR g outs opens hi z) (hb : hi ≤ b) (hbs : b < w.heap.size) (hN : N ≤ 1000) :
    Calls Try.prog 32 #[.pointer (some ⟨bb, 0, none⟩), .pointer (some ⟨b, 0, none⟩)] w fun e w' => e = .returned (.tuple #[]) ∧ Below base w w' ∧ Frm own w w' ∧
      ∃ own' g' outs', MI w' own' base bb mm (N + 1) g' outs' opens f ∧ ZR g' outs' opens w'.heap.size ⟨z.fr, z.last ++ [.mk k nm ats tx []]⟩ ∧ ∃ cl, plIds g' outs' opens = cl ++ [b] := by
  have hp : ∀ p bs, opens = p :: bs → ∃ r, (g.set b ⟨k, nm, ats, tx, []⟩) p = some r := by
    intro p bs e
    obtain ⟨h1, r, h2⟩ := hz.head p bs e
    exact ⟨r, (Sto.set_other _ _ (by omega)).trans h2⟩
  refine (add_any h hp hN b).mono ?_
  rintro e w' ⟨rfl, b1, f1, own', _, h1⟩
  have hsz := b1.size
  obtain ⟨h2, h3⟩ := hz.add hb k nm ats tx
  exact ⟨rfl, b1, f1, own', _, _, h1, h2.more (by omega), _, h3⟩

theorem own_fresh {w : World} {own : Own} {base bb mm N : Nat} {g : Sto} {outs opens : List Nat} {f : Value → Option Value} (h : MI w own base bb mm N g outs opens f) {b : Nat} (hb : w.heap.size ≤ b) : own b = none := by
  cases ho : own b with
  | none => rfl
  | some x => have := (h.lt b x ho).2; omega

set_option maxHeartbeats 1000000 in
set_option maxRecDepth 100000 in
/-- remark -/
theorem remark_any {w : World} {base bb N : Nat} {z : Zp} (h : BI w base bb N z) (hN : N ≤ 900) (t : Tk) (A : Option Addr) (c : Nat) (ht : t.text.length ≤ 1000) :
    Calls Try.prog 25 #[.pointer (some ⟨bb, 0, none⟩), tkV t A c] w fun e w' => e = .returned (.tuple #[]) ∧ Below base w w' ∧ BI w' base bb (N + 3) (remarkZ z t.text) := by
  obtain ⟨own, mm, g, outs, opens, h1, h2⟩ := h
  have hbase := (h1.lt bb _ h1.me)
  have b0 : Below w.heap.size w (w.alloc (.cells #[.int .i64 t.kind, .string ⟨t.name.toArray⟩, .slice A t.attrs.length c, .string ⟨t.text.toArray⟩] 29)) := (Below.refl _ w).alloc (Nat.le_refl _) _
  have b1 := b0.alloc (by simp) (.cells #[.int .i64 3, .string ⟨#[]⟩, .slice none 0 0, .string ⟨t.text.toArray⟩, .slice none 0 0, .slice none 0 0, .slice none 0 0] 57)
  have hnew := heap_alloc_new (w.alloc (.cells #[.int .i64 t.kind, .string ⟨t.name.toArray⟩, .slice A t.attrs.length c, .string ⟨t.text.toArray⟩] 29)) (.cells #[.int .i64 3, .string ⟨#[]⟩, .slice none 0 0, .string ⟨t.text.toArray⟩, .slice none 0 0, .slice none 0 0, .slice none 0 0] 57)
  rw [World.size_alloc] at hnew
  have hM := (h1.below b1 (Nat.le_refl _)).more (Nat.le_succ N)
  obtain ⟨own', _, hM', _⟩ := hM.new (b := w.heap.size + 1) (k := 3) (nm := []) (ats := []) (tx := t.text) (A := none) (n := 0) (c := 0) (TV := .slice none 0 0) (e2 := 0) hnew (by omega) (own_fresh h1 (by omega)) (World.ownsRow_nil _ _ _ _) (fun q hq => by simp [Value.ownBlock] at hq)
    (ByR.nil _ _) (fun q hq => by simp [Value.ownBlock] at hq) (by simp) (by omega) (by simp)
  have HM := Lib.hid hM'
  have HB := Lib.hid b1
  clear hM hM' hnew b0 b1 h1
  go_enter Try.func25, Try.ntmps25
  unfold tkV
  go_wp2_with fail
  refine (add_new HM.out h2 (Nat.le_succ _) (by simp) (by omega)).mono ?_
  rintro e W2 ⟨rfl, b2, _, own2, g2, outs2, m2, z2, _⟩
  have B2 := (HB.out.mono (Nat.le_of_lt (Nat.lt_of_le_of_lt hbase.1 hbase.2))).trans b2
  go_wp2
  go_end0
  exact ⟨rfl, B2, own2, mm, g2, outs2, opens, m2.more (by omega), z2⟩
end Go.Proofs.Ytlfkipilgdeemaa
