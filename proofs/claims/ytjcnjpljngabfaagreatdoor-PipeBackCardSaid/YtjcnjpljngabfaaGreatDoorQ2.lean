import Derived.Test.YtjcnjpljngabfaaGreatDoorP2
namespace Go.Proofs.YtjcnjpljngabfaaGreatDoor
open Go.RowKit Go.Proofs.YtjcnjpljngabfaaGreatDoorW.PrintWords
set_option linter.unusedVariables false
/-! a stage's cases, over the words behind its first -/
section
variable {odd : Bool} {F : Nat} {ahead : Option (List BA)} {t : BA} {a k : Nat} {r : List Wd}
theorem RAt.gr {w w1 : World} {g : Nat} {s : BA} {ws : List Wd} {row : Option Nat} (h : RAt w g s ws F) (hb : w.grownBy w1 row) (hk : some g ≠ row) : RAt w1 g s ws F := by
  obtain ⟨i, h1, h, h2⟩ := h; exact ⟨i, h1, blk_grown h hb hk, h2⟩
theorem pass_x (g n : Nat) (s t x : BA) (a : Nat) (ws : List Wd) (bad : Bool) (ht : t ≠ barT) (hx : n + x.size = t.size) (hs : s.size ≤ 140737488351232) (w : World) (h : RAt w g s ((t, a) :: ws) F) :
    Calls Tryz.prog 51 #[.pointer (some ⟨g, 0, none⟩), .agg #[.string x, .int .i64 (a + n : Nat), .bool false, .bool bad]] w fun e w' =>
      e = .returned (.tuple #[]) ∧ RAt w' g s ws F ∧ w.grownBy w' (some g) := by
  obtain ⟨i, hi, hg, hw, hF⟩ := h
  rcases tok_cons hi hw with ⟨h0, _⟩ | ⟨hne, hsz, _, h1, h2, h3, _⟩
  · exact absurd h0 ht
  · refine (pass_calls g s x i (a + n) false bad (by omega) w hg).mono ?_
    rintro e w' ⟨rfl, h5, h6⟩
    have e : a + n + x.size + 0 = a + t.size := by omega
    exact ⟨rfl, ⟨_, h3, by simpa [e] using h5, h1, h2.trans hF⟩, h6⟩
theorem hdA_le {w : World} {g : Nat} {s : BA} {ws : List Wd} (h : RAt w g s ws F) : hdA F ws ≤ s.size := by
  obtain ⟨i, hi, _, hw, hF⟩ := h
  exact (tok_eq hi hw hF).2.1
end
/-- a slice of one text, laid by the call -/
theorem R_one {w : World} {b base : Nat} {ok : Nat → Prop} {y : BA} (h : w.heap[b]? = some (.cells #[.string y] 9 (0, 0))) (hb : base ≤ b) (ho : ok b) : Kd.string.R 9 w base ok (.slice (some ⟨b, 0, none⟩) 1 1) [y] :=
  Kd.R_of_own (xs := [y]) ⟨rfl, .inr ⟨b, 1, _, rfl, hb, h, Nat.le_refl _, by decide, rfl, rfl⟩⟩ (fun k hk => (show b = k by simpa [Value.ownBlock] using hk) ▸ ho)
theorem C_gb {w w1 : World} {g : Nat} {ad : Addr} {n : Nat} {l : List BA} (h : Kd.string.C w (some ad) n l) (hg : w.grownBy w1 (some g)) (ha : ad.block ≠ g) : Kd.string.C w1 (some ad) n l :=
  Kd.C_keep ByteArray.empty h (g := g) ⟨hg.size, fun i hi hne _ => hg.block i hi (by intro e; injection e with e; exact hne e)⟩ (fun a e _ => by injection e with e; rw [← e]; exact ha)
end Go.Proofs.YtjcnjpljngabfaaGreatDoor
