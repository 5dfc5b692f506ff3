/- Images of polynomials with whole coefficients modulo a prime, and back: in words of lists. -/
import Derived.Test.YtbnjmeeaaieicaaDoorV4
open Alg
namespace Alg
/-- the image modulo p -/
def imL (p : Nat) (F : List (Bool × List Nat)) : List Nat := trim (F.map fun x => remZ p x.1 (valN x.2))
/-- coefficients from 0 on -/
def zupL (l : List Nat) : List (Bool × List Nat) := l.map fun c => (false, lim c)
def symC (p c : Nat) : Bool × List Nat := if p < 2 * c then (true, lim (p - c)) else (false, lim c)
/-- coefficients about 0 -/
def zsymL (p : Nat) (l : List Nat) : List (Bool × List Nat) := l.map (symC p)
theorem imL_canon {p : Nat} (hp : 0 < p) (F : List (Bool × List Nat)) : Canon p (imL p F) := Canon.trim fun c hc => by
  obtain ⟨x, _, rfl⟩ := List.mem_map.1 hc
  exact remZ_lt hp
theorem trim_canon {p : Nat} {l : List Nat} (h : Canon p l) : trim l = l := by
  have := trim_nth l l.length l.length rfl (Nat.le_refl _) (fun i h1 h2 => by omega) (by
    rcases h.top with h1 | h1
    · left; rw [h1]; rfl
    · right; exact h1)
  rw [← this, List.take_length]
theorem imL_map {p : Nat} (l : List Nat) (f : Nat → Bool × List Nat) (h : Canon p l) (hf : ∀ c, c ∈ l → remZ p (f c).1 (valN (f c).2) = c) : imL p (l.map f) = l := by
  unfold imL
  rw [List.map_map]
  have : (l.map ((fun x : Bool × List Nat => remZ p x.1 (valN x.2)) ∘ f)) = l := by
    conv => rhs; rw [← List.map_id l]
    exact List.map_congr_left fun c hc => hf c hc
  rw [this, trim_canon h]
theorem imL_up {p : Nat} {l : List Nat} (h : Canon p l) : imL p (zupL l) = l :=
  imL_map l _ h fun c hc => by
    have := h.lt c hc
    show remZ p false (valN (lim c)) = c
    rw [valN_lim, remZ, if_neg (by simp), Nat.mod_eq_of_lt this]
theorem imL_sym {p : Nat} {l : List Nat} (h : Canon p l) : imL p (zsymL p l) = l :=
  imL_map l _ h fun c hc => by
    have h1 := h.lt c hc
    unfold symC
    by_cases h2 : p < 2 * c
    · rw [if_pos h2]
      show remZ p true (valN (lim (p - c))) = c
      rw [valN_lim, remZ, Nat.mod_eq_of_lt (by omega), if_pos ⟨rfl, by omega⟩]
      omega
    · rw [if_neg h2]
      show remZ p false (valN (lim c)) = c
      rw [valN_lim, remZ, if_neg (by simp), Nat.mod_eq_of_lt h1]
/-- one limb more, from the top, modulo p -/
def hornP (p : Nat) (l : List Nat) (k : Nat) : Nat := valN (l.drop k) % p
theorem hornP_top (p : Nat) (l : List Nat) : hornP p l l.length = 0 := by
  unfold hornP
  rw [List.drop_length]
  show 0 % p = 0
  exact Nat.zero_mod p
theorem hornP_step (p : Nat) (l : List Nat) {k : Nat} (hk : k < l.length) : hornP p l k = (hornP p l (k + 1) * 4294967296 + nth l k) % p := by
  unfold hornP
  rw [List.drop_eq_getElem_cons hk]
  show (l[k] + 4294967296 * valN (l.drop (k + 1))) % p = _
  have : nth l k = l[k] := by simp [nth, List.getD_eq_getElem?_getD, hk]
  rw [this, Nat.add_comm, Nat.mul_comm, Nat.add_mod, ← Nat.mod_mul_mod (valN (List.drop (k + 1) l)) 4294967296 p, ← Nat.add_mod]
theorem hornP_zero (p : Nat) (l : List Nat) : hornP p l 0 = valN l % p := by unfold hornP; rw [List.drop_zero]
end Alg
