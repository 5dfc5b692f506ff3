/- The checks by the kernel, joined: whatever passes is a prime. -/
import Derived.Test.YtbnjmeeaaieicaaDoorK1
import Derived.Test.YtbnjmeeaaieicaaDoorKa3
import Derived.Test.YtbnjmeeaaieicaaDoorKa6
namespace Alg.MR
theorem checks : Checks where
  a := fun p h1 h2 => by
    rcases Nat.lt_or_ge p 1291 with h | h
    · exact all_of _ _ ka1 p (by omega) (by omega)
    rcases Nat.lt_or_ge p 2291 with h' | h
    · exact all_of _ _ ka2 p (by omega) (by omega)
    rcases Nat.lt_or_ge p 4291 with h' | h
    · exact all_of _ _ ka3 p (by omega) (by omega)
    rcases Nat.lt_or_ge p 10291 with h' | h
    · exact all_of _ _ ka4 p (by omega) (by omega)
    rcases Nat.lt_or_ge p 19291 with h' | h
    · exact all_of _ _ ka5 p (by omega) (by omega)
    rcases Nat.lt_or_ge p 28291 with h' | h
    · exact all_of _ _ ka6 p (by omega) (by omega)
    rcases Nat.lt_or_ge p 37291 with h' | h
    · exact all_of _ _ ka7 p (by omega) (by omega)
    · exact all_of _ _ ka8 p (by omega) (by omega)
  e := ke
  f := fun p h1 h2 => by
    rcases Nat.lt_or_ge p 81 with h | h
    · exact all_of _ _ kf1 p (by omega) (by omega)
    rcases Nat.lt_or_ge p 181 with h' | h
    · exact all_of _ _ kf2 p (by omega) (by omega)
    rcases Nat.lt_or_ge p 400 with h' | h
    · exact all_of _ _ kf3 p (by omega) (by omega)
    rcases Nat.lt_or_ge p 800 with h' | h
    · exact all_of _ _ kf4 p (by omega) (by omega)
    · exact all_of _ _ kf5 p (by omega) (by omega)
end Alg.MR
