/- The seat: its contracts lie in the slices. -/
import Derived.Test.YtoeijiackpanoaaDoorSl5
